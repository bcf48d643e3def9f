/-
  Whether anything of a class is too much: package check and the document.
-/
import Derived.Test.YtcklmhbcjgiplaaCkF
import Derived.Deep.RegionHeld2
namespace Go.Proofs.Ytcklmhbcjgiplaa
set_option linter.unusedVariables false
set_option linter.unusedSimpArgs false
open Go.RowKit
set_option maxRecDepth 100000

theorem any_atX {α : Type} {l : List α} {p : α → Bool} {k : Nat} {x : α} (h : l[k]? = some x) (hp : p x = true) : l.any p = true := List.any_eq_true.2 ⟨x, List.mem_of_getElem? h, hp⟩
theorem any_takeX {α : Type} {l : List α} {p : α → Bool} {k : Nat} {x : α} (h : l[k]? = some x) (h0 : (l.take k).any p = false) (hp : p x = false) : (l.take (k + 1)).any p = false := by
  rw [List.take_add_one, h, List.any_append, h0]
  simp [hp]
def muchM (x : MethC × Value × Value) : Bool := decide (64 < x.1.traps.length) || decide (4096 < x.1.code.length)
theorem muchB_mv {c : ClassC} {mv : List (MethC × Value × Value)} (h : c.methods = mv.map fun x => x.1) : muchB c = (decide (1024 < c.pool.length) || decide (64 < c.ifaces.length) || decide (64 < c.fields.length) || decide (64 < mv.length) || mv.any muchM) := by
  unfold muchB
  rw [h, List.length_map, List.any_map]
  rfl
set_option maxHeartbeats 4000000 in
theorem check_long (c : ClassC) (mv : List (MethC × Value × Value)) (vP vI vF vM : Value) (w : World) (h : CRd w c mv vP vI vF vM) :
    Calls Try.prog 28 #[.agg (classV c vP vI vF vM).toArray] w (BoolG (muchB c) w) := by
  obtain ⟨R, hR⟩ : ∃ R, R = muchB c := ⟨_, rfl⟩
  rw [← hR]
  rw [muchB_mv h.ms] at hR
  obtain ⟨aP, kP, aI, kI, aF, kF, aM, kM, rfl, rfl, rfl, rfl⟩ := h.forms
  obtain ⟨nP, hnP⟩ : ∃ n, n = c.pool.length := ⟨_, rfl⟩
  obtain ⟨nI, hnI⟩ : ∃ n, n = c.ifaces.length := ⟨_, rfl⟩
  obtain ⟨nF, hnF⟩ : ∃ n, n = c.fields.length := ⟨_, rfl⟩
  obtain ⟨nM, hnM⟩ : ∃ n, n = mv.length := ⟨_, rfl⟩
  change Calls Try.prog 28 #[.agg #[.int .i64 c.minor, .int .i64 c.major, .slice aP c.pool.length kP, .int .i64 c.access, .int .i64 c.this, .int .i64 c.super, .slice aI c.ifaces.length kI, .slice aF c.fields.length kF, .slice aM mv.length kM]] w _
  have HMS := Lib.hid h.ms
  rw [← hnP, ← hnI, ← hnF, ← hnM] at h ⊢
  have r1 := h.p
  have r2 := h.i
  have r3 := h.f
  have r4 := h.m
  rw [← hnP] at r1
  rw [← hnI] at r2
  rw [← hnF] at r3
  rw [← hnM] at r4
  have m1 : nP ≤ 9223372036854775807 := by obtain ⟨_, _, _, e, q1, q2, _⟩ := r1; cases e; omega
  have m2 : nI ≤ 9223372036854775807 := by obtain ⟨_, _, _, e, q1, q2, _⟩ := r2; cases e; omega
  have m3 : nF ≤ 9223372036854775807 := by obtain ⟨_, _, _, e, q1, q2, _⟩ := r3; cases e; omega
  have m4 : nM ≤ 9223372036854775807 := by obtain ⟨_, _, _, e, q1, q2, _⟩ := r4; cases e; omega
  have N1 := Lib.hid hnP
  have N2 := Lib.hid hnI
  have N3 := Lib.hid hnF
  have N4 := Lib.hid hnM
  clear hnP hnI hnF hnM
  have hk : Kept w (w.alloc (.cells #[.int .i64 c.minor, .int .i64 c.major, .slice aP nP kP, .int .i64 c.access, .int .i64 c.this, .int .i64 c.super, .slice aI nI kI, .slice aF nF kF, .slice aM nM kM] 27)) := (Below.refl _ _).alloc (Nat.le_refl _) _
  have HK := Lib.hid hk
  have HPP := Lib.hid (r1.kept hk)
  have HII := Lib.hid (r2.kept hk)
  have HFF := Lib.hid (r3.kept hk)
  have HMM := Lib.hid (r4.kept hk)
  have HRR := Lib.hid (fun x hx => (h.r x hx).kept hk)
  clear r1 r2 r3 r4
  have HB := Lib.hid (Blk.new w 27 #[.int .i64 c.minor, .int .i64 c.major, .slice aP nP kP, .int .i64 c.access, .int .i64 c.this, .int .i64 c.super, .slice aI nI kI, .slice aF nF kF, .slice aM nM kM])
  have HH := Lib.hid (show w.heap.size < (w.alloc (.cells #[.int .i64 c.minor, .int .i64 c.major, .slice aP nP kP, .int .i64 c.access, .int .i64 c.this, .int .i64 c.super, .slice aI nI kI, .slice aF nF kF, .slice aM nM kM] 27)).heap.size by simp)
  clear hk h
  rw [N1.out.symm, N2.out.symm, N3.out.symm, N4.out.symm] at hR
  have HR := Lib.hid hR
  clear hR
  go_enter Try.func28, Try.ntmps28
  go_upto_region 1 with fail
  generalize (w.alloc (.cells #[.int .i64 c.minor, .int .i64 c.major, .slice aP nP kP, .int .i64 c.access, .int .i64 c.this, .int .i64 c.super, .slice aI nI kI, .slice aF nF kF, .slice aM nM kM] 27)) = W at *
  have c0 := HB.out.cell 0
  have c1 := HB.out.cell 1
  have c2 := HB.out.cell 2
  have c3 := HB.out.cell 3
  have c4 := HB.out.cell 4
  have c5 := HB.out.cell 5
  have c6 := HB.out.cell 6
  have c7 := HB.out.cell 7
  have c8 := HB.out.cell 8
  simp only [List.getElem?_toArray, List.getElem?_cons_succ, List.getElem?_cons_zero] at c0 c1 c2 c3 c4 c5 c6 c7 c8
  by_cases h1 : 1024 < nP
  · have h1I : (1024 : Int) < (nP : Int) := by omega
    have HR2 := Lib.hid (show R = true by rw [HR.out]; simp [h1])
    go_wp2_with fail
    go_ret
    exact ⟨by rw [HR2.out]; rfl, HK.out⟩
  have h1I : ¬ (1024 : Int) < (nP : Int) := by omega
  by_cases h2 : 64 < nI
  · have h2I : (64 : Int) < (nI : Int) := by omega
    have HR2 := Lib.hid (show R = true by rw [HR.out]; simp [h2])
    go_wp2_with fail
    go_ret
    exact ⟨by rw [HR2.out]; rfl, HK.out⟩
  have h2I : ¬ (64 : Int) < (nI : Int) := by omega
  by_cases h3 : 64 < nF
  · have h3I : (64 : Int) < (nF : Int) := by omega
    have HR2 := Lib.hid (show R = true by rw [HR.out]; simp [h3])
    go_wp2_with fail
    go_ret
    exact ⟨by rw [HR2.out]; rfl, HK.out⟩
  have h3I : ¬ (64 : Int) < (nF : Int) := by omega
  by_cases h4 : 64 < nM
  · have h4I : (64 : Int) < (nM : Int) := by omega
    have HR2 := Lib.hid (show R = true by rw [HR.out]; simp [h4])
    go_wp2_with fail
    go_ret
    exact ⟨by rw [HR2.out]; rfl, HK.out⟩
  have h4I : ¬ (64 : Int) < (nM : Int) := by omega
  have HR3 := Lib.hid (show R = mv.any muchM by rw [HR.out]; simp [h1, h2, h3, h4])
  clear HR
  go_wp2_with fail
  go_loopw [30] (fun s wr => ∃ k : Nat, k ≤ nM ∧ s = .int .i64 k ∧ Kept W wr ∧ (mv.take k).any muchM = false) (fun s _ => nM - (intOf s).toNat)
  case atStart => exact ⟨0, Nat.zero_le _, rfl, Below.refl _ _, by simp⟩
  case round =>
    obtain ⟨k, hk, rfl, hkw, ha⟩ := hrel
    have HA := Lib.hid ha
    clear ha
    by_cases hlt : k < nM
    rotate_left
    · obtain rfl : k = nM := by omega
      have HKW := Lib.hid hkw
      clear hkw
      have HR4 := Lib.hid (show R = false by rw [HR3.out, ← HA.out, List.take_of_length_le (by have := N4.out; omega)])
      go_wp2_with fail
      go_ret
      exact ⟨by rw [HR4.out]; rfl, Kept.trans HK.out HKW.out⟩
    obtain ⟨⟨m, vc, vt⟩, hx⟩ : ∃ x, mv[k]? = some x := ⟨_, List.getElem?_eq_getElem (by have := N4.out; omega)⟩
    obtain ⟨b1, o1, d1, hv1, e0, e1, e2, e3, e4, e5, e6, e7⟩ := meth_cells N4.out (HMM.out.kept hkw) hx
    have hrm : MRd wr m vc vt := (HRR.out _ (List.mem_of_getElem? hx)).kept hkw
    simp only [Value.slice.injEq] at hv1
    obtain ⟨rfl, -, rfl⟩ := hv1
    dsimp only at e0 e1 e2 e3 e4 e5 e6 e7
    obtain ⟨lc, hlc⟩ : ∃ lc, lc = m.code.length := ⟨_, rfl⟩
    obtain ⟨lt, hlt'⟩ : ∃ lt, lt = m.traps.length := ⟨_, rfl⟩
    have hrc := hrm.code
    have hrt := hrm.traps
    clear hrm
    rw [← hlc] at hrc
    rw [← hlt'] at hrt
    have HRc := Lib.hid hrc
    have HRt := Lib.hid hrt
    obtain ⟨_, ac, kc, rfl, -⟩ := hrc
    obtain ⟨_, at_, kt, rfl, -⟩ := hrt
    have hkI : (k : Int) < (nM : Int) := by omega
    have h0I : (0 : Int) ≤ (k : Int) := by omega
    have HX := Lib.hid hx
    have HLC := Lib.hid hlc
    have HLT := Lib.hid hlt'
    clear hx hlc hlt' 
    have HKW := Lib.hid hkw
    clear hkw
    go_upto_region 6 with fail
    have hkt : Kept wr (wr.alloc (.cells #[.int .i64 m.access, .int .i64 m.name, .int .i64 m.desc, .bool m.has, .int .i64 m.stack, .int .i64 m.locals, .slice ac lc kc, .slice at_ lt kt] 52)) := (Below.refl _ _).alloc (Nat.le_refl _) _
    have HBm := Lib.hid (Blk.new wr 52 #[.int .i64 m.access, .int .i64 m.name, .int .i64 m.desc, .bool m.has, .int .i64 m.stack, .int .i64 m.locals, .slice ac lc kc, .slice at_ lt kt])
    have KT := Lib.hid (Kept.trans HKW.out hkt)
    clear hkt
    generalize (wr.alloc (.cells #[.int .i64 m.access, .int .i64 m.name, .int .i64 m.desc, .bool m.has, .int .i64 m.stack, .int .i64 m.locals, .slice ac lc kc, .slice at_ lt kt] 52)) = wm at *
    have t0 := HBm.out.cell 0
    have t1 := HBm.out.cell 1
    have t2 := HBm.out.cell 2
    have t3 := HBm.out.cell 3
    have t4 := HBm.out.cell 4
    have t5 := HBm.out.cell 5
    have t6 := HBm.out.cell 6
    have t7 := HBm.out.cell 7
    simp only [List.getElem?_toArray, List.getElem?_cons_succ, List.getElem?_cons_zero] at t0 t1 t2 t3 t4 t5 t6 t7
    by_cases q1 : 64 < lt
    · have q1I : (64 : Int) < (lt : Int) := by omega
      have HR4 := Lib.hid (show R = true by rw [HR3.out]; exact any_atX HX.out (by unfold muchM; dsimp only; rw [← HLT.out]; simp [q1]))
      go_wp2_with fail
      go_ret
      exact ⟨by rw [HR4.out]; rfl, Kept.trans HK.out KT.out⟩
    have q1I : ¬ (64 : Int) < (lt : Int) := by omega
    by_cases q2 : 4096 < lc
    · have q2I : (4096 : Int) < (lc : Int) := by omega
      have HR4 := Lib.hid (show R = true by rw [HR3.out]; exact any_atX HX.out (by unfold muchM; dsimp only; rw [← HLC.out]; simp [q2]))
      go_wp2_with fail
      go_ret
      exact ⟨by rw [HR4.out]; rfl, Kept.trans HK.out KT.out⟩
    have q2I : ¬ (4096 : Int) < (lc : Int) := by omega
    have HQ := Lib.hid (show muchM (m, .slice ac lc kc, .slice at_ lt kt) = false by unfold muchM; dsimp only; rw [← HLT.out, ← HLC.out]; simp [q1, q2])
    go_wp2_with fail
    go_roundw
    case rel => exact ⟨k + 1, by omega, by go_num, KT.out, any_takeX HX.out HA.out HQ.out⟩
    case measure => simp [intOf]; omega
set_option maxHeartbeats 4000000 in
theorem ref5_long (c : ClassC) (mv : List (MethC × Value × Value)) (vP vI vF vM : Value) (w : World) (h : CRd w c mv vP vI vF vM) :
    Calls Try.prog 77 #[.agg (classV c vP vI vF vM).toArray] w (BoolG (muchB c) w) := by
  obtain ⟨R, hR⟩ : ∃ R, R = muchB c := ⟨_, rfl⟩
  rw [← hR]
  rw [muchB_mv h.ms] at hR
  obtain ⟨aP, kP, aI, kI, aF, kF, aM, kM, rfl, rfl, rfl, rfl⟩ := h.forms
  obtain ⟨nP, hnP⟩ : ∃ n, n = c.pool.length := ⟨_, rfl⟩
  obtain ⟨nI, hnI⟩ : ∃ n, n = c.ifaces.length := ⟨_, rfl⟩
  obtain ⟨nF, hnF⟩ : ∃ n, n = c.fields.length := ⟨_, rfl⟩
  obtain ⟨nM, hnM⟩ : ∃ n, n = mv.length := ⟨_, rfl⟩
  change Calls Try.prog 77 #[.agg #[.int .i64 c.minor, .int .i64 c.major, .slice aP c.pool.length kP, .int .i64 c.access, .int .i64 c.this, .int .i64 c.super, .slice aI c.ifaces.length kI, .slice aF c.fields.length kF, .slice aM mv.length kM]] w _
  have HMS := Lib.hid h.ms
  rw [← hnP, ← hnI, ← hnF, ← hnM] at h ⊢
  have r1 := h.p
  have r2 := h.i
  have r3 := h.f
  have r4 := h.m
  rw [← hnP] at r1
  rw [← hnI] at r2
  rw [← hnF] at r3
  rw [← hnM] at r4
  have m1 : nP ≤ 9223372036854775807 := by obtain ⟨_, _, _, e, q1, q2, _⟩ := r1; cases e; omega
  have m2 : nI ≤ 9223372036854775807 := by obtain ⟨_, _, _, e, q1, q2, _⟩ := r2; cases e; omega
  have m3 : nF ≤ 9223372036854775807 := by obtain ⟨_, _, _, e, q1, q2, _⟩ := r3; cases e; omega
  have m4 : nM ≤ 9223372036854775807 := by obtain ⟨_, _, _, e, q1, q2, _⟩ := r4; cases e; omega
  have N1 := Lib.hid hnP
  have N2 := Lib.hid hnI
  have N3 := Lib.hid hnF
  have N4 := Lib.hid hnM
  clear hnP hnI hnF hnM
  have hk : Kept w (w.alloc (.cells #[.int .i64 c.minor, .int .i64 c.major, .slice aP nP kP, .int .i64 c.access, .int .i64 c.this, .int .i64 c.super, .slice aI nI kI, .slice aF nF kF, .slice aM nM kM] 27)) := (Below.refl _ _).alloc (Nat.le_refl _) _
  have HK := Lib.hid hk
  have HPP := Lib.hid (r1.kept hk)
  have HII := Lib.hid (r2.kept hk)
  have HFF := Lib.hid (r3.kept hk)
  have HMM := Lib.hid (r4.kept hk)
  have HRR := Lib.hid (fun x hx => (h.r x hx).kept hk)
  clear r1 r2 r3 r4
  have HB := Lib.hid (Blk.new w 27 #[.int .i64 c.minor, .int .i64 c.major, .slice aP nP kP, .int .i64 c.access, .int .i64 c.this, .int .i64 c.super, .slice aI nI kI, .slice aF nF kF, .slice aM nM kM])
  have HH := Lib.hid (show w.heap.size < (w.alloc (.cells #[.int .i64 c.minor, .int .i64 c.major, .slice aP nP kP, .int .i64 c.access, .int .i64 c.this, .int .i64 c.super, .slice aI nI kI, .slice aF nF kF, .slice aM nM kM] 27)).heap.size by simp)
  clear hk h
  rw [N1.out.symm, N2.out.symm, N3.out.symm, N4.out.symm] at hR
  have HR := Lib.hid hR
  clear hR
  go_enter Try.func77, Try.ntmps77
  go_upto_region 1 with fail
  generalize (w.alloc (.cells #[.int .i64 c.minor, .int .i64 c.major, .slice aP nP kP, .int .i64 c.access, .int .i64 c.this, .int .i64 c.super, .slice aI nI kI, .slice aF nF kF, .slice aM nM kM] 27)) = W at *
  have c0 := HB.out.cell 0
  have c1 := HB.out.cell 1
  have c2 := HB.out.cell 2
  have c3 := HB.out.cell 3
  have c4 := HB.out.cell 4
  have c5 := HB.out.cell 5
  have c6 := HB.out.cell 6
  have c7 := HB.out.cell 7
  have c8 := HB.out.cell 8
  simp only [List.getElem?_toArray, List.getElem?_cons_succ, List.getElem?_cons_zero] at c0 c1 c2 c3 c4 c5 c6 c7 c8
  by_cases h1 : 1024 < nP
  · have h1I : (1024 : Int) < (nP : Int) := by omega
    have HR2 := Lib.hid (show R = true by rw [HR.out]; simp [h1])
    go_wp2_with fail
    go_ret
    exact ⟨by rw [HR2.out]; rfl, HK.out⟩
  have h1I : ¬ (1024 : Int) < (nP : Int) := by omega
  by_cases h2 : 64 < nI
  · have h2I : (64 : Int) < (nI : Int) := by omega
    have HR2 := Lib.hid (show R = true by rw [HR.out]; simp [h2])
    go_wp2_with fail
    go_ret
    exact ⟨by rw [HR2.out]; rfl, HK.out⟩
  have h2I : ¬ (64 : Int) < (nI : Int) := by omega
  by_cases h3 : 64 < nF
  · have h3I : (64 : Int) < (nF : Int) := by omega
    have HR2 := Lib.hid (show R = true by rw [HR.out]; simp [h3])
    go_wp2_with fail
    go_ret
    exact ⟨by rw [HR2.out]; rfl, HK.out⟩
  have h3I : ¬ (64 : Int) < (nF : Int) := by omega
  by_cases h4 : 64 < nM
  · have h4I : (64 : Int) < (nM : Int) := by omega
    have HR2 := Lib.hid (show R = true by rw [HR.out]; simp [h4])
    go_wp2_with fail
    go_ret
    exact ⟨by rw [HR2.out]; rfl, HK.out⟩
  have h4I : ¬ (64 : Int) < (nM : Int) := by omega
  have HR3 := Lib.hid (show R = mv.any muchM by rw [HR.out]; simp [h1, h2, h3, h4])
  clear HR
  go_wp2_with fail
  go_loopw [3] (fun s wr => ∃ k : Nat, k ≤ nM ∧ s = .int .i64 k ∧ wr = W ∧ (mv.take k).any muchM = false) (fun s _ => nM - (intOf s).toNat)
  case atStart => exact ⟨0, Nat.zero_le _, rfl, rfl, by simp⟩
  case round =>
    obtain ⟨k, hk, rfl, rfl, ha⟩ := hrel
    have HA := Lib.hid ha
    clear ha
    by_cases hlt : k < nM
    rotate_left
    · obtain rfl : k = nM := by omega
      have HR4 := Lib.hid (show R = false by rw [HR3.out, ← HA.out, List.take_of_length_le (by have := N4.out; omega)])
      go_wp2_with fail
      go_ret
      exact ⟨by rw [HR4.out]; rfl, HK.out⟩
    obtain ⟨⟨m, vc, vt⟩, hx⟩ : ∃ x, mv[k]? = some x := ⟨_, List.getElem?_eq_getElem (by have := N4.out; omega)⟩
    obtain ⟨b1, o1, d1, hv1, e0, e1, e2, e3, e4, e5, e6, e7⟩ := meth_cells N4.out (HMM.out.kept (Below.refl _ wr)) hx
    have hrm : MRd wr m vc vt := (HRR.out _ (List.mem_of_getElem? hx)).kept (Below.refl _ wr)
    simp only [Value.slice.injEq] at hv1
    obtain ⟨rfl, -, rfl⟩ := hv1
    dsimp only at e0 e1 e2 e3 e4 e5 e6 e7
    obtain ⟨lc, hlc⟩ : ∃ lc, lc = m.code.length := ⟨_, rfl⟩
    obtain ⟨lt, hlt'⟩ : ∃ lt, lt = m.traps.length := ⟨_, rfl⟩
    have hrc := hrm.code
    have hrt := hrm.traps
    clear hrm
    rw [← hlc] at hrc
    rw [← hlt'] at hrt
    have HRc := Lib.hid hrc
    have HRt := Lib.hid hrt
    obtain ⟨_, ac, kc, rfl, -⟩ := hrc
    obtain ⟨_, at_, kt, rfl, -⟩ := hrt
    have hkI : (k : Int) < (nM : Int) := by omega
    have h0I : (0 : Int) ≤ (k : Int) := by omega
    have HX := Lib.hid hx
    have HLC := Lib.hid hlc
    have HLT := Lib.hid hlt'
    clear hx hlc hlt' 
    by_cases q1 : 64 < lt
    · have q1I : (64 : Int) < (lt : Int) := by omega
      have HR4 := Lib.hid (show R = true by rw [HR3.out]; exact any_atX HX.out (by unfold muchM; dsimp only; rw [← HLT.out]; simp [q1]))
      go_wp2_with fail
      go_ret
      exact ⟨by rw [HR4.out]; rfl, HK.out⟩
    have q1I : ¬ (64 : Int) < (lt : Int) := by omega
    by_cases q2 : 4096 < lc
    · have q2I : (4096 : Int) < (lc : Int) := by omega
      have HR4 := Lib.hid (show R = true by rw [HR3.out]; exact any_atX HX.out (by unfold muchM; dsimp only; rw [← HLC.out]; simp [q2]))
      go_wp2_with fail
      go_ret
      exact ⟨by rw [HR4.out]; rfl, HK.out⟩
    have q2I : ¬ (4096 : Int) < (lc : Int) := by omega
    have HQ := Lib.hid (show muchM (m, .slice ac lc kc, .slice at_ lt kt) = false by unfold muchM; dsimp only; rw [← HLT.out, ← HLC.out]; simp [q1, q2])
    go_wp2_with fail
    go_roundw
    case rel => exact ⟨k + 1, by omega, by go_num, trivial, any_takeX HX.out HA.out HQ.out⟩
    case measure => simp [intOf]; omega
end Go.Proofs.Ytcklmhbcjgiplaa
