/-
  Package emit by contract: long, args.
-/
import Derived.Test.YtbalmfoboaapjaaEp2
namespace Go.Proofs.Ytbalmfoboaapjaa
set_option linter.unusedVariables false
set_option linter.unusedSimpArgs false
open Go.RowKit
set_option maxRecDepth 100000

theorem traps_any {m : MethC} : (∃ x ∈ m.traps, ¬ fairT x) ↔ ¬ ∀ x ∈ m.traps, fairT x := by simp

set_option maxHeartbeats 4000000 in
theorem emit_long (c : ClassC) (mv : List (MethC × Value × Value)) (vP vI vF vM : Value) (w : World) (h : CRd w c mv vP vI vF vM) (p : Prop) (hp : p ↔ longC c) :
    Calls Try.prog 19 #[.agg (classV c vP vI vF vM).toArray] w (MethB p w) := by
  have HP := Lib.hid hp
  clear hp
  obtain ⟨aP, kP, aI, kI, aF, kF, aM, kM, rfl, rfl, rfl, rfl⟩ := h.forms
  obtain ⟨nP, hnP⟩ : ∃ n, n = c.pool.length := ⟨_, rfl⟩
  obtain ⟨nI, hnI⟩ : ∃ n, n = c.ifaces.length := ⟨_, rfl⟩
  obtain ⟨nF, hnF⟩ : ∃ n, n = c.fields.length := ⟨_, rfl⟩
  obtain ⟨nM, hnM⟩ : ∃ n, n = mv.length := ⟨_, rfl⟩
  change Calls Try.prog 19 #[.agg #[.int .i64 c.minor, .int .i64 c.major, .slice aP c.pool.length kP, .int .i64 c.access, .int .i64 c.this, .int .i64 c.super, .slice aI c.ifaces.length kI, .slice aF c.fields.length kF, .slice aM mv.length kM]] w _
  have HMS := Lib.hid h.ms
  rw [← hnP, ← hnI, ← hnF, ← hnM] at h ⊢
  have r1 := h.p
  have r2 := h.i
  have r3 := h.f
  have r4 := h.m
  rw [← hnP] at r1
  rw [← hnI] at r2
  rw [← hnF] at r3
  rw [← hnM] at r4
  have m1 : nP ≤ 9223372036854775807 := by obtain ⟨_, _, _, e, q1, q2, _⟩ := r1; cases e; omega
  have m2 : nI ≤ 9223372036854775807 := by obtain ⟨_, _, _, e, q1, q2, _⟩ := r2; cases e; omega
  have m3 : nF ≤ 9223372036854775807 := by obtain ⟨_, _, _, e, q1, q2, _⟩ := r3; cases e; omega
  have m4 : nM ≤ 9223372036854775807 := by obtain ⟨_, _, _, e, q1, q2, _⟩ := r4; cases e; omega
  have N1 := Lib.hid hnP
  have N2 := Lib.hid hnI
  have N3 := Lib.hid hnF
  have N4 := Lib.hid hnM
  clear hnP hnI hnF hnM
  have hk : Kept w (w.alloc (.cells #[.int .i64 c.minor, .int .i64 c.major, .slice aP nP kP, .int .i64 c.access, .int .i64 c.this, .int .i64 c.super, .slice aI nI kI, .slice aF nF kF, .slice aM nM kM] 27)) := (Below.refl _ _).alloc (Nat.le_refl _) _
  have HK := Lib.hid hk
  have HPP := Lib.hid (r1.kept hk)
  have HII := Lib.hid (r2.kept hk)
  have HFF := Lib.hid (r3.kept hk)
  have HMM := Lib.hid (r4.kept hk)
  have HRR := Lib.hid (fun x hx => (h.r x hx).kept hk)
  clear r1 r2 r3 r4
  have HB := Lib.hid (Blk.new w 27 #[.int .i64 c.minor, .int .i64 c.major, .slice aP nP kP, .int .i64 c.access, .int .i64 c.this, .int .i64 c.super, .slice aI nI kI, .slice aF nF kF, .slice aM nM kM])
  have HH := Lib.hid (show w.heap.size < (w.alloc (.cells #[.int .i64 c.minor, .int .i64 c.major, .slice aP nP kP, .int .i64 c.access, .int .i64 c.this, .int .i64 c.super, .slice aI nI kI, .slice aF nF kF, .slice aM nM kM] 27)).heap.size by simp)
  clear hk h
  go_enter Try.func19, Try.ntmps19
  go_upto_region 1 with fail
  generalize (w.alloc (.cells #[.int .i64 c.minor, .int .i64 c.major, .slice aP nP kP, .int .i64 c.access, .int .i64 c.this, .int .i64 c.super, .slice aI nI kI, .slice aF nF kF, .slice aM nM kM] 27)) = W at *
  have c0 := HB.out.cell 0
  have c1 := HB.out.cell 1
  have c2 := HB.out.cell 2
  have c3 := HB.out.cell 3
  have c4 := HB.out.cell 4
  have c5 := HB.out.cell 5
  have c6 := HB.out.cell 6
  have c7 := HB.out.cell 7
  have c8 := HB.out.cell 8
  simp only [List.getElem?_toArray, List.getElem?_cons_succ, List.getElem?_cons_zero] at c0 c1 c2 c3 c4 c5 c6 c7 c8
  by_cases h1 : 1024 < nP
  · have h1I : (1024 : Int) < (nP : Int) := by omega
    go_wp2_with fail
    go_ret
    exact ⟨true, rfl, ⟨fun _ => HP.out.2 (.inl (by have := N1.out; omega)), fun _ => rfl⟩, HK.out⟩
  have h1I : ¬ (1024 : Int) < (nP : Int) := by omega
  by_cases h2 : 64 < nI
  · have h2I : (64 : Int) < (nI : Int) := by omega
    go_wp2_with fail
    go_ret
    exact ⟨true, rfl, ⟨fun _ => HP.out.2 (.inr (.inl (by have := N2.out; omega))), fun _ => rfl⟩, HK.out⟩
  have h2I : ¬ (64 : Int) < (nI : Int) := by omega
  by_cases h3 : 64 < nF
  · have h3I : (64 : Int) < (nF : Int) := by omega
    go_wp2_with fail
    go_ret
    exact ⟨true, rfl, ⟨fun _ => HP.out.2 (.inr (.inr (.inl (by have := N3.out; omega)))), fun _ => rfl⟩, HK.out⟩
  have h3I : ¬ (64 : Int) < (nF : Int) := by omega
  by_cases h4 : 64 < nM
  · have h4I : (64 : Int) < (nM : Int) := by omega
    go_wp2_with fail
    go_ret
    exact ⟨true, rfl, ⟨fun _ => HP.out.2 (.inr (.inr (.inr (.inl (by rw [HMS.out, List.length_map]; have := N4.out; omega))))), fun _ => rfl⟩, HK.out⟩
  have h4I : ¬ (64 : Int) < (nM : Int) := by omega
  go_wp2_with fail
  go_loopw [30] (fun s wr => ∃ k : Nat, k ≤ nM ∧ s = .int .i64 k ∧ Kept W wr ∧ (∀ x ∈ mv.take k, x.1.traps.length ≤ 64 ∧ x.1.code.length ≤ 4096)) (fun s _ => nM - (intOf s).toNat)
  case atStart => exact ⟨0, Nat.zero_le _, rfl, Below.refl _ _, by simp⟩
  case round =>
    obtain ⟨k, hk, rfl, hkw, ha⟩ := hrel
    have HA := Lib.hid ha
    clear ha
    by_cases hlt : k < nM
    · skip
      obtain ⟨⟨m, vc, vt⟩, hx⟩ : ∃ x, mv[k]? = some x := ⟨_, List.getElem?_eq_getElem (by have := N4.out; omega)⟩
      obtain ⟨b1, o1, d1, hv1, e0, e1, e2, e3, e4, e5, e6, e7⟩ := meth_cells N4.out (HMM.out.kept hkw) hx
      have hrm : MRd wr m vc vt := (HRR.out _ (List.mem_of_getElem? hx)).kept hkw
      simp only [Value.slice.injEq] at hv1
      obtain ⟨rfl, -, rfl⟩ := hv1
      dsimp only at e0 e1 e2 e3 e4 e5 e6 e7
      obtain ⟨lc, hlc⟩ : ∃ lc, lc = m.code.length := ⟨_, rfl⟩
      obtain ⟨lt, hlt'⟩ : ∃ lt, lt = m.traps.length := ⟨_, rfl⟩
      have hrc := hrm.code
      have hrt := hrm.traps
      clear hrm
      rw [← hlc] at hrc
      rw [← hlt'] at hrt
      have HRc := Lib.hid hrc
      have HRt := Lib.hid hrt
      obtain ⟨_, ac, kc, rfl, -⟩ := hrc
      obtain ⟨_, at_, kt, rfl, -⟩ := hrt
      have hkI : (k : Int) < (nM : Int) := by omega
      have h0I : (0 : Int) ≤ (k : Int) := by omega
      have HX := Lib.hid hx
      have HLC := Lib.hid hlc
      have HLT := Lib.hid hlt'
      clear hx hlc hlt' 
      have HKW := Lib.hid hkw
      clear hkw
      go_upto_region 6 with fail
      have HBm := Lib.hid (Blk.new wr 49 #[.int .i64 m.access, .int .i64 m.name, .int .i64 m.desc, .bool m.has, .int .i64 m.stack, .int .i64 m.locals, .slice ac lc kc, .slice at_ lt kt])
      have KWm := Lib.hid (Kept.trans HKW.out ((Below.refl _ wr).alloc (Nat.le_refl _) (.cells #[.int .i64 m.access, .int .i64 m.name, .int .i64 m.desc, .bool m.has, .int .i64 m.stack, .int .i64 m.locals, .slice ac lc kc, .slice at_ lt kt] 49)))
      have KNW2 : Hid (Kept wr (wr.alloc (.cells #[.int .i64 m.access, .int .i64 m.name, .int .i64 m.desc, .bool m.has, .int .i64 m.stack, .int .i64 m.locals, .slice ac lc kc, .slice at_ lt kt] 49))) := Lib.hid ((Below.refl _ wr).alloc (Nat.le_refl _) (.cells #[.int .i64 m.access, .int .i64 m.name, .int .i64 m.desc, .bool m.has, .int .i64 m.stack, .int .i64 m.locals, .slice ac lc kc, .slice at_ lt kt] 49))
      generalize (wr.alloc (.cells #[.int .i64 m.access, .int .i64 m.name, .int .i64 m.desc, .bool m.has, .int .i64 m.stack, .int .i64 m.locals, .slice ac lc kc, .slice at_ lt kt] 49)) = W2 at *
      have p6 := HBm.out.cell 6
      have p7 := HBm.out.cell 7
      simp only [List.getElem?_toArray, List.getElem?_cons_succ, List.getElem?_cons_zero] at p6 p7
      by_cases hc : 4096 < lc
      · have hcI : (4096 : Int) < (lc : Int) := by omega
        go_wp2_with fail
        go_ret
        exact ⟨true, rfl, ⟨fun _ => HP.out.2 (.inr (.inr (.inr (.inr ⟨m, by rw [HMS.out]; exact List.mem_map.2 ⟨_, List.mem_of_getElem? HX.out, rfl⟩, .inr (by have := HLC.out; omega)⟩)))), fun _ => rfl⟩, Kept.trans HK.out KWm.out⟩
      have hcI : ¬ (4096 : Int) < (lc : Int) := by omega
      by_cases ht : 64 < lt
      · have htI : (64 : Int) < (lt : Int) := by omega
        go_wp2_with fail
        go_ret
        exact ⟨true, rfl, ⟨fun _ => HP.out.2 (.inr (.inr (.inr (.inr ⟨m, by rw [HMS.out]; exact List.mem_map.2 ⟨_, List.mem_of_getElem? HX.out, rfl⟩, .inl (by have := HLT.out; omega)⟩)))), fun _ => rfl⟩, Kept.trans HK.out KWm.out⟩
      have htI : ¬ (64 : Int) < (lt : Int) := by omega
      go_wp2_with fail
      go_roundw
      case rel => exact ⟨k + 1, by omega, by go_num, KWm.out, all_snoc HA.out HX.out ⟨by have := HLT.out; dsimp only; omega, by have := HLC.out; dsimp only; omega⟩⟩
      case measure => simp [intOf]; omega
    · have HKW := Lib.hid hkw
      clear hkw
      go_wp2_with fail
      go_ret
      refine ⟨false, rfl, ⟨fun e => (by cases e), fun e => absurd (HP.out.1 e) ?_⟩, Kept.trans HK.out HKW.out⟩
      have hall := all_end HA.out (by have := N4.out; omega)
      rintro (h | h | h | h | ⟨m, hm, h⟩)
      · have := N1.out; omega
      · have := N2.out; omega
      · have := N3.out; omega
      · rw [HMS.out, List.length_map] at h; have := N4.out; omega
      · rw [HMS.out] at hm
        obtain ⟨x, hx, rfl⟩ := List.mem_map.1 hm
        have := hall x hx
        omega
end Go.Proofs.Ytbalmfoboaapjaa
