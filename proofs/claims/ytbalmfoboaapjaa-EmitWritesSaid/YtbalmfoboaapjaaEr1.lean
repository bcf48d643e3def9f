/-
  The document's answer for emit by contract: twos, kind, named, long.
-/
import Derived.Test.YtbalmfoboaapjaaEp2
namespace Go.Proofs.Ytbalmfoboaapjaa
set_option linter.unusedVariables false
set_option linter.unusedSimpArgs false
open Go.RowKit
set_option maxRecDepth 100000

theorem drop_at {α : Type} {l : List α} {k : Nat} {x : α} (h : l[k]? = some x) : l.drop k = x :: l.drop (k + 1) := by
  obtain ⟨hl, rfl⟩ := List.getElem?_eq_some_iff.1 h
  exact List.drop_eq_getElem_cons hl
theorem ref4_twos (xs : List Int) (vl : Value) (w : World) (hl : Rd w 1 vl xs.length (xs.flatMap encI)) (p : Prop) (hp : p ↔ ∀ x ∈ xs, twoC x) :
    Calls Try.prog 34 #[vl] w (BoolE p w) := by
  have HP := Lib.hid hp
  obtain ⟨N, hN⟩ : ∃ N, N = xs.length := ⟨_, rfl⟩
  have HN := Lib.hid hN
  rw [← hN] at hl
  have HLD := Lib.hid hl
  obtain ⟨_, al, cl, rfl, hcl1, hcl2, _⟩ := hl
  clear hp hN
  go_enter Try.func34, Try.ntmps34
  go_wp2_with fail
  go_loopw [3] (fun s wr => ∃ k : Nat, k ≤ N ∧ s = .int .i64 k ∧ w = wr ∧ (∀ x ∈ xs.take k, twoC x)) (fun s _ => N - (intOf s).toNat)
  case atStart => exact ⟨0, Nat.zero_le _, rfl, rfl, by simp⟩
  case round =>
    obtain ⟨k, hk, rfl, rfl, ha⟩ := hrel
    have HA := Lib.hid ha
    clear ha
    by_cases hlt : k < N
    · obtain ⟨x, hx⟩ : ∃ x, xs[k]? = some x := ⟨_, List.getElem?_eq_getElem (by have := HN.out; omega)⟩
      obtain ⟨bl, ol, dl, hv, xc⟩ := ints_cell HN.out HLD.out hx
      simp only [Value.slice.injEq] at hv
      obtain ⟨rfl, -, rfl⟩ := hv
      have hltI : (k : Int) < (N : Int) := by omega
      have h0I : (0 : Int) ≤ (k : Int) := by omega
      have HX := Lib.hid hx
      clear hx
      by_cases hn : x < 0
      · go_wp2_with fail
        go_ret
        exact ⟨false, rfl, ⟨fun e => (by cases e), fun e => by have := (HP.out.1 e x (List.mem_of_getElem? HX.out)).1; omega⟩, rfl⟩
      · by_cases hm : x > 65535
        · go_wp2_with fail
          go_ret
          exact ⟨false, rfl, ⟨fun e => (by cases e), fun e => by have := (HP.out.1 e x (List.mem_of_getElem? HX.out)).2; omega⟩, rfl⟩
        · go_wp2_with fail
          go_roundw
          case rel => exact ⟨k + 1, by omega, by go_num, trivial, all_snoc HA.out HX.out ⟨by omega, by omega⟩⟩
          case measure => simp [intOf]; omega
    · go_wp2_with fail
      go_ret
      exact ⟨true, rfl, ⟨fun _ => HP.out.2 (all_end HA.out (by have := HN.out; omega)), fun _ => rfl⟩, rfl⟩
theorem ref4_twos' (xs : List Int) (n : Nat) (hn : n = xs.length) (vl : Value) (w : World) (hl : Rd w 1 vl n (xs.flatMap encI)) :
    Calls Try.prog 34 #[vl] w (BoolE (∀ x ∈ xs, twoC x) w) := by
  subst hn
  exact ref4_twos xs vl w hl _ Iff.rfl
theorem ref4_twosN (xs : List Int) (w : World) (hx : xs.length ≤ 9223372036854775807) : Calls Try.prog 34 #[.slice (some ⟨w.heap.size, 0, none⟩) xs.length xs.length] (w.alloc (.cells (xs.map (Value.int .i64)).toArray 3)) (BoolE (∀ x ∈ xs, twoC x) (w.alloc (.cells (xs.map (Value.int .i64)).toArray 3))) :=
  ref4_twos xs _ _ (rd_new w xs _ hx) _ Iff.rfl
theorem ref4_kind (t : Int) (w : World) (p : Prop) (hp : p ↔ kindC t) : Calls Try.prog 33 #[.int .i64 t] w (BoolE p w) := by
  have HP := Lib.hid hp
  clear hp
  by_cases h1 : t = 1
  · subst h1
    go_enter Try.func33, Try.ntmps33
    go_wp2_with fail
    go_ret
    exact ⟨true, rfl, ⟨fun _ => HP.out.2 (.inl rfl), fun _ => rfl⟩, rfl⟩
  by_cases h3 : t = 3
  · subst h3
    go_enter Try.func33, Try.ntmps33
    go_wp2_with fail
    go_ret
    exact ⟨true, rfl, ⟨fun _ => HP.out.2 (.inr (.inl rfl)), fun _ => rfl⟩, rfl⟩
  by_cases h7 : t = 7
  · subst h7
    go_enter Try.func33, Try.ntmps33
    go_wp2_with fail
    go_ret
    exact ⟨true, rfl, ⟨fun _ => HP.out.2 (.inr (.inr (.inl rfl))), fun _ => rfl⟩, rfl⟩
  have e1 : (t == 1) = false := by simpa using h1
  have e3 : (t == 3) = false := by simpa using h3
  have e7 : (t == 7) = false := by simpa using h7
  have HN := Lib.hid (And.intro h1 (And.intro h3 h7))
  clear h1 h3 h7
  by_cases h9 : 9 ≤ t
  · by_cases h12 : t ≤ 12
    · go_enter Try.func33, Try.ntmps33
      go_wp2_with fail
      go_ret
      exact ⟨true, rfl, ⟨fun _ => HP.out.2 (.inr (.inr (.inr ⟨h9, h12⟩))), fun _ => rfl⟩, rfl⟩
    · go_enter Try.func33, Try.ntmps33
      go_wp2_with fail
      go_ret
      exact ⟨false, rfl, ⟨fun e => (by cases e), fun e => by have := HP.out.1 e; have := HN.out; unfold kindC at *; omega⟩, rfl⟩
  · go_enter Try.func33, Try.ntmps33
    go_wp2_with fail
    go_ret
    exact ⟨false, rfl, ⟨fun e => (by cases e), fun e => by have := HP.out.1 e; have := HN.out; unfold kindC at *; omega⟩, rfl⟩

set_option maxHeartbeats 4000000 in
theorem ref4_long (c : ClassC) (mv : List (MethC × Value × Value)) (vP vI vF vM : Value) (w : World) (h : CRd w c mv vP vI vF vM) (p : Prop) (hp : p ↔ longC c) :
    Calls Try.prog 32 #[.agg (classV c vP vI vF vM).toArray] w (MethB p w) := by
  have HP := Lib.hid hp
  clear hp
  obtain ⟨aP, kP, aI, kI, aF, kF, aM, kM, rfl, rfl, rfl, rfl⟩ := h.forms
  obtain ⟨nP, hnP⟩ : ∃ n, n = c.pool.length := ⟨_, rfl⟩
  obtain ⟨nI, hnI⟩ : ∃ n, n = c.ifaces.length := ⟨_, rfl⟩
  obtain ⟨nF, hnF⟩ : ∃ n, n = c.fields.length := ⟨_, rfl⟩
  obtain ⟨nM, hnM⟩ : ∃ n, n = mv.length := ⟨_, rfl⟩
  change Calls Try.prog 32 #[.agg #[.int .i64 c.minor, .int .i64 c.major, .slice aP c.pool.length kP, .int .i64 c.access, .int .i64 c.this, .int .i64 c.super, .slice aI c.ifaces.length kI, .slice aF c.fields.length kF, .slice aM mv.length kM]] w _
  have HMS := Lib.hid h.ms
  rw [← hnP, ← hnI, ← hnF, ← hnM] at h ⊢
  have r1 := h.p
  have r2 := h.i
  have r3 := h.f
  have r4 := h.m
  rw [← hnP] at r1
  rw [← hnI] at r2
  rw [← hnF] at r3
  rw [← hnM] at r4
  have m1 : nP ≤ 9223372036854775807 := by obtain ⟨_, _, _, e, q1, q2, _⟩ := r1; cases e; omega
  have m2 : nI ≤ 9223372036854775807 := by obtain ⟨_, _, _, e, q1, q2, _⟩ := r2; cases e; omega
  have m3 : nF ≤ 9223372036854775807 := by obtain ⟨_, _, _, e, q1, q2, _⟩ := r3; cases e; omega
  have m4 : nM ≤ 9223372036854775807 := by obtain ⟨_, _, _, e, q1, q2, _⟩ := r4; cases e; omega
  have N1 := Lib.hid hnP
  have N2 := Lib.hid hnI
  have N3 := Lib.hid hnF
  have N4 := Lib.hid hnM
  clear hnP hnI hnF hnM
  have hk : Kept w (w.alloc (.cells #[.int .i64 c.minor, .int .i64 c.major, .slice aP nP kP, .int .i64 c.access, .int .i64 c.this, .int .i64 c.super, .slice aI nI kI, .slice aF nF kF, .slice aM nM kM] 27)) := (Below.refl _ _).alloc (Nat.le_refl _) _
  have HK := Lib.hid hk
  have HPP := Lib.hid (r1.kept hk)
  have HII := Lib.hid (r2.kept hk)
  have HFF := Lib.hid (r3.kept hk)
  have HMM := Lib.hid (r4.kept hk)
  have HRR := Lib.hid (fun x hx => (h.r x hx).kept hk)
  clear r1 r2 r3 r4
  have HB := Lib.hid (Blk.new w 27 #[.int .i64 c.minor, .int .i64 c.major, .slice aP nP kP, .int .i64 c.access, .int .i64 c.this, .int .i64 c.super, .slice aI nI kI, .slice aF nF kF, .slice aM nM kM])
  have HH := Lib.hid (show w.heap.size < (w.alloc (.cells #[.int .i64 c.minor, .int .i64 c.major, .slice aP nP kP, .int .i64 c.access, .int .i64 c.this, .int .i64 c.super, .slice aI nI kI, .slice aF nF kF, .slice aM nM kM] 27)).heap.size by simp)
  clear hk h
  go_enter Try.func32, Try.ntmps32
  go_upto_region 1 with fail
  generalize (w.alloc (.cells #[.int .i64 c.minor, .int .i64 c.major, .slice aP nP kP, .int .i64 c.access, .int .i64 c.this, .int .i64 c.super, .slice aI nI kI, .slice aF nF kF, .slice aM nM kM] 27)) = W at *
  have c0 := HB.out.cell 0
  have c1 := HB.out.cell 1
  have c2 := HB.out.cell 2
  have c3 := HB.out.cell 3
  have c4 := HB.out.cell 4
  have c5 := HB.out.cell 5
  have c6 := HB.out.cell 6
  have c7 := HB.out.cell 7
  have c8 := HB.out.cell 8
  simp only [List.getElem?_toArray, List.getElem?_cons_succ, List.getElem?_cons_zero] at c0 c1 c2 c3 c4 c5 c6 c7 c8
  by_cases h1 : 1024 < nP
  · have h1I : (1024 : Int) < (nP : Int) := by omega
    go_wp2_with fail
    go_ret
    exact ⟨true, rfl, ⟨fun _ => HP.out.2 (.inl (by have := N1.out; omega)), fun _ => rfl⟩, HK.out⟩
  have h1I : ¬ (1024 : Int) < (nP : Int) := by omega
  by_cases h2 : 64 < nI
  · have h2I : (64 : Int) < (nI : Int) := by omega
    go_wp2_with fail
    go_ret
    exact ⟨true, rfl, ⟨fun _ => HP.out.2 (.inr (.inl (by have := N2.out; omega))), fun _ => rfl⟩, HK.out⟩
  have h2I : ¬ (64 : Int) < (nI : Int) := by omega
  by_cases h3 : 64 < nF
  · have h3I : (64 : Int) < (nF : Int) := by omega
    go_wp2_with fail
    go_ret
    exact ⟨true, rfl, ⟨fun _ => HP.out.2 (.inr (.inr (.inl (by have := N3.out; omega)))), fun _ => rfl⟩, HK.out⟩
  have h3I : ¬ (64 : Int) < (nF : Int) := by omega
  by_cases h4 : 64 < nM
  · have h4I : (64 : Int) < (nM : Int) := by omega
    go_wp2_with fail
    go_ret
    exact ⟨true, rfl, ⟨fun _ => HP.out.2 (.inr (.inr (.inr (.inl (by rw [HMS.out, List.length_map]; have := N4.out; omega))))), fun _ => rfl⟩, HK.out⟩
  have h4I : ¬ (64 : Int) < (nM : Int) := by omega
  go_wp2_with fail
  go_loopw [3] (fun s wr => ∃ k : Nat, k ≤ nM ∧ s = .int .i64 k ∧ W = wr ∧ (∀ x ∈ mv.take k, x.1.traps.length ≤ 64 ∧ x.1.code.length ≤ 4096)) (fun s _ => nM - (intOf s).toNat)
  case atStart => exact ⟨0, Nat.zero_le _, rfl, rfl, by simp⟩
  case round =>
    obtain ⟨k, hk, rfl, rfl, ha⟩ := hrel
    have HA := Lib.hid ha
    clear ha
    by_cases hlt : k < nM
    · skip
      obtain ⟨⟨m, vc, vt⟩, hx⟩ : ∃ x, mv[k]? = some x := ⟨_, List.getElem?_eq_getElem (by have := N4.out; omega)⟩
      obtain ⟨b1, o1, d1, hv1, e0, e1, e2, e3, e4, e5, e6, e7⟩ := meth_cells N4.out (HMM.out.kept (Below.refl _ W)) hx
      have hrm : MRd W m vc vt := (HRR.out _ (List.mem_of_getElem? hx)).kept (Below.refl _ W)
      simp only [Value.slice.injEq] at hv1
      obtain ⟨rfl, -, rfl⟩ := hv1
      dsimp only at e0 e1 e2 e3 e4 e5 e6 e7
      obtain ⟨lc, hlc⟩ : ∃ lc, lc = m.code.length := ⟨_, rfl⟩
      obtain ⟨lt, hlt'⟩ : ∃ lt, lt = m.traps.length := ⟨_, rfl⟩
      have hrc := hrm.code
      have hrt := hrm.traps
      clear hrm
      rw [← hlc] at hrc
      rw [← hlt'] at hrt
      have HRc := Lib.hid hrc
      have HRt := Lib.hid hrt
      obtain ⟨_, ac, kc, rfl, -⟩ := hrc
      obtain ⟨_, at_, kt, rfl, -⟩ := hrt
      have hkI : (k : Int) < (nM : Int) := by omega
      have h0I : (0 : Int) ≤ (k : Int) := by omega
      have HX := Lib.hid hx
      have HLC := Lib.hid hlc
      have HLT := Lib.hid hlt'
      clear hx hlc hlt' 
      by_cases ht : 64 < lt
      · have htI : (64 : Int) < (lt : Int) := by omega
        go_wp2_with fail
        go_ret
        exact ⟨true, rfl, ⟨fun _ => HP.out.2 (.inr (.inr (.inr (.inr ⟨m, by rw [HMS.out]; exact List.mem_map.2 ⟨_, List.mem_of_getElem? HX.out, rfl⟩, .inl (by have := HLT.out; omega)⟩)))), fun _ => rfl⟩, HK.out⟩
      have htI : ¬ (64 : Int) < (lt : Int) := by omega
      by_cases hc : 4096 < lc
      · have hcI : (4096 : Int) < (lc : Int) := by omega
        go_wp2_with fail
        go_ret
        exact ⟨true, rfl, ⟨fun _ => HP.out.2 (.inr (.inr (.inr (.inr ⟨m, by rw [HMS.out]; exact List.mem_map.2 ⟨_, List.mem_of_getElem? HX.out, rfl⟩, .inr (by have := HLC.out; omega)⟩)))), fun _ => rfl⟩, HK.out⟩
      have hcI : ¬ (4096 : Int) < (lc : Int) := by omega
      go_wp2_with fail
      go_roundw
      case rel => exact ⟨k + 1, by omega, by go_num, trivial, all_snoc HA.out HX.out ⟨by have := HLT.out; dsimp only; omega, by have := HLC.out; dsimp only; omega⟩⟩
      case measure => simp [intOf]; omega
    · go_wp2_with fail
      go_ret
      refine ⟨false, rfl, ⟨fun e => (by cases e), fun e => absurd (HP.out.1 e) ?_⟩, HK.out⟩
      have hall := all_end HA.out (by have := N4.out; omega)
      rintro (h | h | h | h | ⟨m, hm, h⟩)
      · have := N1.out; omega
      · have := N2.out; omega
      · have := N3.out; omega
      · rw [HMS.out, List.length_map] at h; have := N4.out; omega
      · rw [HMS.out] at hm
        obtain ⟨x, hx, rfl⟩ := List.mem_map.1 hm
        have := hall x hx
        omega
theorem named_take (l : List ConstC) (s : ByteArray) (k : Nat) (h : ∀ x ∈ l.take k, ¬ (x.tag = 1 ∧ x.text = s)) : namedC l s = if namedC (l.drop k) s = 0 then 0 else namedC (l.drop k) s + k := by
  induction k generalizing l with
  | zero => simp
  | succ k ih =>
    cases l with
    | nil => simp [namedC]
    | cons x l =>
      have h1 := h x (by simp)
      have h2 := ih l fun y hy => h y (by simp [hy])
      rw [List.drop_succ_cons, namedC, if_neg h1, h2]
      by_cases h3 : namedC (List.drop k l) s = 0
      · simp [h3]
      · rw [if_neg h3, if_neg h3, if_neg (by omega)]; omega
theorem str_eqT {s t : ByteArray} (h : s = t) : (s.toList == t.toList) = true := by simp [h]
theorem str_eqF {s t : ByteArray} (h : ¬ s = t) : (s.toList == t.toList) = false := sm_strne fun e => h (by obtain ⟨⟨l⟩⟩ := s; obtain ⟨⟨l'⟩⟩ := t; rw [ByteArray.toList_eq] at e; dsimp only at e; rw [e])
set_option maxHeartbeats 4000000 in
theorem ref4_named (c : ClassC) (mv : List (MethC × Value × Value)) (vP vI vF vM : Value) (w : World) (h : CRd w c mv vP vI vF vM) (s : ByteArray) (n : Nat) (hn : n = namedC c.pool s) :
    Calls Try.prog 27 #[.agg (classV c vP vI vF vM).toArray, .string s] w fun e w' => e = .returned (.int .i64 n) ∧ Kept w w' := by
  have HN := Lib.hid hn
  clear hn
  obtain ⟨aP, kP, aI, kI, aF, kF, aM, kM, rfl, rfl, rfl, rfl⟩ := h.forms
  obtain ⟨nP, hnP⟩ : ∃ n, n = c.pool.length := ⟨_, rfl⟩
  obtain ⟨nI, hnI⟩ : ∃ n, n = c.ifaces.length := ⟨_, rfl⟩
  obtain ⟨nF, hnF⟩ : ∃ n, n = c.fields.length := ⟨_, rfl⟩
  obtain ⟨nM, hnM⟩ : ∃ n, n = mv.length := ⟨_, rfl⟩
  change Calls Try.prog 27 #[.agg #[.int .i64 c.minor, .int .i64 c.major, .slice aP c.pool.length kP, .int .i64 c.access, .int .i64 c.this, .int .i64 c.super, .slice aI c.ifaces.length kI, .slice aF c.fields.length kF, .slice aM mv.length kM], .string s] w _
  have HMS := Lib.hid h.ms
  rw [← hnP, ← hnI, ← hnF, ← hnM] at h ⊢
  have r1 := h.p
  have r2 := h.i
  have r3 := h.f
  have r4 := h.m
  rw [← hnP] at r1
  rw [← hnI] at r2
  rw [← hnF] at r3
  rw [← hnM] at r4
  have m1 : nP ≤ 9223372036854775807 := by obtain ⟨_, _, _, e, q1, q2, _⟩ := r1; cases e; omega
  have m2 : nI ≤ 9223372036854775807 := by obtain ⟨_, _, _, e, q1, q2, _⟩ := r2; cases e; omega
  have m3 : nF ≤ 9223372036854775807 := by obtain ⟨_, _, _, e, q1, q2, _⟩ := r3; cases e; omega
  have m4 : nM ≤ 9223372036854775807 := by obtain ⟨_, _, _, e, q1, q2, _⟩ := r4; cases e; omega
  have N1 := Lib.hid hnP
  have N2 := Lib.hid hnI
  have N3 := Lib.hid hnF
  have N4 := Lib.hid hnM
  clear hnP hnI hnF hnM
  have hk : Kept w (w.alloc (.cells #[.int .i64 c.minor, .int .i64 c.major, .slice aP nP kP, .int .i64 c.access, .int .i64 c.this, .int .i64 c.super, .slice aI nI kI, .slice aF nF kF, .slice aM nM kM] 27)) := (Below.refl _ _).alloc (Nat.le_refl _) _
  have HK := Lib.hid hk
  have HPP := Lib.hid (r1.kept hk)
  have HII := Lib.hid (r2.kept hk)
  have HFF := Lib.hid (r3.kept hk)
  have HMM := Lib.hid (r4.kept hk)
  have HRR := Lib.hid (fun x hx => (h.r x hx).kept hk)
  clear r1 r2 r3 r4
  have HB := Lib.hid (Blk.new w 27 #[.int .i64 c.minor, .int .i64 c.major, .slice aP nP kP, .int .i64 c.access, .int .i64 c.this, .int .i64 c.super, .slice aI nI kI, .slice aF nF kF, .slice aM nM kM])
  have HH := Lib.hid (show w.heap.size < (w.alloc (.cells #[.int .i64 c.minor, .int .i64 c.major, .slice aP nP kP, .int .i64 c.access, .int .i64 c.this, .int .i64 c.super, .slice aI nI kI, .slice aF nF kF, .slice aM nM kM] 27)).heap.size by simp)
  clear hk h
  go_enter Try.func27, Try.ntmps27
  go_upto_region 1 with fail
  generalize (w.alloc (.cells #[.int .i64 c.minor, .int .i64 c.major, .slice aP nP kP, .int .i64 c.access, .int .i64 c.this, .int .i64 c.super, .slice aI nI kI, .slice aF nF kF, .slice aM nM kM] 27)) = W at *
  have c0 := HB.out.cell 0
  have c1 := HB.out.cell 1
  have c2 := HB.out.cell 2
  have c3 := HB.out.cell 3
  have c4 := HB.out.cell 4
  have c5 := HB.out.cell 5
  have c6 := HB.out.cell 6
  have c7 := HB.out.cell 7
  have c8 := HB.out.cell 8
  simp only [List.getElem?_toArray, List.getElem?_cons_succ, List.getElem?_cons_zero] at c0 c1 c2 c3 c4 c5 c6 c7 c8
  go_wp2_with fail
  go_loopw [5] (fun s5 wr => ∃ k : Nat, k ≤ nP ∧ s5 = .int .i64 k ∧ W = wr ∧ (∀ x ∈ c.pool.take k, ¬ (x.tag = 1 ∧ x.text = s))) (fun s5 _ => nP - (intOf s5).toNat)
  case atStart => exact ⟨0, Nat.zero_le _, rfl, rfl, by simp⟩
  case round =>
    obtain ⟨k, hk, rfl, rfl, ha⟩ := hrel
    have HA := Lib.hid ha
    clear ha
    by_cases hlt : k < nP
    · skip
      obtain ⟨x, hx⟩ : ∃ x, c.pool[k]? = some x := ⟨_, List.getElem?_eq_getElem (by have := N1.out; omega)⟩
      obtain ⟨b1, o1, d1, hv1, e0, e1, e2, e3, e4⟩ := const_cells N1.out (HPP.out.kept (Below.refl _ W)) hx
      simp only [Value.slice.injEq] at hv1
      obtain ⟨rfl, -, rfl⟩ := hv1
      have hkI : (k : Int) < (nP : Int) := by omega
      have h0I : (0 : Int) ≤ (k : Int) := by omega
      have HX := Lib.hid hx
      clear hx
      by_cases hx : x.tag = 1
      · rw [hx] at e0
        by_cases hy : x.text = s
        · have hs := str_eqT hy
          have HNK : Hid (n = k + 1) := Lib.hid (by
            rw [HN.out, named_take _ _ k HA.out]
            have h0 : (c.pool.drop k) = x :: c.pool.drop (k + 1) := drop_at HX.out
            have h1 : namedC (x :: c.pool.drop (k + 1)) s = 1 := by unfold namedC; exact if_pos (show x.tag = 1 ∧ x.text = s from ⟨hx, hy⟩)
            rw [h0, h1, if_neg (by decide)]
            omega)
          clear hx hy
          go_wp2_with fail
          go_ret
          exact ⟨by rw [HNK.out]; go_num, HK.out⟩
        · have hs := str_eqF hy
          have HQ := Lib.hid hy
          clear hy hx
          go_wp2_with fail
          go_roundw
          case rel => exact ⟨k + 1, by omega, by go_num, trivial, all_snoc HA.out HX.out fun e => HQ.out e.2⟩
          case measure => simp [intOf]; omega
      · have hxe : (x.tag == 1) = false := by simpa using hx
        have HQ := Lib.hid hx
        clear hx
        go_wp2_with fail
        go_roundw
        case rel => exact ⟨k + 1, by omega, by go_num, trivial, all_snoc HA.out HX.out fun e => HQ.out e.1⟩
        case measure => simp [intOf]; omega
    · have HNK : Hid (n = 0) := Lib.hid (by
        rw [HN.out, named_take _ _ k HA.out, List.drop_of_length_le (by have := N1.out; omega)]
        rfl)
      go_wp2_with fail
      go_ret
      exact ⟨by rw [HNK.out]; rfl, HK.out⟩
end Go.Proofs.Ytbalmfoboaapjaa
