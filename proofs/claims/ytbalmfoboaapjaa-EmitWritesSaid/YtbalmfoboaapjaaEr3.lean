/-
  The document's answer for emit by contract: Refused.
-/
import Derived.Test.YtbalmfoboaapjaaEr2
namespace Go.Proofs.Ytbalmfoboaapjaa
set_option linter.unusedVariables false
set_option linter.unusedSimpArgs false
open Go.RowKit
set_option maxRecDepth 100000

theorem all_more {α : Type} {p : α → Prop} {l : List α} {k : Nat} {x : α} (hx : l[k]? = some x) : (∀ y ∈ l.take (k + 1), p y) ↔ (∀ y ∈ l.take k, p y) ∧ p x := by
  rw [List.take_add_one, hx]
  simp only [Option.toList_some, List.mem_append, List.mem_singleton]
  exact ⟨fun h => ⟨fun y hy => h y (.inl hy), h x (.inr rfl)⟩, fun h y hy => hy.elim (h.1 y) fun e => e ▸ h.2⟩
theorem any_more {α : Type} {p : α → Prop} {l : List α} {k : Nat} {x : α} (hx : l[k]? = some x) : (∃ y ∈ l.take (k + 1), p y) ↔ (∃ y ∈ l.take k, p y) ∨ p x := by
  rw [List.take_add_one, hx]
  simp only [Option.toList_some, List.mem_append, List.mem_singleton]
  exact ⟨fun ⟨y, hy, hp⟩ => hy.elim (fun h => .inl ⟨y, h, hp⟩) fun e => .inr (e ▸ hp), fun h => h.elim (fun ⟨y, hy, hp⟩ => ⟨y, .inl hy, hp⟩) fun hp => ⟨x, .inr rfl, hp⟩⟩
theorem acc_and {α : Type} {A : Prop} {p : α → Prop} {l : List α} {k : Nat} {x : α} {b c : Bool} (h : b = true ↔ A ∧ ∀ y ∈ l.take k, p y) (hx : l[k]? = some x) (hc : c = true ↔ p x) : (b && c) = true ↔ A ∧ ∀ y ∈ l.take (k + 1), p y := by
  rw [all_more hx, Bool.and_eq_true, h, hc, and_assoc]
theorem acc_or {α : Type} {p : α → Prop} {l : List α} {k : Nat} {x : α} {b c : Bool} (h : b = true ↔ ∃ y ∈ l.take k, p y) (hx : l[k]? = some x) (hc : c = true ↔ p x) : (b || c) = true ↔ ∃ y ∈ l.take (k + 1), p y := by
  rw [any_more hx, Bool.or_eq_true, h, hc]
theorem acc_end {α : Type} {A : Prop} {p : α → Prop} {l : List α} {k : Nat} {b : Bool} (h : b = true ↔ A ∧ ∀ y ∈ l.take k, p y) (hk : l.length ≤ k) : b = true ↔ A ∧ ∀ y ∈ l, p y := by
  rwa [List.take_of_length_le hk] at h
theorem acc_endO {α : Type} {p : α → Prop} {l : List α} {k : Nat} {b : Bool} (h : b = true ↔ ∃ y ∈ l.take k, p y) (hk : l.length ≤ k) : b = true ↔ ∃ y ∈ l, p y := by
  rwa [List.take_of_length_le hk] at h
theorem acc_nil {α : Type} {A : Prop} {p : α → Prop} {l : List α} {b : Bool} (h : b = true ↔ A) : b = true ↔ A ∧ ∀ y ∈ l.take 0, p y := by simpa using h
theorem refused_go {c : ClassC} (h1 : ¬ longC c) (h2 : ∀ k ∈ c.pool, kindC k.tag) (h3 : argsC c) : refusedC c = if lackC c then 20 else 0 := by
  unfold refusedC
  rw [if_neg h1, if_neg (fun ⟨k, hk, hn⟩ => hn (h2 k hk)), if_neg (fun e => e h3)]
def headC (c : ClassC) : Prop := twoC c.minor ∧ twoC c.major ∧ twoC c.access ∧ twoC c.this ∧ twoC c.super ∧ ∀ i ∈ c.ifaces, twoC i
def RefG (c : ClassC) (w : World) (e : Ending) (w' : World) : Prop := e = .returned (.int .i64 (refusedC c)) ∧ Kept w w'
set_option maxHeartbeats 16000000 in
theorem ref4_Refused (c : ClassC) (mv : List (MethC × Value × Value)) (vP vI vF vM : Value) (w : World) (h : CRd w c mv vP vI vF vM) :
    Calls Try.prog 18 #[.agg (classV c vP vI vF vM).toArray] w (RefG c w) := by
  have HC := Lib.hid h
  obtain ⟨aP, kP, aI, kI, aF, kF, aM, kM, rfl, rfl, rfl, rfl⟩ := h.forms
  obtain ⟨nP, hnP⟩ : ∃ n, n = c.pool.length := ⟨_, rfl⟩
  obtain ⟨nI, hnI⟩ : ∃ n, n = c.ifaces.length := ⟨_, rfl⟩
  obtain ⟨nF, hnF⟩ : ∃ n, n = c.fields.length := ⟨_, rfl⟩
  obtain ⟨nM, hnM⟩ : ∃ n, n = mv.length := ⟨_, rfl⟩
  change Calls Try.prog 18 #[.agg #[.int .i64 c.minor, .int .i64 c.major, .slice aP c.pool.length kP, .int .i64 c.access, .int .i64 c.this, .int .i64 c.super, .slice aI c.ifaces.length kI, .slice aF c.fields.length kF, .slice aM mv.length kM]] w _
  have HMS := Lib.hid h.ms
  rw [← hnP, ← hnI, ← hnF, ← hnM] at h ⊢
  have r1 := h.p
  have r2 := h.i
  have r3 := h.f
  have r4 := h.m
  rw [← hnP] at r1
  rw [← hnI] at r2
  rw [← hnF] at r3
  rw [← hnM] at r4
  have m1 : nP ≤ 9223372036854775807 := by obtain ⟨_, _, _, e, q1, q2, _⟩ := r1; cases e; omega
  have m2 : nI ≤ 9223372036854775807 := by obtain ⟨_, _, _, e, q1, q2, _⟩ := r2; cases e; omega
  have m3 : nF ≤ 9223372036854775807 := by obtain ⟨_, _, _, e, q1, q2, _⟩ := r3; cases e; omega
  have m4 : nM ≤ 9223372036854775807 := by obtain ⟨_, _, _, e, q1, q2, _⟩ := r4; cases e; omega
  have N1 := Lib.hid hnP
  have N2 := Lib.hid hnI
  have N3 := Lib.hid hnF
  have N4 := Lib.hid hnM
  clear hnP hnI hnF hnM
  have hk : Kept w (w.alloc (.cells #[.int .i64 c.minor, .int .i64 c.major, .slice aP nP kP, .int .i64 c.access, .int .i64 c.this, .int .i64 c.super, .slice aI nI kI, .slice aF nF kF, .slice aM nM kM] 27)) := (Below.refl _ _).alloc (Nat.le_refl _) _
  have HK := Lib.hid hk
  have HPP := Lib.hid (r1.kept hk)
  have HII := Lib.hid (r2.kept hk)
  have HFF := Lib.hid (r3.kept hk)
  have HMM := Lib.hid (r4.kept hk)
  have HRR := Lib.hid (fun x hx => (h.r x hx).kept hk)
  clear r1 r2 r3 r4
  have HB := Lib.hid (Blk.new w 27 #[.int .i64 c.minor, .int .i64 c.major, .slice aP nP kP, .int .i64 c.access, .int .i64 c.this, .int .i64 c.super, .slice aI nI kI, .slice aF nF kF, .slice aM nM kM])
  have HH := Lib.hid (show w.heap.size < (w.alloc (.cells #[.int .i64 c.minor, .int .i64 c.major, .slice aP nP kP, .int .i64 c.access, .int .i64 c.this, .int .i64 c.super, .slice aI nI kI, .slice aF nF kF, .slice aM nM kM] 27)).heap.size by simp)
  clear hk h
  go_enter Try.func18, Try.ntmps18
  go_upto_region 1 with fail
  generalize (w.alloc (.cells #[.int .i64 c.minor, .int .i64 c.major, .slice aP nP kP, .int .i64 c.access, .int .i64 c.this, .int .i64 c.super, .slice aI nI kI, .slice aF nF kF, .slice aM nM kM] 27)) = W at *
  have c0 := HB.out.cell 0
  have c1 := HB.out.cell 1
  have c2 := HB.out.cell 2
  have c3 := HB.out.cell 3
  have c4 := HB.out.cell 4
  have c5 := HB.out.cell 5
  have c6 := HB.out.cell 6
  have c7 := HB.out.cell 7
  have c8 := HB.out.cell 8
  simp only [List.getElem?_toArray, List.getElem?_cons_succ, List.getElem?_cons_zero] at c0 c1 c2 c3 c4 c5 c6 c7 c8
  have C := ref4_long c mv _ _ _ _ W (HC.out.kept HK.out) _ Iff.rfl
  rw [← N1.out, ← N2.out, ← N3.out, ← N4.out] at C
  go_wp2_with fail
  refine C.mono ?_
  rintro e w1 ⟨bL, rfl, hb, hk1⟩
  have HbL := Lib.hid hb
  have K1 := Lib.hid hk1
  clear hb hk1 C
  have c2 := K1.out.cell c2
  cases bL
  rotate_left
  · have HR : Hid (refusedC c = 2) := Lib.hid (if_pos (HbL.out.1 rfl))
    go_wp2_with fail
    go_ret
    exact ⟨by rw [HR.out]; rfl, Kept.trans HK.out K1.out⟩
  have HL := Lib.hid (show ¬ longC c from fun e => by have := HbL.out.2 e; cases this)
  clear HbL
  go_wp2_with fail
  go_loopw [4] (fun s wr => ∃ k : Nat, k ≤ nP ∧ s = .int .i64 k ∧ w1 = wr ∧ (∀ x ∈ c.pool.take k, kindC x.tag)) (fun s _ => nP - (intOf s).toNat)
  case atStart => exact ⟨0, Nat.zero_le _, rfl, rfl, by simp⟩
  case round =>
    obtain ⟨k, hk, rfl, rfl, ha⟩ := hrel
    have HA := Lib.hid ha
    clear ha
    by_cases hlt : k < nP
    · skip
      obtain ⟨x, hx⟩ : ∃ x, c.pool[k]? = some x := ⟨_, List.getElem?_eq_getElem (by have := N1.out; omega)⟩
      obtain ⟨b1, o1, d1, hv1, e0, e1, e2, e3, e4⟩ := const_cells N1.out (HPP.out.kept K1.out) hx
      simp only [Value.slice.injEq] at hv1
      obtain ⟨rfl, -, rfl⟩ := hv1
      have hkI : (k : Int) < (nP : Int) := by omega
      have h0I : (0 : Int) ≤ (k : Int) := by omega
      have HX := Lib.hid hx
      clear hx
      have C := ref4_kind x.tag w1 _ Iff.rfl
      go_wp2_with fail
      refine C.mono ?_
      rintro e w2 ⟨bK, rfl, hb, rfl⟩
      have HbK := Lib.hid hb
      clear hb C
      cases bK
      · have HR : Hid (refusedC c = 13) := Lib.hid (by
          unfold refusedC
          rw [if_neg HL.out]
          exact if_pos ⟨x, List.mem_of_getElem? HX.out, fun e => by have := HbK.out.2 e; cases this⟩)
        go_wp2_with fail
        go_ret
        exact ⟨by rw [HR.out]; rfl, Kept.trans HK.out K1.out⟩
      have HbT := Lib.hid (HbK.out.1 rfl)
      clear HbK
      go_wp2_with fail
      go_roundw
      case rel => exact ⟨k + 1, by omega, by go_num, trivial, all_snoc HA.out HX.out HbT.out⟩
      case measure => simp [intOf]; omega
    have HKD := Lib.hid (all_end HA.out (by have := N1.out; omega))
    clear HA
    have c0 := K1.out.cell c0
    have c1 := K1.out.cell c1
    have c3 := K1.out.cell c3
    have c4 := K1.out.cell c4
    have c5 := K1.out.cell c5
    have c6 := K1.out.cell c6
    have c7 := K1.out.cell c7
    have c8 := K1.out.cell c8
    go_upto_region 10 with fail
    clear hlt
    go_cut [6] from 40 to 56 (fun s wx => (∃ b, s = .bool b ∧ (b = true ↔ headC c)) ∧ Kept w1 wx)
    case first =>
      have C := ref4_twosN [c.minor, c.major, c.access, c.this, c.super] w1 (by simp)
      go_wp2_with fail
      refine C.mono ?_
      rintro e w2 ⟨bA, rfl, hb, hw⟩
      have K2 : Hid (Kept W w2) := Lib.hid (hw ▸ Kept.trans K1.out ((Below.refl _ w1).alloc (Nat.le_refl _) _))
      have KL : Hid (Kept w1 w2) := Lib.hid (hw ▸ (Below.refl _ w1).alloc (Nat.le_refl _) _)
      have HbA := Lib.hid hb
      clear hb hw C
      have c6 := KL.out.cell c6
      cases bA
      · go_wp2_with fail
        go_meet
        refine ⟨⟨false, rfl, ⟨fun e => (by cases e), fun e => ?_⟩⟩, KL.out⟩
        obtain ⟨a1, a2, a3, a4, a5, -⟩ := e
        exact HbA.out.2 (by simp only [List.mem_cons, List.not_mem_nil, or_false]; rintro x (rfl | rfl | rfl | rfl | rfl) <;> assumption)
      have C := ref4_twos' c.ifaces nI N2.out (.slice aI nI kI) w2 (HII.out.kept K2.out)
      have HA5 := Lib.hid (HbA.out.1 rfl)
      clear HbA
      go_wp2_with fail
      refine C.mono ?_
      rintro e w3 ⟨bI, rfl, hb, rfl⟩
      have HbI := Lib.hid hb
      clear hb C
      go_wp2_with fail
      go_meet
      exact ⟨⟨bI, rfl, ⟨fun e => ⟨HA5.out _ (by simp), HA5.out _ (by simp), HA5.out _ (by simp), HA5.out _ (by simp), HA5.out _ (by simp), HbI.out.1 e⟩, fun e => HbI.out.2 e.2.2.2.2.2⟩⟩, KL.out⟩
    case rest =>
    obtain ⟨⟨b0, rfl, hb0⟩, hk2⟩ := hcut
    rename World => w2
    have HB0 := Lib.hid hb0
    have K2 := Lib.hid (Kept.trans K1.out hk2)
    have c2 := hk2.cell c2
    have c7 := hk2.cell c7
    have c8 := hk2.cell c8
    clear hb0 hk2 c0 c1 c3 c4 c5 c6
    go_wp2_with fail
    go_loopw [6, 7] (fun s6 s7 wr => ∃ (k : Nat) (bq : Bool), k ≤ nP ∧ s6 = .bool bq ∧ s7 = .int .i64 k ∧ Kept w2 wr ∧ (bq = true ↔ headC c ∧ ∀ x ∈ c.pool.take k, fairC x)) (fun _ s7 _ => nP - (intOf s7).toNat)
    case atStart => exact ⟨0, b0, Nat.zero_le _, rfl, rfl, Below.refl _ _, acc_nil HB0.out⟩
    case round =>
      obtain ⟨k, bq, hk, rfl, rfl, hk1, ha⟩ := hrel
      have hkw := Kept.trans K2.out hk1
      have HA := Lib.hid ha
      have HK1 := Lib.hid hk1
      have c2 := hk1.cell c2
      clear ha
      by_cases hlt : k < nP
      · skip
        obtain ⟨x, hx⟩ : ∃ x, c.pool[k]? = some x := ⟨_, List.getElem?_eq_getElem (by have := N1.out; omega)⟩
        obtain ⟨b1, o1, d1, hv1, e0, e1, e2, e3, e4⟩ := const_cells N1.out (HPP.out.kept hkw) hx
        simp only [Value.slice.injEq] at hv1
        obtain ⟨rfl, -, rfl⟩ := hv1
        have hkI : (k : Int) < (nP : Int) := by omega
        have h0I : (0 : Int) ≤ (k : Int) := by omega
        have HX := Lib.hid hx
        clear hx
        clear hkw hk1
        have C := ref4_fair' x wr (HKD.out x (List.mem_of_getElem? HX.out))
        go_wp2_with fail
        refine C.mono ?_
        rintro e w4 ⟨bK, rfl, hb, hk4⟩
        have HAC := Lib.hid (acc_and HA.out HX.out hb)
        have K4 := Lib.hid (Kept.trans HK1.out hk4)
        clear hb hk4 C
        cases bq
        all_goals
          (go_wp2_with fail
           go_roundw
           case rel => exact ⟨k + 1, _, by omega, rfl, by go_num, K4.out, HAC.out⟩
           case measure => simp [intOf]; omega)
      have HA2 := Lib.hid (acc_end HA.out (by have := N1.out; omega))
      have K3 := Lib.hid hkw
      have c7 := hk1.cell c7
      have c8 := hk1.cell c8
      clear HA HK1 hkw hk1
      go_wp2_with fail
      clear hlt c2
      obtain ⟨w3, hren⟩ : ∃ x, x = wr := ⟨_, rfl⟩
      subst hren
      rename Bool => b1
      go_loopw [6, 9] (fun s6 s9 wr => ∃ (k : Nat) (bq : Bool), k ≤ nF ∧ s6 = .bool bq ∧ s9 = .int .i64 k ∧ Kept w3 wr ∧ (bq = true ↔ (headC c ∧ ∀ x ∈ c.pool, fairC x) ∧ ∀ x ∈ c.fields.take k, fairF x)) (fun _ s9 _ => nF - (intOf s9).toNat)
      case atStart => exact ⟨0, _, Nat.zero_le _, rfl, rfl, Below.refl _ _, acc_nil HA2.out⟩
      case round =>
        obtain ⟨k, bq, hk, rfl, rfl, hk1, ha⟩ := hrel
        have hkw := Kept.trans K3.out hk1
        have HA := Lib.hid ha
        have HK1 := Lib.hid hk1
        have c7 := hk1.cell c7
        clear ha
        by_cases hlt : k < nF
        · skip
          obtain ⟨x, hx⟩ : ∃ x, c.fields[k]? = some x := ⟨_, List.getElem?_eq_getElem (by have := N3.out; omega)⟩
          obtain ⟨b1, o1, d1, hv1, e0, e1, e2, e3⟩ := field_cells N3.out (HFF.out.kept hkw) hx
          simp only [Value.slice.injEq] at hv1
          obtain ⟨rfl, -, rfl⟩ := hv1
          have hkI : (k : Int) < (nF : Int) := by omega
          have h0I : (0 : Int) ≤ (k : Int) := by omega
          have HX := Lib.hid hx
          clear hx
          have HKW := Lib.hid hkw
          clear hkw hk1
          go_upto_region 20 with fail
          have HBx := Lib.hid (Blk.new wr 51 #[.int .i64 x.access, .int .i64 x.name, .int .i64 x.desc, .int .i64 x.value])
          have KWx := Lib.hid (Kept.trans HK1.out ((Below.refl _ wr).alloc (Nat.le_refl _) (.cells #[.int .i64 x.access, .int .i64 x.name, .int .i64 x.desc, .int .i64 x.value] 51)))
          have KNW4 : Hid (Kept wr (wr.alloc (.cells #[.int .i64 x.access, .int .i64 x.name, .int .i64 x.desc, .int .i64 x.value] 51))) := Lib.hid ((Below.refl _ wr).alloc (Nat.le_refl _) (.cells #[.int .i64 x.access, .int .i64 x.name, .int .i64 x.desc, .int .i64 x.value] 51))
          generalize (wr.alloc (.cells #[.int .i64 x.access, .int .i64 x.name, .int .i64 x.desc, .int .i64 x.value] 51)) = W4 at *
          have p0 := HBx.out.cell 0
          have p1 := HBx.out.cell 1
          have p2 := HBx.out.cell 2
          have p3 := HBx.out.cell 3
          simp only [List.getElem?_toArray, List.getElem?_cons_succ, List.getElem?_cons_zero] at p0 p1 p2 p3
          have KF4 := Lib.hid (Kept.trans HKW.out KNW4.out)
          have C := ref4_twosN [x.access, x.name, x.desc, x.value] W4 (by simp)
          go_wp2_with fail
          refine C.mono ?_
          rintro e w5 ⟨bK, rfl, hb, hw⟩
          have K5 : Hid (Kept W w5) := Lib.hid (hw ▸ Kept.trans KF4.out ((Below.refl _ W4).alloc (Nat.le_refl _) _))
          have KL : Hid (Kept W4 w5) := Lib.hid (hw ▸ (Below.refl _ W4).alloc (Nat.le_refl _) _)
          have HbK := Lib.hid hb
          clear hb hw C
          have HAC := Lib.hid (acc_and HA.out HX.out (p := fairF) (HbK.out.trans ⟨fun e => ⟨e _ (by simp), e _ (by simp), e _ (by simp), e _ (by simp)⟩, fun e => by
            obtain ⟨f1, f2, f3, f4⟩ := e
            simp only [List.mem_cons, List.not_mem_nil, or_false]
            rintro x (rfl | rfl | rfl | rfl) <;> assumption⟩))
          have K51 := Lib.hid (Kept.trans KWx.out KL.out)
          clear HbK KL
          cases bq
          all_goals
            (go_wp2_with fail
             go_roundw
             case rel => exact ⟨k + 1, _, by omega, rfl, by go_num, K51.out, HAC.out⟩
             case measure => simp [intOf]; omega)
        have HA3 := Lib.hid (acc_end HA.out (by have := N3.out; omega))
        have K5 := Lib.hid hkw
        have c8 := hk1.cell c8
        clear HA HK1 hkw hk1
        go_wp2_with fail
        clear hlt
        obtain ⟨w5, hren⟩ : ∃ x, x = wr := ⟨_, rfl⟩
        subst hren
        go_loopw [12, 14] (fun s12 s14 wr => ∃ (k : Nat) (bv : Bool), k ≤ nF ∧ s12 = .bool bv ∧ s14 = .int .i64 k ∧ w5 = wr ∧ (bv = true ↔ ∃ x ∈ c.fields.take k, x.value ≠ 0)) (fun _ s14 _ => nF - (intOf s14).toNat)
        case atStart => exact ⟨0, false, Nat.zero_le _, rfl, rfl, rfl, by simp⟩
        case round =>
          obtain ⟨k, bv, hk, rfl, rfl, rfl, ha⟩ := hrel
          have HA := Lib.hid ha
          clear ha
          by_cases hlt : k < nF
          · skip
            obtain ⟨x, hx⟩ : ∃ x, c.fields[k]? = some x := ⟨_, List.getElem?_eq_getElem (by have := N3.out; omega)⟩
            obtain ⟨b1, o1, d1, hv1, e0, e1, e2, e3⟩ := field_cells N3.out (HFF.out.kept K5.out) hx
            simp only [Value.slice.injEq] at hv1
            obtain ⟨rfl, -, rfl⟩ := hv1
            have hkI : (k : Int) < (nF : Int) := by omega
            have h0I : (0 : Int) ≤ (k : Int) := by omega
            have HX := Lib.hid hx
            clear hx
            cases bv
            rotate_left
            · have HAC := Lib.hid (acc_or (c := decide (x.value ≠ 0)) HA.out HX.out (by simp))
              go_wp2_with fail
              go_roundw
              case rel => exact ⟨k + 1, _, by omega, rfl, by go_num, trivial, HAC.out⟩
              case measure => simp [intOf]; omega
            by_cases hv : x.value = 0
            · have HAC := Lib.hid (acc_or (c := false) HA.out HX.out (by simp [hv]))
              rw [hv] at e3
              clear hv
              go_wp2_with fail
              go_roundw
              case rel => exact ⟨k + 1, _, by omega, rfl, by go_num, trivial, HAC.out⟩
              case measure => simp [intOf]; omega
            · have HAC := Lib.hid (acc_or (c := true) HA.out HX.out (by simp [hv]))
              have hv' : (x.value != 0) = true := by simpa using hv
              clear hv
              go_wp2_with fail
              go_roundw
              case rel => exact ⟨k + 1, _, by omega, rfl, by go_num, trivial, HAC.out⟩
              case measure => simp [intOf]; omega
          have HV := Lib.hid (acc_endO HA.out (by have := N3.out; omega))
          clear HA
          go_wp2_with fail
          clear hlt c7
          go_loopw [6, 13, 15] (fun s6 s13 s15 wr => ∃ (k : Nat) (bp bc : Bool), k ≤ nM ∧ s6 = .bool bp ∧ s13 = .bool bc ∧ s15 = .int .i64 k ∧ Kept w5 wr ∧ (bp = true ↔ ((headC c ∧ ∀ x ∈ c.pool, fairC x) ∧ ∀ x ∈ c.fields, fairF x) ∧ ∀ x ∈ mv.take k, fairM x.1) ∧ (bc = true ↔ ∃ x ∈ mv.take k, x.1.has = true)) (fun _ _ s15 _ => nM - (intOf s15).toNat)
          case atStart => exact ⟨0, _, false, Nat.zero_le _, rfl, rfl, rfl, Below.refl _ _, acc_nil HA3.out, by simp⟩
          case round =>
            obtain ⟨k, bp, bc, hk, rfl, rfl, rfl, hk1, ha, hc⟩ := hrel
            have hkw := Kept.trans K5.out hk1
            have HA := Lib.hid ha
            have HCC := Lib.hid hc
            have HK1 := Lib.hid hk1
            have c8 := hk1.cell c8
            clear ha hc
            by_cases hlt : k < nM
            · skip
              obtain ⟨⟨m, vc, vt⟩, hx⟩ : ∃ x, mv[k]? = some x := ⟨_, List.getElem?_eq_getElem (by have := N4.out; omega)⟩
              obtain ⟨b1, o1, d1, hv1, e0, e1, e2, e3, e4, e5, e6, e7⟩ := meth_cells N4.out (HMM.out.kept hkw) hx
              have hrm : MRd wr m vc vt := (HRR.out _ (List.mem_of_getElem? hx)).kept hkw
              simp only [Value.slice.injEq] at hv1
              obtain ⟨rfl, -, rfl⟩ := hv1
              dsimp only at e0 e1 e2 e3 e4 e5 e6 e7
              obtain ⟨lc, hlc⟩ : ∃ lc, lc = m.code.length := ⟨_, rfl⟩
              obtain ⟨lt, hlt'⟩ : ∃ lt, lt = m.traps.length := ⟨_, rfl⟩
              have hrc := hrm.code
              have hrt := hrm.traps
              clear hrm
              rw [← hlc] at hrc
              rw [← hlt'] at hrt
              have HRc := Lib.hid hrc
              have HRt := Lib.hid hrt
              obtain ⟨_, ac, kc, rfl, -⟩ := hrc
              obtain ⟨_, at_, kt, rfl, -⟩ := hrt
              have hkI : (k : Int) < (nM : Int) := by omega
              have h0I : (0 : Int) ≤ (k : Int) := by omega
              have HX := Lib.hid hx
              have HLC := Lib.hid hlc
              have HLT := Lib.hid hlt'
              clear hx hlc hlt' 
              have HKW := Lib.hid hkw
              clear hkw hk1
              go_upto_region 32 with fail
              have HBm := Lib.hid (Blk.new wr 49 #[.int .i64 m.access, .int .i64 m.name, .int .i64 m.desc, .bool m.has, .int .i64 m.stack, .int .i64 m.locals, .slice ac lc kc, .slice at_ lt kt])
              have KWm := Lib.hid (Kept.trans HK1.out ((Below.refl _ wr).alloc (Nat.le_refl _) (.cells #[.int .i64 m.access, .int .i64 m.name, .int .i64 m.desc, .bool m.has, .int .i64 m.stack, .int .i64 m.locals, .slice ac lc kc, .slice at_ lt kt] 49)))
              have KNW6 : Hid (Kept wr (wr.alloc (.cells #[.int .i64 m.access, .int .i64 m.name, .int .i64 m.desc, .bool m.has, .int .i64 m.stack, .int .i64 m.locals, .slice ac lc kc, .slice at_ lt kt] 49))) := Lib.hid ((Below.refl _ wr).alloc (Nat.le_refl _) (.cells #[.int .i64 m.access, .int .i64 m.name, .int .i64 m.desc, .bool m.has, .int .i64 m.stack, .int .i64 m.locals, .slice ac lc kc, .slice at_ lt kt] 49))
              generalize (wr.alloc (.cells #[.int .i64 m.access, .int .i64 m.name, .int .i64 m.desc, .bool m.has, .int .i64 m.stack, .int .i64 m.locals, .slice ac lc kc, .slice at_ lt kt] 49)) = W6 at *
              have p0 := HBm.out.cell 0
              have p1 := HBm.out.cell 1
              have p2 := HBm.out.cell 2
              have p3 := HBm.out.cell 3
              have p4 := HBm.out.cell 4
              have p5 := HBm.out.cell 5
              have p6 := HBm.out.cell 6
              have p7 := HBm.out.cell 7
              simp only [List.getElem?_toArray, List.getElem?_cons_succ, List.getElem?_cons_zero] at p0 p1 p2 p3 p4 p5 p6 p7
              have KM := Lib.hid (Kept.trans HKW.out KNW6.out)
              have HCA := Lib.hid (acc_or HCC.out HX.out (p := fun x => x.1.has = true) (c := m.has) Iff.rfl)
              go_cut [13] from 129 to 133 (fun s wx => s = .bool (bc || m.has) ∧ W6 = wx)
              case first =>
                cases bc
                all_goals
                  (go_wp2_with fail
                   go_meet
                   exact ⟨by simp, rfl⟩)
              case rest =>
              obtain ⟨rfl, rfl⟩ := hcut
              obtain ⟨nc, hnc⟩ : ∃ x, x = (bc || m.has) := ⟨_, rfl⟩
              rw [← hnc] at HCA ⊢
              clear hnc HCC
              have C := ref4_twosN [m.access, m.name, m.desc, m.stack, m.locals] W6 (by simp)
              go_wp2_with fail
              refine C.mono ?_
              rintro e w7 ⟨bF, rfl, hb, hw⟩
              have K7 : Hid (Kept W w7) := Lib.hid (hw ▸ Kept.trans KM.out ((Below.refl _ W6).alloc (Nat.le_refl _) _))
              have KL : Hid (Kept W6 w7) := Lib.hid (hw ▸ (Below.refl _ W6).alloc (Nat.le_refl _) _)
              have HbF := Lib.hid hb
              clear hb hw C
              have HF0 := Lib.hid (show bF = true ↔ (twoC m.access ∧ twoC m.name ∧ twoC m.desc ∧ twoC m.stack ∧ twoC m.locals) from HbF.out.trans ⟨fun e => ⟨e _ (by simp), e _ (by simp), e _ (by simp), e _ (by simp), e _ (by simp)⟩, fun e => by
                obtain ⟨f1, f2, f3, f4, f5⟩ := e
                simp only [List.mem_cons, List.not_mem_nil, or_false]
                rintro x (rfl | rfl | rfl | rfl | rfl) <;> assumption⟩)
              have p3 := KL.out.cell p3
              have p4 := KL.out.cell p4
              have p5 := KL.out.cell p5
              have p6 := KL.out.cell p6
              have p7 := KL.out.cell p7
              have KR7 := Lib.hid (Kept.trans KNW6.out KL.out)
              have K71 := Lib.hid (Kept.trans KWm.out KL.out)
              have mt : lt ≤ 9223372036854775807 := by obtain ⟨_, _, _, e, q1, q2, _⟩ := HRt.out; cases e; omega
              clear KL HbF
              obtain ⟨wm, hren⟩ : ∃ x, x = wr := ⟨_, rfl⟩
              subst hren
              obtain ⟨km, hren⟩ : ∃ x, x = k := ⟨_, rfl⟩
              subst hren
              go_wp2_with fail
              go_loopw [17, 18] (fun s17 s18 wr => ∃ (k : Nat) (bf : Bool), k ≤ lt ∧ s17 = .bool bf ∧ s18 = .int .i64 k ∧ Kept w7 wr ∧ (bf = true ↔ (twoC m.access ∧ twoC m.name ∧ twoC m.desc ∧ twoC m.stack ∧ twoC m.locals) ∧ ∀ x ∈ m.traps.take k, fairT x)) (fun _ s18 _ => lt - (intOf s18).toNat)
              case atStart => exact ⟨0, bF, Nat.zero_le _, rfl, rfl, Below.refl _ _, acc_nil HF0.out⟩
              case round =>
                obtain ⟨k, bf, hk, rfl, rfl, hk1, ha⟩ := hrel
                have hkw := Kept.trans KR7.out hk1
                have HAT := Lib.hid ha
                have HK2 := Lib.hid hk1
                have p7 := hk1.cell p7
                clear ha
                by_cases hlt' : k < lt
                · skip
                  obtain ⟨y, hx⟩ : ∃ x, m.traps[k]? = some x := ⟨_, List.getElem?_eq_getElem (by have := HLT.out; omega)⟩
                  obtain ⟨b2, o2, d2, hv1, e0, e1, e2, e3⟩ := trap_cell HLT.out (HRt.out.kept hkw) hx
                  simp only [Value.slice.injEq] at hv1
                  obtain ⟨rfl, -, rfl⟩ := hv1
                  have hkJ : (k : Int) < (lt : Int) := by omega
                  have h0J : (0 : Int) ≤ (k : Int) := by omega
                  have HY := Lib.hid hx
                  clear hx
                  clear hkw hk1
                  go_upto_region 38 with fail
                  have HBy := Lib.hid (Blk.new wr 53 #[.int .i64 y.fr, .int .i64 y.to, .int .i64 y.at_, .int .i64 y.ty])
                  have KWy := Lib.hid (Kept.trans HK2.out ((Below.refl _ wr).alloc (Nat.le_refl _) (.cells #[.int .i64 y.fr, .int .i64 y.to, .int .i64 y.at_, .int .i64 y.ty] 53)))
                  have KNW8 : Hid (Kept wr (wr.alloc (.cells #[.int .i64 y.fr, .int .i64 y.to, .int .i64 y.at_, .int .i64 y.ty] 53))) := Lib.hid ((Below.refl _ wr).alloc (Nat.le_refl _) (.cells #[.int .i64 y.fr, .int .i64 y.to, .int .i64 y.at_, .int .i64 y.ty] 53))
                  generalize (wr.alloc (.cells #[.int .i64 y.fr, .int .i64 y.to, .int .i64 y.at_, .int .i64 y.ty] 53)) = W8 at *
                  have q0 := HBy.out.cell 0
                  have q1 := HBy.out.cell 1
                  have q2 := HBy.out.cell 2
                  have q3 := HBy.out.cell 3
                  simp only [List.getElem?_toArray, List.getElem?_cons_succ, List.getElem?_cons_zero] at q0 q1 q2 q3
                  have KT := Lib.hid (Kept.trans K7.out KWy.out)
                  have C := ref4_twosN [y.fr, y.to, y.at_, y.ty] W8 (by simp)
                  go_wp2_with fail
                  refine C.mono ?_
                  rintro e w9 ⟨bT, rfl, hb, hw⟩
                  have K9 : Hid (Kept W w9) := Lib.hid (hw ▸ Kept.trans KT.out ((Below.refl _ W8).alloc (Nat.le_refl _) _))
                  have KL : Hid (Kept W8 w9) := Lib.hid (hw ▸ (Below.refl _ W8).alloc (Nat.le_refl _) _)
                  have HbT := Lib.hid hb
                  clear hb hw C
                  have HAC := Lib.hid (acc_and HAT.out HY.out (p := fairT) (HbT.out.trans ⟨fun e => ⟨e _ (by simp), e _ (by simp), e _ (by simp), e _ (by simp)⟩, fun e => by
                    obtain ⟨f1, f2, f3, f4⟩ := e
                    simp only [List.mem_cons, List.not_mem_nil, or_false]
                    rintro x (rfl | rfl | rfl | rfl) <;> assumption⟩))
                  have K91 := Lib.hid (Kept.trans KWy.out KL.out)
                  clear HbT KL
                  cases bf
                  all_goals
                    (go_wp2_with fail
                     go_roundw
                     case rel => exact ⟨k + 1, _, by omega, rfl, by go_num, K91.out, HAC.out⟩
                     case measure => simp [intOf]; omega)
                have HTT := Lib.hid (acc_end HAT.out (by have := HLT.out; omega))
                have KE := Lib.hid (Kept.trans K71.out hk1)
                have p3 := hk1.cell p3
                have p4 := hk1.cell p4
                have p5 := hk1.cell p5
                have p6 := hk1.cell p6
                clear HAT hk1 hkw HK2
                have HM : Hid (bf = true → (m.has = false → m.stack = 0 ∧ m.locals = 0 ∧ lc = 0 ∧ lt = 0) → fairM m) := Lib.hid fun e g => by
                  obtain ⟨⟨f1, f2, f3, f4, f5⟩, f6⟩ := HTT.out.1 e
                  exact ⟨f1, f2, f3, f4, f5, f6, fun hh => by have := g hh; have := HLC.out; have := HLT.out; omega⟩
                have HM2 : Hid (fairM m → bf = true ∧ (m.has = false → m.stack = 0 ∧ m.locals = 0 ∧ lc = 0 ∧ lt = 0)) := Lib.hid fun g => by
                  obtain ⟨f1, f2, f3, f4, f5, f6, f7⟩ := g
                  exact ⟨HTT.out.2 ⟨⟨f1, f2, f3, f4, f5⟩, f6⟩, fun hh => by have := f7 hh; have := HLC.out; have := HLT.out; omega⟩
                have HABad := Lib.hid (fun (hb : ¬ fairM m) => acc_and HA.out HX.out (p := fun x => fairM x.1) (c := false) (by simpa using hb))
                have HAGood := Lib.hid (fun (hg : m.has = false → m.stack = 0 ∧ m.locals = 0 ∧ lc = 0 ∧ lt = 0) => acc_and HA.out HX.out (p := fun x => fairM x.1) (c := bf) ⟨fun e => HM.out e hg, fun e => (HM2.out e).1⟩)
                clear HM HTT HA
                by_cases hgood : m.has = true ∨ (m.stack = 0 ∧ m.locals = 0 ∧ lc = 0 ∧ lt = 0)
                · have HAC := Lib.hid (HAGood.out fun hh => by
                    rcases hgood with h0 | h0
                    · rw [hh] at h0; cases h0
                    · exact h0)
                  clear HAGood HABad HM2
                  cases hm : m.has
                  · obtain ⟨g1, g2, g3, g4⟩ : m.stack = 0 ∧ m.locals = 0 ∧ lc = 0 ∧ lt = 0 := by
                      rcases hgood with h0 | h0
                      · rw [hm] at h0; cases h0
                      · exact h0
                    rw [hm] at p3
                    rw [g1] at p4
                    rw [g2] at p5
                    have g3I : ¬ (0 : Int) < (lc : Int) := by omega
                    have g4I : ¬ (0 : Int) < (lt : Int) := by omega
                    clear g1 g2 g3 g4 hgood hm
                    cases bp
                    all_goals
                      (go_wp2_with fail
                       go_roundw
                       case rel => exact ⟨km + 1, _, nc, by omega, rfl, rfl, by go_num, KE.out, HAC.out, HCA.out⟩
                       case measure => simp [intOf]; omega)
                  · rw [hm] at p3
                    clear hm hgood
                    cases bp
                    all_goals
                      (go_wp2_with fail
                       go_roundw
                       case rel => exact ⟨km + 1, _, nc, by omega, rfl, rfl, by go_num, KE.out, HAC.out, HCA.out⟩
                       case measure => simp [intOf]; omega)
                have hh : m.has = false := by cases hm : m.has <;> simp_all
                rw [hh] at p3
                have HAC := Lib.hid (HABad.out fun hf => hgood (.inr ((HM2.out hf).2 hh)))
                clear HAGood HABad HM2
                by_cases g1 : m.stack = 0
                · by_cases g2 : m.locals = 0
                  · by_cases g3 : lc = 0
                    · have g4 : (0 : Int) < (lt : Int) := by
                        rcases Nat.eq_zero_or_pos lt with h0 | h0
                        · exact absurd (.inr ⟨g1, g2, g3, h0⟩) hgood
                        · omega
                      have g3I : ¬ (0 : Int) < (lc : Int) := by omega
                      rw [g1] at p4
                      rw [g2] at p5
                      clear hgood g1 g2 g3 hh
                      cases bp
                      all_goals
                        (go_wp2_with fail
                         go_roundw
                         case rel => exact ⟨km + 1, _, nc, by omega, rfl, rfl, by go_num, KE.out, HAC.out, HCA.out⟩
                         case measure => simp [intOf]; omega)
                    · have g4 : (0 : Int) < (lc : Int) := by omega
                      rw [g1] at p4
                      rw [g2] at p5
                      clear hgood g1 g2 g3 hh
                      cases bp
                      all_goals
                        (go_wp2_with fail
                         go_roundw
                         case rel => exact ⟨km + 1, _, nc, by omega, rfl, rfl, by go_num, KE.out, HAC.out, HCA.out⟩
                         case measure => simp [intOf]; omega)
                  · have g4 : (m.locals != 0) = true := by simpa using g2
                    rw [g1] at p4
                    clear hgood g1 g2 hh
                    cases bp
                    all_goals
                      (go_wp2_with fail
                       go_roundw
                       case rel => exact ⟨km + 1, _, nc, by omega, rfl, rfl, by go_num, KE.out, HAC.out, HCA.out⟩
                       case measure => simp [intOf]; omega)
                · have g4 : (m.stack != 0) = true := by simpa using g1
                  clear hgood g1 hh
                  cases bp
                  all_goals
                    (go_wp2_with fail
                     go_roundw
                     case rel => exact ⟨km + 1, _, nc, by omega, rfl, rfl, by go_num, KE.out, HAC.out, HCA.out⟩
                     case measure => simp [intOf]; omega)
            have HME := Lib.hid (acc_end HA.out (by have := N4.out; omega))
            have HCE := Lib.hid (acc_endO HCC.out (by have := N4.out; omega))
            have KN := Lib.hid hkw
            have HARG := Lib.hid (show bp = true ↔ argsC c from HME.out.trans ⟨fun e => by
              obtain ⟨⟨⟨⟨a1, a2, a3, a4, a5, a6⟩, a7⟩, a8⟩, a9⟩ := e
              exact ⟨a1, a2, a3, a4, a5, a6, a7, a8, fun m hm => by
                rw [HMS.out] at hm
                obtain ⟨x, hx, rfl⟩ := List.mem_map.1 hm
                exact a9 x hx⟩, fun e => by
              obtain ⟨a1, a2, a3, a4, a5, a6, a7, a8, a9⟩ := e
              exact ⟨⟨⟨⟨a1, a2, a3, a4, a5, a6⟩, a7⟩, a8⟩, fun x hx => a9 x.1 (by rw [HMS.out]; exact List.mem_map.2 ⟨x, hx, rfl⟩)⟩⟩)
            have HCD := Lib.hid (show bc = true ↔ ∃ m ∈ c.methods, m.has = true from HCE.out.trans ⟨fun ⟨x, hx, h⟩ => ⟨x.1, by rw [HMS.out]; exact List.mem_map.2 ⟨x, hx, rfl⟩, h⟩, fun ⟨m, hm, h⟩ => by
              rw [HMS.out] at hm
              obtain ⟨x, hx, rfl⟩ := List.mem_map.1 hm
              exact ⟨x, hx, h⟩⟩)
            clear HA HCC HK1 hkw hk1 HME HCE
            have hbw := HB.out.kept KN.out
            have d0 := hbw.cell 0
            have d1 := hbw.cell 1
            have d2 := hbw.cell 2
            have d3 := hbw.cell 3
            have d4 := hbw.cell 4
            have d5 := hbw.cell 5
            have d6 := hbw.cell 6
            have d7 := hbw.cell 7
            have d8 := hbw.cell 8
            simp only [List.getElem?_toArray, List.getElem?_cons_succ, List.getElem?_cons_zero] at d0 d1 d2 d3 d4 d5 d6 d7 d8
            have HCW := Lib.hid (HC.out.kept (Kept.trans HK.out KN.out))
            clear hbw
            cases bp
            · have HR : Hid (refusedC c = 1) := Lib.hid (by
                unfold refusedC
                rw [if_neg HL.out, if_neg (fun ⟨k, hk, hn⟩ => hn (HKD.out k hk))]
                exact if_pos fun e => by have := HARG.out.2 e; cases this)
              go_wp2_with fail
              go_ret
              exact ⟨by rw [HR.out]; rfl, Kept.trans HK.out KN.out⟩
            have HR := Lib.hid (refused_go HL.out HKD.out (HARG.out.1 rfl))
            clear HARG
            cases bv
            · have HNV := Lib.hid (show ¬ ∃ f ∈ c.fields, f.value ≠ 0 from fun e => by have := HV.out.2 e; cases this)
              clear HV
              cases bc
              · have HR2 := Lib.hid (HR.out.trans (if_neg (fun e => e.elim (fun e => HNV.out e.1) fun e => by have := HCD.out.2 e.1; cases this)))
                go_wp2_with fail
                go_ret
                exact ⟨by rw [HR2.out]; rfl, Kept.trans HK.out KN.out⟩
              have HCD2 := Lib.hid (HCD.out.1 rfl)
              clear HCD
              have C := ref4_named c mv _ _ _ _ wr HCW.out codeS _ rfl
              rw [← N1.out, ← N2.out, ← N3.out, ← N4.out] at C
              obtain ⟨y, hy⟩ : ∃ z : Int, z = ((namedC c.pool codeS : Nat) : Int) := ⟨_, rfl⟩
              rw [← hy] at C
              have HY := Lib.hid hy
              clear hy
              go_wp2_with fail
              refine C.mono ?_
              rintro e wc ⟨rfl, hkc⟩
              have KC := Lib.hid (Kept.trans KN.out hkc)
              clear C hkc
              by_cases hy0 : y = 0
              · have HR2 := Lib.hid (HR.out.trans (if_pos (.inr ⟨HCD2.out, by have := HY.out; omega⟩)))
                subst hy0
                go_wp2_with fail
                go_ret
                exact ⟨by rw [HR2.out]; rfl, Kept.trans HK.out KC.out⟩
              have hy1 : (y == 0) = false := by simpa using hy0
              have HR2 := Lib.hid (HR.out.trans (if_neg (fun e => e.elim (fun e => HNV.out e.1) fun e => hy0 (by rw [HY.out, e.2]; rfl))))
              clear hy0
              go_wp2_with fail
              go_ret
              exact ⟨by rw [HR2.out]; rfl, Kept.trans HK.out KC.out⟩
            have HNV := Lib.hid (HV.out.1 rfl)
            clear HV
            have C := ref4_named c mv _ _ _ _ wr HCW.out valueS _ rfl
            rw [← N1.out, ← N2.out, ← N3.out, ← N4.out] at C
            obtain ⟨z, hz⟩ : ∃ z : Int, z = ((namedC c.pool valueS : Nat) : Int) := ⟨_, rfl⟩
            rw [← hz] at C
            have HZ := Lib.hid hz
            clear hz
            go_wp2_with fail
            refine C.mono ?_
            rintro e wv ⟨rfl, hkv⟩
            have KV := Lib.hid (Kept.trans KN.out hkv)
            have HCW2 := Lib.hid (HCW.out.kept hkv)
            have d0 := hkv.cell d0
            have d1 := hkv.cell d1
            have d2 := hkv.cell d2
            have d3 := hkv.cell d3
            have d4 := hkv.cell d4
            have d5 := hkv.cell d5
            have d6 := hkv.cell d6
            have d7 := hkv.cell d7
            have d8 := hkv.cell d8
            clear C hkv
            by_cases hz0 : z = 0
            · have HR2 := Lib.hid (HR.out.trans (if_pos (.inl ⟨HNV.out, by have := HZ.out; omega⟩)))
              subst hz0
              go_wp2_with fail
              go_ret
              exact ⟨by rw [HR2.out]; rfl, Kept.trans HK.out KV.out⟩
            have hz1 : (z == 0) = false := by simpa using hz0
            have HNZ := Lib.hid (show ¬ ((∃ f ∈ c.fields, f.value ≠ 0) ∧ namedC c.pool valueS = 0) from fun e => hz0 (by rw [HZ.out, e.2]; rfl))
            clear hz0
            cases bc
            · have HR2 := Lib.hid (HR.out.trans (if_neg (fun e => e.elim (fun e => HNZ.out e) fun e => by have := HCD.out.2 e.1; cases this)))
              go_wp2_with fail
              go_ret
              exact ⟨by rw [HR2.out]; rfl, Kept.trans HK.out KV.out⟩
            have HCD2 := Lib.hid (HCD.out.1 rfl)
            clear HCD
            have C := ref4_named c mv _ _ _ _ wv HCW2.out codeS _ rfl
            rw [← N1.out, ← N2.out, ← N3.out, ← N4.out] at C
            obtain ⟨y, hy⟩ : ∃ z : Int, z = ((namedC c.pool codeS : Nat) : Int) := ⟨_, rfl⟩
            rw [← hy] at C
            have HY := Lib.hid hy
            clear hy
            go_wp2_with fail
            refine C.mono ?_
            rintro e wc ⟨rfl, hkc⟩
            have KC := Lib.hid (Kept.trans KV.out hkc)
            clear C hkc
            by_cases hy0 : y = 0
            · have HR2 := Lib.hid (HR.out.trans (if_pos (.inr ⟨HCD2.out, by have := HY.out; omega⟩)))
              subst hy0
              go_wp2_with fail
              go_ret
              exact ⟨by rw [HR2.out]; rfl, Kept.trans HK.out KC.out⟩
            have hy1 : (y == 0) = false := by simpa using hy0
            have HR2 := Lib.hid (HR.out.trans (if_neg (fun e => e.elim (fun e => HNZ.out e) fun e => hy0 (by rw [HY.out, e.2]; rfl))))
            clear hy0
            go_wp2_with fail
            go_ret
            exact ⟨by rw [HR2.out]; rfl, Kept.trans HK.out KC.out⟩
end Go.Proofs.Ytbalmfoboaapjaa
