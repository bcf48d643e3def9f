/-
  The law EmitBack: its walk.
-/
import Derived.Test.YtbalmfoboaapjaaEl3
import Derived.Test.YtbalmfoboaapjaaOpenC
namespace Go.Proofs.Ytbalmfoboaapjaa
open Go.RowKit
set_option maxRecDepth 100000

theorem CR.rd4 {base : Nat} {c : ClassC} {mv : List (MethC × Value × Value)} {vP vI vF vM : Value} {w : World} (h : CR base c mv vP vI vF vM w) : CRd w c mv vP vI vF vM :=
  ⟨Rd.of_own h.p, Rd.of_own h.i, Rd.of_own h.f, Rd.of_own h.m, fun x hx => ⟨Rd.of_own (h.r x hx).code, Rd.of_own (h.r x hx).traps⟩, h.ms⟩
/-- What 'e' says, its class written out. -/
def ReadV4 (C : ClassC) (p k : Int) (w : World) (e : Ending) (w' : World) : Prop :=
  ∃ cv cP cI cF cM cp ci cf cm, e = .returned (.tuple #[.agg #[.int .i64 C.minor, .int .i64 C.major, .slice cP C.pool.length cp, .int .i64 C.access, .int .i64 C.this, .int .i64 C.super, .slice cI C.ifaces.length ci, .slice cF C.fields.length cf, .slice cM cv.length cm], .int .i64 p, .int .i64 k]) ∧ CR w.heap.size C cv (.slice cP C.pool.length cp) (.slice cI C.ifaces.length ci) (.slice cF C.fields.length cf) (.slice cM cv.length cm) w' ∧ Kept w w'
theorem ReadG.v4 {L : List UInt8} {C : ClassC} {p k : Int} (hp : readP L = (C, p, k)) {w : World} {e : Ending} {w' : World} (h : ReadG L w e w') : ReadV4 C p k w e w' := by
  obtain ⟨mv, vP, vI, vF, vM, he, hcr, hk⟩ := h
  rw [hp] at he hcr
  obtain ⟨cP, cp, rfl, -, -⟩ := own_slice hcr.p
  obtain ⟨cI, ci, rfl, -, -⟩ := own_slice hcr.i
  obtain ⟨cF, cf, rfl, -, -⟩ := own_slice hcr.f
  obtain ⟨cM, cm, rfl, -, -⟩ := own_slice hcr.m
  exact ⟨mv, _, _, _, _, _, _, _, _, he, hcr, hk⟩
theorem write_err {c : ClassC} (h : ¬ (writeC c).2 = 0) : (writeC c).1 = [] := by
  unfold writeC at h ⊢
  split
  · rfl
  · rename_i h0
    rw [if_neg h0] at h
    split
    · rfl
    · rename_i h1
      rw [if_neg h1] at h
      exact absurd rfl h
set_option maxHeartbeats 8000000 in
theorem emitBack_walk (c : ClassC) (mv : List (MethC × Value × Value)) (vP vI vF vM : Value) (w : World) (ha : ArgC w c mv vP vI vF vM) :
    Calls Try.prog 6 #[.agg (classV c vP vI vF vM).toArray] w fun e w' => e = .returned (.bool true) ∧ Below w.heap.size w w' := by
  have h := ha.rd
  have HC := Lib.hid h
  have HTX := Lib.hid ha.text
  have HLN := Lib.hid ha.len
  clear ha
  obtain ⟨aP, kP, aI, kI, aF, kF, aM, kM, rfl, rfl, rfl, rfl⟩ := h.forms
  obtain ⟨nP, hnP⟩ : ∃ n, n = c.pool.length := ⟨_, rfl⟩
  obtain ⟨nI, hnI⟩ : ∃ n, n = c.ifaces.length := ⟨_, rfl⟩
  obtain ⟨nF, hnF⟩ : ∃ n, n = c.fields.length := ⟨_, rfl⟩
  obtain ⟨nM, hnM⟩ : ∃ n, n = mv.length := ⟨_, rfl⟩
  change Calls Try.prog 6 #[.agg #[.int .i64 c.minor, .int .i64 c.major, .slice aP c.pool.length kP, .int .i64 c.access, .int .i64 c.this, .int .i64 c.super, .slice aI c.ifaces.length kI, .slice aF c.fields.length kF, .slice aM mv.length kM]] w _
  have HMS := Lib.hid h.ms
  rw [← hnP, ← hnI, ← hnF, ← hnM] at h ⊢
  have r1 := h.p
  have r2 := h.i
  have r3 := h.f
  have r4 := h.m
  rw [← hnP] at r1
  rw [← hnI] at r2
  rw [← hnF] at r3
  rw [← hnM] at r4
  have m1 : nP ≤ 9223372036854775807 := by obtain ⟨_, _, _, e, q1, q2, _⟩ := r1; cases e; omega
  have m2 : nI ≤ 9223372036854775807 := by obtain ⟨_, _, _, e, q1, q2, _⟩ := r2; cases e; omega
  have m3 : nF ≤ 9223372036854775807 := by obtain ⟨_, _, _, e, q1, q2, _⟩ := r3; cases e; omega
  have m4 : nM ≤ 9223372036854775807 := by obtain ⟨_, _, _, e, q1, q2, _⟩ := r4; cases e; omega
  have N1 := Lib.hid hnP
  have N2 := Lib.hid hnI
  have N3 := Lib.hid hnF
  have N4 := Lib.hid hnM
  clear hnP hnI hnF hnM
  have hk : Kept w (w.alloc (.cells #[.int .i64 c.minor, .int .i64 c.major, .slice aP nP kP, .int .i64 c.access, .int .i64 c.this, .int .i64 c.super, .slice aI nI kI, .slice aF nF kF, .slice aM nM kM] 27)) := (Below.refl _ _).alloc (Nat.le_refl _) _
  have HK := Lib.hid hk
  have HPP := Lib.hid (r1.kept hk)
  have HII := Lib.hid (r2.kept hk)
  have HFF := Lib.hid (r3.kept hk)
  have HMM := Lib.hid (r4.kept hk)
  have HRR := Lib.hid (fun x hx => (h.r x hx).kept hk)
  clear r1 r2 r3 r4
  have HB := Lib.hid (Blk.new w 27 #[.int .i64 c.minor, .int .i64 c.major, .slice aP nP kP, .int .i64 c.access, .int .i64 c.this, .int .i64 c.super, .slice aI nI kI, .slice aF nF kF, .slice aM nM kM])
  have HH := Lib.hid (show w.heap.size < (w.alloc (.cells #[.int .i64 c.minor, .int .i64 c.major, .slice aP nP kP, .int .i64 c.access, .int .i64 c.this, .int .i64 c.super, .slice aI nI kI, .slice aF nF kF, .slice aM nM kM] 27)).heap.size by simp)
  clear hk h
  go_enter Try.func6, Try.ntmps6
  go_upto_region 1 with fail
  generalize (w.alloc (.cells #[.int .i64 c.minor, .int .i64 c.major, .slice aP nP kP, .int .i64 c.access, .int .i64 c.this, .int .i64 c.super, .slice aI nI kI, .slice aF nF kF, .slice aM nM kM] 27)) = W at *
  go_wp2_with fail
  refine (alive4 W).mono ?_
  rintro e w1 ⟨rfl, hk1⟩
  have K1 := Lib.hid hk1
  have HB1 := Lib.hid (HB.out.kept hk1)
  have c0 := HB1.out.cell 0
  have c1 := HB1.out.cell 1
  have c2 := HB1.out.cell 2
  have c3 := HB1.out.cell 3
  have c4 := HB1.out.cell 4
  have c5 := HB1.out.cell 5
  have c6 := HB1.out.cell 6
  have c7 := HB1.out.cell 7
  have c8 := HB1.out.cell 8
  simp only [List.getElem?_toArray, List.getElem?_cons_succ, List.getElem?_cons_zero] at c0 c1 c2 c3 c4 c5 c6 c7 c8
  clear hk1
  have C := law4_Big c mv _ _ _ _ w1 (HC.out.kept (Kept.trans HK.out K1.out)) HLN.out
  rw [← N1.out, ← N2.out, ← N3.out, ← N4.out] at C
  go_wp2_with fail
  refine C.mono ?_
  rintro e w2 ⟨b, rfl, hb, hk2⟩
  have K2 := Lib.hid (Kept.trans K1.out hk2)
  have HB2 := Lib.hid (HB1.out.kept hk2)
  have d0 := HB2.out.cell 0
  have d1 := HB2.out.cell 1
  have d2 := HB2.out.cell 2
  have d3 := HB2.out.cell 3
  have d4 := HB2.out.cell 4
  have d5 := HB2.out.cell 5
  have d6 := HB2.out.cell 6
  have d7 := HB2.out.cell 7
  have d8 := HB2.out.cell 8
  simp only [List.getElem?_toArray, List.getElem?_cons_succ, List.getElem?_cons_zero] at d0 d1 d2 d3 d4 d5 d6 d7 d8
  clear hb hk2 C
  cases b
  rotate_left
  · go_wp2_with fail
    go_ret
    exact ⟨rfl, Kept.trans HK.out K2.out⟩
  have C := emit_Write c mv _ _ _ _ w2 (HC.out.kept (Kept.trans HK.out K2.out)) HTX.out
  rw [← N1.out, ← N2.out, ← N3.out, ← N4.out] at C
  unfold WriteG at C
  by_cases hE : (writeC c).2 = 0
  rotate_left
  · rw [write_err hE] at C
    obtain ⟨E, hE2⟩ : ∃ E, E = (writeC c).2 := ⟨_, rfl⟩
    rw [← hE2] at C hE
    have hne : (E != 0) = true := by simpa using hE
    clear hE hE2
    go_wp2_with fail
    refine C.mono ?_
    rintro e w3 ⟨v, rfl, hb, hk3⟩
    obtain ⟨a, cc, rfl, -, -⟩ := own_slice hb
    have K3 := Lib.hid (Kept.trans K2.out hk3)
    clear hb hk3 C
    go_wp2_with (go_at_call 14; refine (law4_num _ _).mono ?_; rintro e wn ⟨rfl, rfl⟩)
    go_ret
    exact ⟨rfl, Kept.trans HK.out K3.out⟩
  obtain ⟨hfit, hlen, hw⟩ := write_ok hE
  rw [hw] at C
  have HRB := Lib.hid (read_back hfit hlen)
  clear hE hfit hlen hw
  go_wp2_with fail
  refine C.mono ?_
  rintro e w3 ⟨v, rfl, hb, hk3⟩
  have K3 := Lib.hid (Kept.trans K2.out hk3)
  have HB3 := Lib.hid (HB2.out.kept hk3)
  have C3 := file_Read (classB c) v w3 (Rd.of_own hb)
  clear hb hk3 C
  go_wp2_with (go_at_call 14; refine (law4_num _ _).mono ?_; rintro e wn ⟨rfl, rfl⟩)
  refine C3.mono ?_
  intro e w4 hrv
  obtain ⟨cv, cP, cI, cF, cM, cp, ci, cf, cm, he, hcr, hk4⟩ := ReadG.v4 HRB.out hrv
  rw [← N1.out, ← N2.out, ← N3.out] at he hcr
  subst he
  have K4 := Lib.hid (Kept.trans K3.out hk4)
  have HB4 := Lib.hid (HB3.out.kept hk4)
  have HCR := Lib.hid hcr.rd4
  clear hrv hcr hk4 C3
  go_upto_region 9 with fail
  have HD5 := Lib.hid (Blk.new w4 27 #[.int .i64 c.minor, .int .i64 c.major, .slice cP nP cp, .int .i64 c.access, .int .i64 c.this, .int .i64 c.super, .slice cI nI ci, .slice cF nF cf, .slice cM cv.length cm])
  have hk5 : Kept w4 (w4.alloc (.cells #[.int .i64 c.minor, .int .i64 c.major, .slice cP nP cp, .int .i64 c.access, .int .i64 c.this, .int .i64 c.super, .slice cI nI ci, .slice cF nF cf, .slice cM cv.length cm] 27)) := (Below.refl _ _).alloc (Nat.le_refl _) _
  have K5 := Lib.hid (Kept.trans K4.out hk5)
  have HB5 := Lib.hid (HB4.out.kept hk5)
  have C := ref4_Same c c mv cv _ _ _ _ _ _ _ _ (w4.alloc (.cells #[.int .i64 c.minor, .int .i64 c.major, .slice cP nP cp, .int .i64 c.access, .int .i64 c.this, .int .i64 c.super, .slice cI nI ci, .slice cF nF cf, .slice cM cv.length cm] 27)) (HC.out.kept (Kept.trans HK.out K5.out)) (HCR.out.kept hk5)
  rw [← N1.out, ← N2.out, ← N3.out, ← N4.out] at C
  clear hk5
  generalize (w4.alloc (.cells #[.int .i64 c.minor, .int .i64 c.major, .slice cP nP cp, .int .i64 c.access, .int .i64 c.this, .int .i64 c.super, .slice cI nI ci, .slice cF nF cf, .slice cM cv.length cm] 27)) = w5 at *
  have f0 := HB5.out.cell 0
  have f1 := HB5.out.cell 1
  have f2 := HB5.out.cell 2
  have f3 := HB5.out.cell 3
  have f4 := HB5.out.cell 4
  have f5 := HB5.out.cell 5
  have f6 := HB5.out.cell 6
  have f7 := HB5.out.cell 7
  have f8 := HB5.out.cell 8
  simp only [List.getElem?_toArray, List.getElem?_cons_succ, List.getElem?_cons_zero] at f0 f1 f2 f3 f4 f5 f6 f7 f8
  have g0 := HD5.out.cell 0
  have g1 := HD5.out.cell 1
  have g2 := HD5.out.cell 2
  have g3 := HD5.out.cell 3
  have g4 := HD5.out.cell 4
  have g5 := HD5.out.cell 5
  have g6 := HD5.out.cell 6
  have g7 := HD5.out.cell 7
  have g8 := HD5.out.cell 8
  simp only [List.getElem?_toArray, List.getElem?_cons_succ, List.getElem?_cons_zero] at g0 g1 g2 g3 g4 g5 g6 g7 g8
  go_wp2_with (go_at_call 14; refine (law4_num _ _).mono ?_; rintro e wn ⟨rfl, rfl⟩)
  refine C.mono ?_
  rintro e w6 ⟨b, rfl, hb, hk6⟩
  have K6 := Lib.hid (Kept.trans K5.out hk6)
  obtain rfl : b = true := hb.2 (by trivial)
  clear hb hk6 C
  go_wp2_with fail
  go_ret
  exact ⟨rfl, Kept.trans HK.out K6.out⟩
theorem walk_EmitBack (c : ClassV) (w : World) (h : ClassV.Ok w c) : Calls Try.prog 6 #[.agg (encClassV c).toArray] w fun e w' => e = .returned (.bool true) ∧ Below w.heap.size w w' :=
  emitBack_walk c.c c.mv c.poolV c.interfacesV c.fieldsV c.methodsV w (ClassV.arg h)
end Go.Proofs.Ytbalmfoboaapjaa
