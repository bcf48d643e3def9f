/-
  The law CheckRefs: its walk.
-/
import Derived.Test.YtcklmhbcjgiplaaCr0
import Derived.Test.YtcklmhbcjgiplaaCl0
import Derived.Test.YtcklmhbcjgiplaaBg
import Derived.Test.YtcklmhbcjgiplaaOpenD
namespace Go.Proofs.Ytcklmhbcjgiplaa
set_option linter.unusedVariables false
set_option linter.unusedSimpArgs false
open Go.RowKit
set_option maxRecDepth 100000

set_option maxHeartbeats 4000000 in
theorem check_Name (pool : List ConstC) (mi ma ac th su : Int) (vP vI vF vM : Value) (n : Int) (w : World) (hr : Rd w 5 vP pool.length (pool.flatMap encC)) :
    Calls Try.prog 25 #[.agg #[.int .i64 mi, .int .i64 ma, vP, .int .i64 ac, .int .i64 th, .int .i64 su, vI, vF, vM], .int .i64 n] w (TextG (nameC pool n) w) := by
  have hk : Kept w (w.alloc (.cells #[.int .i64 mi, .int .i64 ma, vP, .int .i64 ac, .int .i64 th, .int .i64 su, vI, vF, vM] 27)) := (Below.refl _ _).alloc (Nat.le_refl _) _
  have HK := Lib.hid hk
  have HB := Lib.hid (Blk.new w 27 #[.int .i64 mi, .int .i64 ma, vP, .int .i64 ac, .int .i64 th, .int .i64 su, vI, vF, vM])
  have C := check_name pool mi ma ac th su vP vI vF vM n _ (hr.kept hk)
  obtain ⟨r, hrr⟩ : ∃ r, r = nameC pool n := ⟨_, rfl⟩
  rw [← hrr] at C ⊢
  unfold TextG at C
  clear hk hr hrr
  go_enter Try.func25, Try.ntmps25
  go_upto_region 1 with fail
  generalize (w.alloc (.cells #[.int .i64 mi, .int .i64 ma, vP, .int .i64 ac, .int .i64 th, .int .i64 su, vI, vF, vM] 27)) = W at *
  have c0 := HB.out.cell 0
  have c1 := HB.out.cell 1
  have c2 := HB.out.cell 2
  have c3 := HB.out.cell 3
  have c4 := HB.out.cell 4
  have c5 := HB.out.cell 5
  have c6 := HB.out.cell 6
  have c7 := HB.out.cell 7
  have c8 := HB.out.cell 8
  simp only [List.getElem?_toArray, List.getElem?_cons_succ, List.getElem?_cons_zero] at c0 c1 c2 c3 c4 c5 c6 c7 c8
  go_wp2_with fail
  refine C.mono ?_
  rintro e w1 ⟨rfl, hk1⟩
  have K1 := Lib.hid (Kept.trans HK.out hk1)
  clear hk1 C
  go_wp2_with fail
  go_ret2
  exact ⟨rfl, K1.out⟩
set_option maxHeartbeats 16000000 in
theorem checkRefs_walk (c : ClassC) (mv : List (MethC × Value × Value)) (vP vI vF vM : Value) (n : Int) (w : World) (ha : ArgC w c mv vP vI vF vM) :
    Calls Try.prog 12 #[.agg (classV c vP vI vF vM).toArray, .int .i64 n] w fun e w' => e = .returned (.bool true) ∧ Below w.heap.size w w' := by
  have h := ha.rd
  have HC := Lib.hid h
  have HLN := Lib.hid ha.len
  clear ha
  obtain ⟨aP, kP, aI, kI, aF, kF, aM, kM, rfl, rfl, rfl, rfl⟩ := h.forms
  obtain ⟨nP, hnP⟩ : ∃ n, n = c.pool.length := ⟨_, rfl⟩
  obtain ⟨nI, hnI⟩ : ∃ n, n = c.ifaces.length := ⟨_, rfl⟩
  obtain ⟨nF, hnF⟩ : ∃ n, n = c.fields.length := ⟨_, rfl⟩
  obtain ⟨nM, hnM⟩ : ∃ n, n = mv.length := ⟨_, rfl⟩
  change Calls Try.prog 12 #[.agg #[.int .i64 c.minor, .int .i64 c.major, .slice aP c.pool.length kP, .int .i64 c.access, .int .i64 c.this, .int .i64 c.super, .slice aI c.ifaces.length kI, .slice aF c.fields.length kF, .slice aM mv.length kM], .int .i64 n] w _
  have HMS := Lib.hid h.ms
  rw [← hnP, ← hnI, ← hnF, ← hnM] at h ⊢
  have r1 := h.p
  have r2 := h.i
  have r3 := h.f
  have r4 := h.m
  rw [← hnP] at r1
  rw [← hnI] at r2
  rw [← hnF] at r3
  rw [← hnM] at r4
  have m1 : nP ≤ 9223372036854775807 := by obtain ⟨_, _, _, e, q1, q2, _⟩ := r1; cases e; omega
  have m2 : nI ≤ 9223372036854775807 := by obtain ⟨_, _, _, e, q1, q2, _⟩ := r2; cases e; omega
  have m3 : nF ≤ 9223372036854775807 := by obtain ⟨_, _, _, e, q1, q2, _⟩ := r3; cases e; omega
  have m4 : nM ≤ 9223372036854775807 := by obtain ⟨_, _, _, e, q1, q2, _⟩ := r4; cases e; omega
  have N1 := Lib.hid hnP
  have N2 := Lib.hid hnI
  have N3 := Lib.hid hnF
  have N4 := Lib.hid hnM
  clear hnP hnI hnF hnM
  have hk : Kept w (w.alloc (.cells #[.int .i64 c.minor, .int .i64 c.major, .slice aP nP kP, .int .i64 c.access, .int .i64 c.this, .int .i64 c.super, .slice aI nI kI, .slice aF nF kF, .slice aM nM kM] 27)) := (Below.refl _ _).alloc (Nat.le_refl _) _
  have HK := Lib.hid hk
  have HPP := Lib.hid (r1.kept hk)
  have HII := Lib.hid (r2.kept hk)
  have HFF := Lib.hid (r3.kept hk)
  have HMM := Lib.hid (r4.kept hk)
  have HRR := Lib.hid (fun x hx => (h.r x hx).kept hk)
  clear r1 r2 r3 r4
  have HB := Lib.hid (Blk.new w 27 #[.int .i64 c.minor, .int .i64 c.major, .slice aP nP kP, .int .i64 c.access, .int .i64 c.this, .int .i64 c.super, .slice aI nI kI, .slice aF nF kF, .slice aM nM kM])
  have HH := Lib.hid (show w.heap.size < (w.alloc (.cells #[.int .i64 c.minor, .int .i64 c.major, .slice aP nP kP, .int .i64 c.access, .int .i64 c.this, .int .i64 c.super, .slice aI nI kI, .slice aF nF kF, .slice aM nM kM] 27)).heap.size by simp)
  clear hk h
  go_enter Try.func12, Try.ntmps12
  go_upto_region 1 with fail
  generalize (w.alloc (.cells #[.int .i64 c.minor, .int .i64 c.major, .slice aP nP kP, .int .i64 c.access, .int .i64 c.this, .int .i64 c.super, .slice aI nI kI, .slice aF nF kF, .slice aM nM kM] 27)) = W at *
  go_wp2_with fail
  refine (alive5 W).mono ?_
  rintro e w1 ⟨rfl, hk1⟩
  have K1 := Lib.hid hk1
  have HB1 := Lib.hid (HB.out.kept hk1)
  have c0 := HB1.out.cell 0
  have c1 := HB1.out.cell 1
  have c2 := HB1.out.cell 2
  have c3 := HB1.out.cell 3
  have c4 := HB1.out.cell 4
  have c5 := HB1.out.cell 5
  have c6 := HB1.out.cell 6
  have c7 := HB1.out.cell 7
  have c8 := HB1.out.cell 8
  simp only [List.getElem?_toArray, List.getElem?_cons_succ, List.getElem?_cons_zero] at c0 c1 c2 c3 c4 c5 c6 c7 c8
  clear hk1
  have C := law4_Big c mv _ _ _ _ w1 (HC.out.kept (Kept.trans HK.out K1.out)) HLN.out
  rw [← N1.out, ← N2.out, ← N3.out, ← N4.out] at C
  go_wp2_with fail
  refine C.mono ?_
  rintro e w2 ⟨b, rfl, hb, hk2⟩
  have K2 := Lib.hid (Kept.trans K1.out hk2)
  have HB2 := Lib.hid (HB1.out.kept hk2)
  have d0 := HB2.out.cell 0
  have d1 := HB2.out.cell 1
  have d2 := HB2.out.cell 2
  have d3 := HB2.out.cell 3
  have d4 := HB2.out.cell 4
  have d5 := HB2.out.cell 5
  have d6 := HB2.out.cell 6
  have d7 := HB2.out.cell 7
  have d8 := HB2.out.cell 8
  simp only [List.getElem?_toArray, List.getElem?_cons_succ, List.getElem?_cons_zero] at d0 d1 d2 d3 d4 d5 d6 d7 d8
  clear hb hk2 C c0 c1 c2 c3 c4 c5 c6 c7 c8
  cases b
  rotate_left
  · go_wp2_with fail
    go_ret
    exact ⟨rfl, Kept.trans HK.out K2.out⟩
  have HPL := Lib.hid (show Rd w 5 (.slice aP nP kP) c.pool.length (c.pool.flatMap encC) by have := HC.out.p; rw [← N1.out] at this ⊢; exact this)
  have RD : ∀ V, Kept w V → Rd V 5 (.slice aP nP kP) c.pool.length (c.pool.flatMap encC) := fun V h => HPL.out.kept h
  have HRD := Lib.hid RD
  clear RD
  have C1 := fun (V : World) (h : Kept w V) => check_Ref c.pool c.minor c.major c.access c.this c.super (.slice aP nP kP) aI aF aM nI nF nM kI kF kM n V (HRD.out V h)
  have C2 := fun (V : World) (h : Kept w V) => check_Name c.pool c.minor c.major c.access c.this c.super (.slice aP nP kP) (.slice aI nI kI) (.slice aF nF kF) (.slice aM nM kM) n V (HRD.out V h)
  have C3 := fun (V : World) (h : Kept w V) => ref5_Ref c.pool c.minor c.major c.access c.this c.super (.slice aP nP kP) aI aF aM nI nF nM kI kF kM n V (HRD.out V h)
  have C4 := fun (V : World) (h : Kept w V) => ref5_Name c.pool c.minor c.major c.access c.this c.super (.slice aP nP kP) (.slice aI nI kI) (.slice aF nF kF) (.slice aM nM kM) n V (HRD.out V h)
  unfold RefG at C1 C3
  unfold TextG at C2 C4
  obtain ⟨⟨s1, s2, s3, tg⟩, hrr⟩ : ∃ r, r = (refC c.pool n).getD noRef := ⟨_, rfl⟩
  obtain ⟨ok, hok⟩ : ∃ r, r = (refC c.pool n).isSome := ⟨_, rfl⟩
  obtain ⟨⟨nm, okn⟩, hnm⟩ : ∃ r, r = nameC c.pool n := ⟨_, rfl⟩
  rw [← hrr, ← hok] at C1 C3
  rw [← hnm] at C2 C4
  have HC1 := Lib.hid C1
  have HC2 := Lib.hid C2
  have HC3 := Lib.hid C3
  have HC4 := Lib.hid C4
  clear C1 C2 C3 C4 hrr hok hnm
  have C := HC1.out w2 (Kept.trans HK.out K2.out)
  go_wp2_with fail
  refine C.mono ?_
  rintro e w3 ⟨he, hk3⟩
  have he : e = .returned (.tuple #[.agg #[.string s1, .string s2, .string s3], .int .i64 tg, .bool ok]) := he
  subst he
  clear d0 d1 d2 d3 d4 d5 d6 d7 d8 C
  go_upto_region 6 with fail
  have hkq : Kept w3 (w3.alloc (.cells #[.string s1, .string s2, .string s3] 67)) := (Below.refl _ _).alloc (Nat.le_refl _) _
  have K4 := Lib.hid (Kept.trans (Kept.trans K2.out hk3) hkq)
  have HB4 := Lib.hid ((HB2.out.kept hk3).kept hkq)
  obtain ⟨g7, hg7⟩ : ∃ g, g = w3.heap.size := ⟨_, rfl⟩
  have H74 := Lib.hid (Blk.new w3 67 #[.string s1, .string s2, .string s3])
  rw [← hg7] at H74 ⊢
  clear hk3 hkq
  generalize (w3.alloc (.cells #[.string s1, .string s2, .string s3] 67)) = w4 at *
  clear hg7
  have d0 := HB4.out.cell 0
  have d1 := HB4.out.cell 1
  have d2 := HB4.out.cell 2
  have d3 := HB4.out.cell 3
  have d4 := HB4.out.cell 4
  have d5 := HB4.out.cell 5
  have d6 := HB4.out.cell 6
  have d7 := HB4.out.cell 7
  have d8 := HB4.out.cell 8
  simp only [List.getElem?_toArray, List.getElem?_cons_succ, List.getElem?_cons_zero] at d0 d1 d2 d3 d4 d5 d6 d7 d8
  have C := HC2.out w4 (Kept.trans HK.out K4.out)
  go_wp2_with fail
  refine C.mono ?_
  rintro e w5 ⟨he, hk5⟩
  have he : e = .returned (.tuple #[.string nm, .bool okn]) := he
  subst he
  clear d0 d1 d2 d3 d4 d5 d6 d7 d8 C
  have K5 := Lib.hid (Kept.trans K4.out hk5)
  have HB5 := Lib.hid (HB4.out.kept hk5)
  have H75 := Lib.hid (H74.out.kept hk5)
  clear hk5
  have d0 := HB5.out.cell 0
  have d1 := HB5.out.cell 1
  have d2 := HB5.out.cell 2
  have d3 := HB5.out.cell 3
  have d4 := HB5.out.cell 4
  have d5 := HB5.out.cell 5
  have d6 := HB5.out.cell 6
  have d7 := HB5.out.cell 7
  have d8 := HB5.out.cell 8
  simp only [List.getElem?_toArray, List.getElem?_cons_succ, List.getElem?_cons_zero] at d0 d1 d2 d3 d4 d5 d6 d7 d8
  go_upto_region 7 with fail
  have C := HC3.out w5 (Kept.trans HK.out K5.out)
  go_wp2_with fail
  refine C.mono ?_
  rintro e w6 ⟨he, hk6⟩
  have he : e = .returned (.tuple #[.agg #[.string s1, .string s2, .string s3], .int .i64 tg, .bool ok]) := he
  subst he
  clear d0 d1 d2 d3 d4 d5 d6 d7 d8 C
  go_upto_region 8 with fail
  have hkq : Kept w6 (w6.alloc (.cells #[.string s1, .string s2, .string s3] 67)) := (Below.refl _ _).alloc (Nat.le_refl _) _
  have K7 := Lib.hid (Kept.trans (Kept.trans K5.out hk6) hkq)
  have HB7 := Lib.hid ((HB5.out.kept hk6).kept hkq)
  have H77 := Lib.hid ((H75.out.kept hk6).kept hkq)
  obtain ⟨g12, hg12⟩ : ∃ g, g = w6.heap.size := ⟨_, rfl⟩
  have H127 := Lib.hid (Blk.new w6 67 #[.string s1, .string s2, .string s3])
  rw [← hg12] at H127 ⊢
  clear hk6 hkq
  generalize (w6.alloc (.cells #[.string s1, .string s2, .string s3] 67)) = w7 at *
  clear hg12
  have d0 := HB7.out.cell 0
  have d1 := HB7.out.cell 1
  have d2 := HB7.out.cell 2
  have d3 := HB7.out.cell 3
  have d4 := HB7.out.cell 4
  have d5 := HB7.out.cell 5
  have d6 := HB7.out.cell 6
  have d7 := HB7.out.cell 7
  have d8 := HB7.out.cell 8
  simp only [List.getElem?_toArray, List.getElem?_cons_succ, List.getElem?_cons_zero] at d0 d1 d2 d3 d4 d5 d6 d7 d8
  have C := HC4.out w7 (Kept.trans HK.out K7.out)
  go_wp2_with fail
  refine C.mono ?_
  rintro e w8 ⟨he, hk8⟩
  have he : e = .returned (.tuple #[.string nm, .bool okn]) := he
  subst he
  clear d0 d1 d2 d3 d4 d5 d6 d7 d8 C
  have K8 := Lib.hid (Kept.trans K7.out hk8)
  have H78 := Lib.hid (H77.out.kept hk8)
  have H128 := Lib.hid (H127.out.kept hk8)
  clear hk8
  have x0 := H78.out.cell 0
  have x1 := H78.out.cell 1
  have x2 := H78.out.cell 2
  simp only [List.getElem?_toArray, List.getElem?_cons_succ, List.getElem?_cons_zero] at x0 x1 x2
  have y0 := H128.out.cell 0
  have y1 := H128.out.cell 1
  have y2 := H128.out.cell 2
  simp only [List.getElem?_toArray, List.getElem?_cons_succ, List.getElem?_cons_zero] at y0 y1 y2
  go_upto_region 9 with fail
  go_wp2_with fail
  go_ret
  exact ⟨rfl, Kept.trans HK.out K8.out⟩
theorem walk_CheckRefs (y : ClassV) (n : Int) (w : World) (h : ClassV.Ok w y) (_ : (Lit.int .i64 n).wf = true) :
    Calls Try.prog 12 #[.agg (encClassV y).toArray, .int .i64 n] w fun e w' => e = .returned (.bool true) ∧ Below w.heap.size w w' :=
  checkRefs_walk y.c y.mv y.poolV y.interfacesV y.fieldsV y.methodsV n w (ClassV.arg h)
end Go.Proofs.Ytcklmhbcjgiplaa
