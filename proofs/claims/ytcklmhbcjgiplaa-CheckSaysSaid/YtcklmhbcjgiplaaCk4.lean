/-
  Package check by contract: every kind of constant; and the document's own.
-/
import Derived.Test.YtcklmhbcjgiplaaCk3
namespace Go.Proofs.Ytcklmhbcjgiplaa
set_option linter.unusedVariables false
set_option linter.unusedSimpArgs false
open Go.RowKit
set_option maxRecDepth 100000

set_option maxHeartbeats 8000000 in
theorem check_constant (pool : List ConstC) (mi ma ac th su : Int) (vP vI vF vM : Value) (x : ConstC) (w : World) (hr : Rd w 5 vP pool.length (pool.flatMap encC)) (hs : ∀ k ∈ pool, k.text.size ≤ maxLen) :
    Calls Try.prog 29 #[.agg #[.int .i64 mi, .int .i64 ma, vP, .int .i64 ac, .int .i64 th, .int .i64 su, vI, vF, vM], .agg #[.int .i64 x.tag, .string x.text, .int .i64 x.num, .int .i64 x.a, .int .i64 x.b]] w (IntG (constE pool x) w) := by
  obtain ⟨tg, tx, nu, xa, xb⟩ := x
  dsimp only
  have HRD := Lib.hid hr
  have HSZ := Lib.hid hs
  have hk : Kept w ((w.alloc (.cells #[.int .i64 mi, .int .i64 ma, vP, .int .i64 ac, .int .i64 th, .int .i64 su, vI, vF, vM] 74)).alloc (.cells #[.int .i64 tg, .string tx, .int .i64 nu, .int .i64 xa, .int .i64 xb] 47)) := ((Below.refl _ _).alloc (Nat.le_refl _) _).alloc (by simp) _
  have HK := Lib.hid hk
  have HB := Lib.hid ((Blk.new w 74 #[.int .i64 mi, .int .i64 ma, vP, .int .i64 ac, .int .i64 th, .int .i64 su, vI, vF, vM]).alloc (.cells #[.int .i64 tg, .string tx, .int .i64 nu, .int .i64 xa, .int .i64 xb] 47))
  have HX : Hid (Blk ((w.alloc (.cells #[.int .i64 mi, .int .i64 ma, vP, .int .i64 ac, .int .i64 th, .int .i64 su, vI, vF, vM] 74)).alloc (.cells #[.int .i64 tg, .string tx, .int .i64 nu, .int .i64 xa, .int .i64 xb] 47)) (w.heap.size + 1) 47 #[.int .i64 tg, .string tx, .int .i64 nu, .int .i64 xa, .int .i64 xb]) := Lib.hid (heap_new_at' _ _ (by simp))
  clear hr hs hk
  obtain ⟨R, hR⟩ : ∃ R, R = constE pool ⟨tg, tx, nu, xa, xb⟩ := ⟨_, rfl⟩
  rw [← hR]
  unfold constE at hR
  dsimp only at hR
  by_cases h1 : tg = 1
  · subst h1
    rw [if_pos (by decide)] at hR
    have HR := Lib.hid hR
    clear hR
    go_enter Try.func29, Try.ntmps29
    go_upto_region 1 with fail
    generalize ((w.alloc (.cells #[.int .i64 mi, .int .i64 ma, vP, .int .i64 ac, .int .i64 th, .int .i64 su, vI, vF, vM] 74)).alloc (.cells #[.int .i64 1, .string tx, .int .i64 nu, .int .i64 xa, .int .i64 xb] 47)) = W at *
    have c0 := HB.out.cell 0
    have c1 := HB.out.cell 1
    have c2 := HB.out.cell 2
    have c3 := HB.out.cell 3
    have c4 := HB.out.cell 4
    have c5 := HB.out.cell 5
    have c6 := HB.out.cell 6
    have c7 := HB.out.cell 7
    have c8 := HB.out.cell 8
    simp only [List.getElem?_toArray, List.getElem?_cons_succ, List.getElem?_cons_zero] at c0 c1 c2 c3 c4 c5 c6 c7 c8
    have x0 := HX.out.cell 0
    have x1 := HX.out.cell 1
    have x2 := HX.out.cell 2
    have x3 := HX.out.cell 3
    have x4 := HX.out.cell 4
    simp only [List.getElem?_toArray, List.getElem?_cons_succ, List.getElem?_cons_zero] at x0 x1 x2 x3 x4

    go_wp2_with fail
    go_ret
    exact ⟨by rw [HR.out]; rfl, HK.out⟩
  by_cases h3 : tg = 3
  · subst h3
    rw [if_pos (by decide)] at hR
    have HR := Lib.hid hR
    clear hR
    go_enter Try.func29, Try.ntmps29
    go_upto_region 1 with fail
    generalize ((w.alloc (.cells #[.int .i64 mi, .int .i64 ma, vP, .int .i64 ac, .int .i64 th, .int .i64 su, vI, vF, vM] 74)).alloc (.cells #[.int .i64 3, .string tx, .int .i64 nu, .int .i64 xa, .int .i64 xb] 47)) = W at *
    have c0 := HB.out.cell 0
    have c1 := HB.out.cell 1
    have c2 := HB.out.cell 2
    have c3 := HB.out.cell 3
    have c4 := HB.out.cell 4
    have c5 := HB.out.cell 5
    have c6 := HB.out.cell 6
    have c7 := HB.out.cell 7
    have c8 := HB.out.cell 8
    simp only [List.getElem?_toArray, List.getElem?_cons_succ, List.getElem?_cons_zero] at c0 c1 c2 c3 c4 c5 c6 c7 c8
    have x0 := HX.out.cell 0
    have x1 := HX.out.cell 1
    have x2 := HX.out.cell 2
    have x3 := HX.out.cell 3
    have x4 := HX.out.cell 4
    simp only [List.getElem?_toArray, List.getElem?_cons_succ, List.getElem?_cons_zero] at x0 x1 x2 x3 x4

    go_wp2_with fail
    go_ret
    exact ⟨by rw [HR.out]; rfl, HK.out⟩
  rw [if_neg (by omega)] at hR
  by_cases h7 : tg = 7
  · subst h7
    rw [if_pos rfl] at hR
    obtain ⟨s1, hs1⟩ : ∃ s, s = (textC pool xa).1 := ⟨_, rfl⟩
    obtain ⟨b1, hb1⟩ : ∃ b, b = (textC pool xa).2 := ⟨_, rfl⟩
    have zs1 : s1.size ≤ maxLen := hs1 ▸ textC_size HSZ.out xa
    rw [← hs1, ← hb1] at hR
    obtain ⟨cb, hcb⟩ : ∃ b, b = clsS s1 := ⟨_, rfl⟩
    rw [← hcb] at hR
    have Hcb := Lib.hid hcb
    have HR := Lib.hid hR
    clear hR hcb
    have HSs1 := Lib.hid hs1
    have HBb1 := Lib.hid hb1
    clear hs1 hb1
    go_enter Try.func29, Try.ntmps29
    go_upto_region 1 with fail
    generalize ((w.alloc (.cells #[.int .i64 mi, .int .i64 ma, vP, .int .i64 ac, .int .i64 th, .int .i64 su, vI, vF, vM] 74)).alloc (.cells #[.int .i64 7, .string tx, .int .i64 nu, .int .i64 xa, .int .i64 xb] 47)) = W at *
    have c0 := HB.out.cell 0
    have c1 := HB.out.cell 1
    have c2 := HB.out.cell 2
    have c3 := HB.out.cell 3
    have c4 := HB.out.cell 4
    have c5 := HB.out.cell 5
    have c6 := HB.out.cell 6
    have c7 := HB.out.cell 7
    have c8 := HB.out.cell 8
    simp only [List.getElem?_toArray, List.getElem?_cons_succ, List.getElem?_cons_zero] at c0 c1 c2 c3 c4 c5 c6 c7 c8
    have x0 := HX.out.cell 0
    have x1 := HX.out.cell 1
    have x2 := HX.out.cell 2
    have x3 := HX.out.cell 3
    have x4 := HX.out.cell 4
    simp only [List.getElem?_toArray, List.getElem?_cons_succ, List.getElem?_cons_zero] at x0 x1 x2 x3 x4
    have C := check_text pool mi ma ac th su vP vI vF vM xa W (HRD.out.kept HK.out)
    unfold TextG at C
    rw [← HSs1.out, ← HBb1.out] at C
    go_wp2_with fail
    refine C.mono ?_
    rintro e w1 ⟨rfl, hk1⟩
    have K1 := Lib.hid (Kept.trans HK.out hk1)
    have HB1 := Lib.hid (HB.out.kept hk1)
    have HX1 := Lib.hid (HX.out.kept hk1)
    clear hk1 C
    have c0 := HB1.out.cell 0
    have c1 := HB1.out.cell 1
    have c2 := HB1.out.cell 2
    have c3 := HB1.out.cell 3
    have c4 := HB1.out.cell 4
    have c5 := HB1.out.cell 5
    have c6 := HB1.out.cell 6
    have c7 := HB1.out.cell 7
    have c8 := HB1.out.cell 8
    simp only [List.getElem?_toArray, List.getElem?_cons_succ, List.getElem?_cons_zero] at c0 c1 c2 c3 c4 c5 c6 c7 c8
    have x0 := HX1.out.cell 0
    have x1 := HX1.out.cell 1
    have x2 := HX1.out.cell 2
    have x3 := HX1.out.cell 3
    have x4 := HX1.out.cell 4
    simp only [List.getElem?_toArray, List.getElem?_cons_succ, List.getElem?_cons_zero] at x0 x1 x2 x3 x4
    cases b1
    · go_wp2_with fail
      go_ret
      exact ⟨by rw [HR.out]; rfl, K1.out⟩
    have C := desc_Class s1 w1 zs1
    rw [show clsB s1.data.toList = cb from Hcb.out.symm] at C
    go_wp2_with fail
    refine C.mono ?_
    rintro e w2 ⟨rfl, hk2⟩
    have K2 := Lib.hid (Kept.trans K1.out hk2)
    clear hk2 C

    cases cb <;>
    (go_wp2_with fail
     go_ret
     exact ⟨by rw [HR.out]; rfl, K2.out⟩)
  rw [if_neg h7] at hR
  by_cases h12 : tg = 12
  · subst h12
    rw [if_pos rfl] at hR
    obtain ⟨s1, hs1⟩ : ∃ s, s = (textC pool xa).1 := ⟨_, rfl⟩
    obtain ⟨b1, hb1⟩ : ∃ b, b = (textC pool xa).2 := ⟨_, rfl⟩
    have zs1 : s1.size ≤ maxLen := hs1 ▸ textC_size HSZ.out xa
    obtain ⟨s2, hs2⟩ : ∃ s, s = (textC pool xb).1 := ⟨_, rfl⟩
    obtain ⟨b2, hb2⟩ : ∃ b, b = (textC pool xb).2 := ⟨_, rfl⟩
    have zs2 : s2.size ≤ maxLen := hs2 ▸ textC_size HSZ.out xb
    rw [← hs1, ← hb1, ← hs2, ← hb2] at hR
    obtain ⟨mb, hmb⟩ : ∃ b, b = metS s1 := ⟨_, rfl⟩
    obtain ⟨fb, hfb⟩ : ∃ b, b = fldS s2 := ⟨_, rfl⟩
    obtain ⟨kb, hkb⟩ : ∃ b, b = isK s2 := ⟨_, rfl⟩
    rw [← hmb, ← hfb, ← hkb] at hR
    have Hmb := Lib.hid hmb
    have Hfb := Lib.hid hfb
    have Hkb := Lib.hid hkb
    have HR := Lib.hid hR
    clear hR hmb hfb hkb
    have HSs1 := Lib.hid hs1
    have HBb1 := Lib.hid hb1
    clear hs1 hb1
    have HSs2 := Lib.hid hs2
    have HBb2 := Lib.hid hb2
    clear hs2 hb2
    go_enter Try.func29, Try.ntmps29
    go_upto_region 1 with fail
    generalize ((w.alloc (.cells #[.int .i64 mi, .int .i64 ma, vP, .int .i64 ac, .int .i64 th, .int .i64 su, vI, vF, vM] 74)).alloc (.cells #[.int .i64 12, .string tx, .int .i64 nu, .int .i64 xa, .int .i64 xb] 47)) = W at *
    have c0 := HB.out.cell 0
    have c1 := HB.out.cell 1
    have c2 := HB.out.cell 2
    have c3 := HB.out.cell 3
    have c4 := HB.out.cell 4
    have c5 := HB.out.cell 5
    have c6 := HB.out.cell 6
    have c7 := HB.out.cell 7
    have c8 := HB.out.cell 8
    simp only [List.getElem?_toArray, List.getElem?_cons_succ, List.getElem?_cons_zero] at c0 c1 c2 c3 c4 c5 c6 c7 c8
    have x0 := HX.out.cell 0
    have x1 := HX.out.cell 1
    have x2 := HX.out.cell 2
    have x3 := HX.out.cell 3
    have x4 := HX.out.cell 4
    simp only [List.getElem?_toArray, List.getElem?_cons_succ, List.getElem?_cons_zero] at x0 x1 x2 x3 x4
    have C := check_text pool mi ma ac th su vP vI vF vM xa W (HRD.out.kept HK.out)
    unfold TextG at C
    rw [← HSs1.out, ← HBb1.out] at C
    go_wp2_with fail
    refine C.mono ?_
    rintro e w1 ⟨rfl, hk1⟩
    have K1 := Lib.hid (Kept.trans HK.out hk1)
    have HB1 := Lib.hid (HB.out.kept hk1)
    have HX1 := Lib.hid (HX.out.kept hk1)
    clear hk1 C
    have c0 := HB1.out.cell 0
    have c1 := HB1.out.cell 1
    have c2 := HB1.out.cell 2
    have c3 := HB1.out.cell 3
    have c4 := HB1.out.cell 4
    have c5 := HB1.out.cell 5
    have c6 := HB1.out.cell 6
    have c7 := HB1.out.cell 7
    have c8 := HB1.out.cell 8
    simp only [List.getElem?_toArray, List.getElem?_cons_succ, List.getElem?_cons_zero] at c0 c1 c2 c3 c4 c5 c6 c7 c8
    have x0 := HX1.out.cell 0
    have x1 := HX1.out.cell 1
    have x2 := HX1.out.cell 2
    have x3 := HX1.out.cell 3
    have x4 := HX1.out.cell 4
    simp only [List.getElem?_toArray, List.getElem?_cons_succ, List.getElem?_cons_zero] at x0 x1 x2 x3 x4
    have C := check_text pool mi ma ac th su vP vI vF vM xb w1 (HRD.out.kept K1.out)
    unfold TextG at C
    rw [← HSs2.out, ← HBb2.out] at C
    go_wp2_with fail
    refine C.mono ?_
    rintro e w2 ⟨rfl, hk2⟩
    have K2 := Lib.hid (Kept.trans K1.out hk2)
    have HB2 := Lib.hid (HB1.out.kept hk2)
    have HX2 := Lib.hid (HX1.out.kept hk2)
    clear hk2 C
    have c0 := HB2.out.cell 0
    have c1 := HB2.out.cell 1
    have c2 := HB2.out.cell 2
    have c3 := HB2.out.cell 3
    have c4 := HB2.out.cell 4
    have c5 := HB2.out.cell 5
    have c6 := HB2.out.cell 6
    have c7 := HB2.out.cell 7
    have c8 := HB2.out.cell 8
    simp only [List.getElem?_toArray, List.getElem?_cons_succ, List.getElem?_cons_zero] at c0 c1 c2 c3 c4 c5 c6 c7 c8
    have x0 := HX2.out.cell 0
    have x1 := HX2.out.cell 1
    have x2 := HX2.out.cell 2
    have x3 := HX2.out.cell 3
    have x4 := HX2.out.cell 4
    simp only [List.getElem?_toArray, List.getElem?_cons_succ, List.getElem?_cons_zero] at x0 x1 x2 x3 x4
    cases b1 <;> cases b2 <;>
    first
    | (go_wp2_with fail
       go_ret
       exact ⟨by rw [HR.out]; rfl, K2.out⟩)
    | skip
    have C := desc_Method s1 w2 zs1
    rw [show metB s1.data.toList = mb from Hmb.out.symm] at C
    go_wp2_with fail
    refine C.mono ?_
    rintro e w3 ⟨rfl, hk3⟩
    have K3 := Lib.hid (Kept.trans K2.out hk3)
    clear hk3 C

    cases mb
    · go_wp2_with fail
      go_ret
      exact ⟨by rw [HR.out]; rfl, K3.out⟩
    have C := desc_Field s2 w3 zs2
    rw [show fldB s2.data.toList = fb from Hfb.out.symm] at C
    go_wp2_with fail
    refine C.mono ?_
    rintro e w4 ⟨rfl, hk4⟩
    have K4 := Lib.hid (Kept.trans K3.out hk4)
    clear hk4 C
    cases fb
    rotate_left
    · go_wp2_with fail
      go_ret
      exact ⟨by rw [HR.out]; rfl, K4.out⟩
    have C := check_method1 s2 w4 zs2
    rw [show isK s2 = kb from Hkb.out.symm] at C
    go_wp2_with fail
    refine C.mono ?_
    rintro e w5 ⟨rfl, hk5⟩
    have K5 := Lib.hid (Kept.trans K4.out hk5)
    clear hk5 C
    cases kb <;>
    (go_wp2_with fail
     go_ret
     exact ⟨by rw [HR.out]; rfl, K5.out⟩)
  rw [if_neg h12] at hR
  by_cases h9 : tg = 9
  · subst h9
    rw [if_pos (by decide)] at hR
    have HR := Lib.hid hR
    clear hR
    go_enter Try.func29, Try.ntmps29
    go_upto_region 1 with fail
    generalize ((w.alloc (.cells #[.int .i64 mi, .int .i64 ma, vP, .int .i64 ac, .int .i64 th, .int .i64 su, vI, vF, vM] 74)).alloc (.cells #[.int .i64 9, .string tx, .int .i64 nu, .int .i64 xa, .int .i64 xb] 47)) = W at *
    have c0 := HB.out.cell 0
    have c1 := HB.out.cell 1
    have c2 := HB.out.cell 2
    have c3 := HB.out.cell 3
    have c4 := HB.out.cell 4
    have c5 := HB.out.cell 5
    have c6 := HB.out.cell 6
    have c7 := HB.out.cell 7
    have c8 := HB.out.cell 8
    simp only [List.getElem?_toArray, List.getElem?_cons_succ, List.getElem?_cons_zero] at c0 c1 c2 c3 c4 c5 c6 c7 c8
    have x0 := HX.out.cell 0
    have x1 := HX.out.cell 1
    have x2 := HX.out.cell 2
    have x3 := HX.out.cell 3
    have x4 := HX.out.cell 4
    simp only [List.getElem?_toArray, List.getElem?_cons_succ, List.getElem?_cons_zero] at x0 x1 x2 x3 x4
    have C := check_member pool mi ma ac th su vP vI vF vM ⟨9, tx, nu, xa, xb⟩ W (HRD.out.kept HK.out) HSZ.out
    unfold IntG at C
    dsimp only at C
    rw [← HR.out] at C
    go_wp2_with fail
    refine C.mono ?_
    rintro e w1 ⟨rfl, hk1⟩
    have K1 := Lib.hid (Kept.trans HK.out hk1)
    clear hk1 C
    go_wp2_with fail
    go_ret
    exact ⟨rfl, K1.out⟩
  by_cases h10 : tg = 10
  · subst h10
    rw [if_pos (by decide)] at hR
    have HR := Lib.hid hR
    clear hR
    go_enter Try.func29, Try.ntmps29
    go_upto_region 1 with fail
    generalize ((w.alloc (.cells #[.int .i64 mi, .int .i64 ma, vP, .int .i64 ac, .int .i64 th, .int .i64 su, vI, vF, vM] 74)).alloc (.cells #[.int .i64 10, .string tx, .int .i64 nu, .int .i64 xa, .int .i64 xb] 47)) = W at *
    have c0 := HB.out.cell 0
    have c1 := HB.out.cell 1
    have c2 := HB.out.cell 2
    have c3 := HB.out.cell 3
    have c4 := HB.out.cell 4
    have c5 := HB.out.cell 5
    have c6 := HB.out.cell 6
    have c7 := HB.out.cell 7
    have c8 := HB.out.cell 8
    simp only [List.getElem?_toArray, List.getElem?_cons_succ, List.getElem?_cons_zero] at c0 c1 c2 c3 c4 c5 c6 c7 c8
    have x0 := HX.out.cell 0
    have x1 := HX.out.cell 1
    have x2 := HX.out.cell 2
    have x3 := HX.out.cell 3
    have x4 := HX.out.cell 4
    simp only [List.getElem?_toArray, List.getElem?_cons_succ, List.getElem?_cons_zero] at x0 x1 x2 x3 x4
    have C := check_member pool mi ma ac th su vP vI vF vM ⟨10, tx, nu, xa, xb⟩ W (HRD.out.kept HK.out) HSZ.out
    unfold IntG at C
    dsimp only at C
    rw [← HR.out] at C
    go_wp2_with fail
    refine C.mono ?_
    rintro e w1 ⟨rfl, hk1⟩
    have K1 := Lib.hid (Kept.trans HK.out hk1)
    clear hk1 C
    go_wp2_with fail
    go_ret
    exact ⟨rfl, K1.out⟩
  by_cases h11 : tg = 11
  · subst h11
    rw [if_pos (by decide)] at hR
    have HR := Lib.hid hR
    clear hR
    go_enter Try.func29, Try.ntmps29
    go_upto_region 1 with fail
    generalize ((w.alloc (.cells #[.int .i64 mi, .int .i64 ma, vP, .int .i64 ac, .int .i64 th, .int .i64 su, vI, vF, vM] 74)).alloc (.cells #[.int .i64 11, .string tx, .int .i64 nu, .int .i64 xa, .int .i64 xb] 47)) = W at *
    have c0 := HB.out.cell 0
    have c1 := HB.out.cell 1
    have c2 := HB.out.cell 2
    have c3 := HB.out.cell 3
    have c4 := HB.out.cell 4
    have c5 := HB.out.cell 5
    have c6 := HB.out.cell 6
    have c7 := HB.out.cell 7
    have c8 := HB.out.cell 8
    simp only [List.getElem?_toArray, List.getElem?_cons_succ, List.getElem?_cons_zero] at c0 c1 c2 c3 c4 c5 c6 c7 c8
    have x0 := HX.out.cell 0
    have x1 := HX.out.cell 1
    have x2 := HX.out.cell 2
    have x3 := HX.out.cell 3
    have x4 := HX.out.cell 4
    simp only [List.getElem?_toArray, List.getElem?_cons_succ, List.getElem?_cons_zero] at x0 x1 x2 x3 x4
    have C := check_member pool mi ma ac th su vP vI vF vM ⟨11, tx, nu, xa, xb⟩ W (HRD.out.kept HK.out) HSZ.out
    unfold IntG at C
    dsimp only at C
    rw [← HR.out] at C
    go_wp2_with fail
    refine C.mono ?_
    rintro e w1 ⟨rfl, hk1⟩
    have K1 := Lib.hid (Kept.trans HK.out hk1)
    clear hk1 C
    go_wp2_with fail
    go_ret
    exact ⟨rfl, K1.out⟩
  rw [if_neg (by omega)] at hR
  have e1 : (tg == 1) = false := by simpa using h1
  have e3 : (tg == 3) = false := by simpa using h3
  have e7 : (tg == 7) = false := by simpa using h7
  have e12 : (tg == 12) = false := by simpa using h12
  have e9 : (tg == 9) = false := by simpa using h9
  have e10 : (tg == 10) = false := by simpa using h10
  have e11 : (tg == 11) = false := by simpa using h11
  have HR := Lib.hid hR
  clear hR h1 h3 h7 h12 h9 h10 h11
  go_enter Try.func29, Try.ntmps29
  go_upto_region 1 with fail
  generalize ((w.alloc (.cells #[.int .i64 mi, .int .i64 ma, vP, .int .i64 ac, .int .i64 th, .int .i64 su, vI, vF, vM] 74)).alloc (.cells #[.int .i64 tg, .string tx, .int .i64 nu, .int .i64 xa, .int .i64 xb] 47)) = W at *
  have c0 := HB.out.cell 0
  have c1 := HB.out.cell 1
  have c2 := HB.out.cell 2
  have c3 := HB.out.cell 3
  have c4 := HB.out.cell 4
  have c5 := HB.out.cell 5
  have c6 := HB.out.cell 6
  have c7 := HB.out.cell 7
  have c8 := HB.out.cell 8
  simp only [List.getElem?_toArray, List.getElem?_cons_succ, List.getElem?_cons_zero] at c0 c1 c2 c3 c4 c5 c6 c7 c8
  have x0 := HX.out.cell 0
  have x1 := HX.out.cell 1
  have x2 := HX.out.cell 2
  have x3 := HX.out.cell 3
  have x4 := HX.out.cell 4
  simp only [List.getElem?_toArray, List.getElem?_cons_succ, List.getElem?_cons_zero] at x0 x1 x2 x3 x4

  go_wp2_with fail
  go_ret
  exact ⟨by rw [HR.out]; rfl, HK.out⟩
set_option maxHeartbeats 8000000 in
theorem ref5_constant (pool : List ConstC) (mi ma ac th su : Int) (vP vI vF vM : Value) (x : ConstC) (w : World) (hr : Rd w 5 vP pool.length (pool.flatMap encC)) (hs : ∀ k ∈ pool, k.text.size ≤ maxLen) :
    Calls Try.prog 78 #[.agg #[.int .i64 mi, .int .i64 ma, vP, .int .i64 ac, .int .i64 th, .int .i64 su, vI, vF, vM], .agg #[.int .i64 x.tag, .string x.text, .int .i64 x.num, .int .i64 x.a, .int .i64 x.b]] w (IntG (constE pool x) w) := by
  obtain ⟨tg, tx, nu, xa, xb⟩ := x
  dsimp only
  have HRD := Lib.hid hr
  have HSZ := Lib.hid hs
  have hk : Kept w ((w.alloc (.cells #[.int .i64 mi, .int .i64 ma, vP, .int .i64 ac, .int .i64 th, .int .i64 su, vI, vF, vM] 27)).alloc (.cells #[.int .i64 tg, .string tx, .int .i64 nu, .int .i64 xa, .int .i64 xb] 47)) := ((Below.refl _ _).alloc (Nat.le_refl _) _).alloc (by simp) _
  have HK := Lib.hid hk
  have HB := Lib.hid ((Blk.new w 27 #[.int .i64 mi, .int .i64 ma, vP, .int .i64 ac, .int .i64 th, .int .i64 su, vI, vF, vM]).alloc (.cells #[.int .i64 tg, .string tx, .int .i64 nu, .int .i64 xa, .int .i64 xb] 47))
  have HX : Hid (Blk ((w.alloc (.cells #[.int .i64 mi, .int .i64 ma, vP, .int .i64 ac, .int .i64 th, .int .i64 su, vI, vF, vM] 27)).alloc (.cells #[.int .i64 tg, .string tx, .int .i64 nu, .int .i64 xa, .int .i64 xb] 47)) (w.heap.size + 1) 47 #[.int .i64 tg, .string tx, .int .i64 nu, .int .i64 xa, .int .i64 xb]) := Lib.hid (heap_new_at' _ _ (by simp))
  clear hr hs hk
  obtain ⟨R, hR⟩ : ∃ R, R = constE pool ⟨tg, tx, nu, xa, xb⟩ := ⟨_, rfl⟩
  rw [← hR]
  unfold constE at hR
  dsimp only at hR
  by_cases h1 : tg = 1
  · subst h1
    rw [if_pos (by decide)] at hR
    have HR := Lib.hid hR
    clear hR
    go_enter Try.func78, Try.ntmps78
    go_upto_region 1 with fail
    generalize ((w.alloc (.cells #[.int .i64 mi, .int .i64 ma, vP, .int .i64 ac, .int .i64 th, .int .i64 su, vI, vF, vM] 27)).alloc (.cells #[.int .i64 1, .string tx, .int .i64 nu, .int .i64 xa, .int .i64 xb] 47)) = W at *
    have c0 := HB.out.cell 0
    have c1 := HB.out.cell 1
    have c2 := HB.out.cell 2
    have c3 := HB.out.cell 3
    have c4 := HB.out.cell 4
    have c5 := HB.out.cell 5
    have c6 := HB.out.cell 6
    have c7 := HB.out.cell 7
    have c8 := HB.out.cell 8
    simp only [List.getElem?_toArray, List.getElem?_cons_succ, List.getElem?_cons_zero] at c0 c1 c2 c3 c4 c5 c6 c7 c8
    have x0 := HX.out.cell 0
    have x1 := HX.out.cell 1
    have x2 := HX.out.cell 2
    have x3 := HX.out.cell 3
    have x4 := HX.out.cell 4
    simp only [List.getElem?_toArray, List.getElem?_cons_succ, List.getElem?_cons_zero] at x0 x1 x2 x3 x4

    go_wp2_with fail
    go_ret
    exact ⟨by rw [HR.out]; rfl, HK.out⟩
  by_cases h3 : tg = 3
  · subst h3
    rw [if_pos (by decide)] at hR
    have HR := Lib.hid hR
    clear hR
    go_enter Try.func78, Try.ntmps78
    go_upto_region 1 with fail
    generalize ((w.alloc (.cells #[.int .i64 mi, .int .i64 ma, vP, .int .i64 ac, .int .i64 th, .int .i64 su, vI, vF, vM] 27)).alloc (.cells #[.int .i64 3, .string tx, .int .i64 nu, .int .i64 xa, .int .i64 xb] 47)) = W at *
    have c0 := HB.out.cell 0
    have c1 := HB.out.cell 1
    have c2 := HB.out.cell 2
    have c3 := HB.out.cell 3
    have c4 := HB.out.cell 4
    have c5 := HB.out.cell 5
    have c6 := HB.out.cell 6
    have c7 := HB.out.cell 7
    have c8 := HB.out.cell 8
    simp only [List.getElem?_toArray, List.getElem?_cons_succ, List.getElem?_cons_zero] at c0 c1 c2 c3 c4 c5 c6 c7 c8
    have x0 := HX.out.cell 0
    have x1 := HX.out.cell 1
    have x2 := HX.out.cell 2
    have x3 := HX.out.cell 3
    have x4 := HX.out.cell 4
    simp only [List.getElem?_toArray, List.getElem?_cons_succ, List.getElem?_cons_zero] at x0 x1 x2 x3 x4

    go_wp2_with fail
    go_ret
    exact ⟨by rw [HR.out]; rfl, HK.out⟩
  rw [if_neg (by omega)] at hR
  by_cases h7 : tg = 7
  · subst h7
    rw [if_pos rfl] at hR
    obtain ⟨s1, hs1⟩ : ∃ s, s = (textC pool xa).1 := ⟨_, rfl⟩
    obtain ⟨b1, hb1⟩ : ∃ b, b = (textC pool xa).2 := ⟨_, rfl⟩
    have zs1 : s1.size ≤ maxLen := hs1 ▸ textC_size HSZ.out xa
    rw [← hs1, ← hb1] at hR
    obtain ⟨cb, hcb⟩ : ∃ b, b = clsS s1 := ⟨_, rfl⟩
    rw [← hcb] at hR
    have Hcb := Lib.hid hcb
    have HR := Lib.hid hR
    clear hR hcb
    have HSs1 := Lib.hid hs1
    have HBb1 := Lib.hid hb1
    clear hs1 hb1
    go_enter Try.func78, Try.ntmps78
    go_upto_region 1 with fail
    generalize ((w.alloc (.cells #[.int .i64 mi, .int .i64 ma, vP, .int .i64 ac, .int .i64 th, .int .i64 su, vI, vF, vM] 27)).alloc (.cells #[.int .i64 7, .string tx, .int .i64 nu, .int .i64 xa, .int .i64 xb] 47)) = W at *
    have c0 := HB.out.cell 0
    have c1 := HB.out.cell 1
    have c2 := HB.out.cell 2
    have c3 := HB.out.cell 3
    have c4 := HB.out.cell 4
    have c5 := HB.out.cell 5
    have c6 := HB.out.cell 6
    have c7 := HB.out.cell 7
    have c8 := HB.out.cell 8
    simp only [List.getElem?_toArray, List.getElem?_cons_succ, List.getElem?_cons_zero] at c0 c1 c2 c3 c4 c5 c6 c7 c8
    have x0 := HX.out.cell 0
    have x1 := HX.out.cell 1
    have x2 := HX.out.cell 2
    have x3 := HX.out.cell 3
    have x4 := HX.out.cell 4
    simp only [List.getElem?_toArray, List.getElem?_cons_succ, List.getElem?_cons_zero] at x0 x1 x2 x3 x4
    have C := ref5_Utf pool mi ma ac th su vP vI vF vM xa W (HRD.out.kept HK.out)
    unfold TextG at C
    rw [← HSs1.out, ← HBb1.out] at C
    go_wp2_with fail
    refine C.mono ?_
    rintro e w1 ⟨rfl, hk1⟩
    have K1 := Lib.hid (Kept.trans HK.out hk1)
    have HB1 := Lib.hid (HB.out.kept hk1)
    have HX1 := Lib.hid (HX.out.kept hk1)
    clear hk1 C
    have c0 := HB1.out.cell 0
    have c1 := HB1.out.cell 1
    have c2 := HB1.out.cell 2
    have c3 := HB1.out.cell 3
    have c4 := HB1.out.cell 4
    have c5 := HB1.out.cell 5
    have c6 := HB1.out.cell 6
    have c7 := HB1.out.cell 7
    have c8 := HB1.out.cell 8
    simp only [List.getElem?_toArray, List.getElem?_cons_succ, List.getElem?_cons_zero] at c0 c1 c2 c3 c4 c5 c6 c7 c8
    have x0 := HX1.out.cell 0
    have x1 := HX1.out.cell 1
    have x2 := HX1.out.cell 2
    have x3 := HX1.out.cell 3
    have x4 := HX1.out.cell 4
    simp only [List.getElem?_toArray, List.getElem?_cons_succ, List.getElem?_cons_zero] at x0 x1 x2 x3 x4
    cases b1
    · go_wp2_with fail
      go_ret
      exact ⟨by rw [HR.out]; rfl, K1.out⟩
    have C := ref2_Class s1 w1 zs1
    rw [show clsB s1.data.toList = cb from Hcb.out.symm] at C
    go_wp2_with fail
    refine C.mono ?_
    rintro e w2 ⟨rfl, hk2⟩
    have K2 := Lib.hid (Kept.trans K1.out hk2)
    clear hk2 C

    cases cb <;>
    (go_wp2_with fail
     go_ret
     exact ⟨by rw [HR.out]; rfl, K2.out⟩)
  rw [if_neg h7] at hR
  by_cases h12 : tg = 12
  · subst h12
    rw [if_pos rfl] at hR
    obtain ⟨s1, hs1⟩ : ∃ s, s = (textC pool xa).1 := ⟨_, rfl⟩
    obtain ⟨b1, hb1⟩ : ∃ b, b = (textC pool xa).2 := ⟨_, rfl⟩
    have zs1 : s1.size ≤ maxLen := hs1 ▸ textC_size HSZ.out xa
    obtain ⟨s2, hs2⟩ : ∃ s, s = (textC pool xb).1 := ⟨_, rfl⟩
    obtain ⟨b2, hb2⟩ : ∃ b, b = (textC pool xb).2 := ⟨_, rfl⟩
    have zs2 : s2.size ≤ maxLen := hs2 ▸ textC_size HSZ.out xb
    rw [← hs1, ← hb1, ← hs2, ← hb2] at hR
    obtain ⟨mb, hmb⟩ : ∃ b, b = metS s1 := ⟨_, rfl⟩
    obtain ⟨fb, hfb⟩ : ∃ b, b = fldS s2 := ⟨_, rfl⟩
    obtain ⟨kb, hkb⟩ : ∃ b, b = isK s2 := ⟨_, rfl⟩
    rw [← hmb, ← hfb, ← hkb] at hR
    have Hmb := Lib.hid hmb
    have Hfb := Lib.hid hfb
    have Hkb := Lib.hid hkb
    have HR := Lib.hid hR
    clear hR hmb hfb hkb
    have HSs1 := Lib.hid hs1
    have HBb1 := Lib.hid hb1
    clear hs1 hb1
    have HSs2 := Lib.hid hs2
    have HBb2 := Lib.hid hb2
    clear hs2 hb2
    go_enter Try.func78, Try.ntmps78
    go_upto_region 1 with fail
    generalize ((w.alloc (.cells #[.int .i64 mi, .int .i64 ma, vP, .int .i64 ac, .int .i64 th, .int .i64 su, vI, vF, vM] 27)).alloc (.cells #[.int .i64 12, .string tx, .int .i64 nu, .int .i64 xa, .int .i64 xb] 47)) = W at *
    have c0 := HB.out.cell 0
    have c1 := HB.out.cell 1
    have c2 := HB.out.cell 2
    have c3 := HB.out.cell 3
    have c4 := HB.out.cell 4
    have c5 := HB.out.cell 5
    have c6 := HB.out.cell 6
    have c7 := HB.out.cell 7
    have c8 := HB.out.cell 8
    simp only [List.getElem?_toArray, List.getElem?_cons_succ, List.getElem?_cons_zero] at c0 c1 c2 c3 c4 c5 c6 c7 c8
    have x0 := HX.out.cell 0
    have x1 := HX.out.cell 1
    have x2 := HX.out.cell 2
    have x3 := HX.out.cell 3
    have x4 := HX.out.cell 4
    simp only [List.getElem?_toArray, List.getElem?_cons_succ, List.getElem?_cons_zero] at x0 x1 x2 x3 x4
    have C := ref5_Utf pool mi ma ac th su vP vI vF vM xa W (HRD.out.kept HK.out)
    unfold TextG at C
    rw [← HSs1.out, ← HBb1.out] at C
    go_wp2_with fail
    refine C.mono ?_
    rintro e w1 ⟨rfl, hk1⟩
    have K1 := Lib.hid (Kept.trans HK.out hk1)
    have HB1 := Lib.hid (HB.out.kept hk1)
    have HX1 := Lib.hid (HX.out.kept hk1)
    clear hk1 C
    have c0 := HB1.out.cell 0
    have c1 := HB1.out.cell 1
    have c2 := HB1.out.cell 2
    have c3 := HB1.out.cell 3
    have c4 := HB1.out.cell 4
    have c5 := HB1.out.cell 5
    have c6 := HB1.out.cell 6
    have c7 := HB1.out.cell 7
    have c8 := HB1.out.cell 8
    simp only [List.getElem?_toArray, List.getElem?_cons_succ, List.getElem?_cons_zero] at c0 c1 c2 c3 c4 c5 c6 c7 c8
    have x0 := HX1.out.cell 0
    have x1 := HX1.out.cell 1
    have x2 := HX1.out.cell 2
    have x3 := HX1.out.cell 3
    have x4 := HX1.out.cell 4
    simp only [List.getElem?_toArray, List.getElem?_cons_succ, List.getElem?_cons_zero] at x0 x1 x2 x3 x4
    have C := ref5_Utf pool mi ma ac th su vP vI vF vM xb w1 (HRD.out.kept K1.out)
    unfold TextG at C
    rw [← HSs2.out, ← HBb2.out] at C
    go_wp2_with fail
    refine C.mono ?_
    rintro e w2 ⟨rfl, hk2⟩
    have K2 := Lib.hid (Kept.trans K1.out hk2)
    have HB2 := Lib.hid (HB1.out.kept hk2)
    have HX2 := Lib.hid (HX1.out.kept hk2)
    clear hk2 C
    have c0 := HB2.out.cell 0
    have c1 := HB2.out.cell 1
    have c2 := HB2.out.cell 2
    have c3 := HB2.out.cell 3
    have c4 := HB2.out.cell 4
    have c5 := HB2.out.cell 5
    have c6 := HB2.out.cell 6
    have c7 := HB2.out.cell 7
    have c8 := HB2.out.cell 8
    simp only [List.getElem?_toArray, List.getElem?_cons_succ, List.getElem?_cons_zero] at c0 c1 c2 c3 c4 c5 c6 c7 c8
    have x0 := HX2.out.cell 0
    have x1 := HX2.out.cell 1
    have x2 := HX2.out.cell 2
    have x3 := HX2.out.cell 3
    have x4 := HX2.out.cell 4
    simp only [List.getElem?_toArray, List.getElem?_cons_succ, List.getElem?_cons_zero] at x0 x1 x2 x3 x4
    cases b1 <;> cases b2 <;>
    first
    | (go_wp2_with fail
       go_ret
       exact ⟨by rw [HR.out]; rfl, K2.out⟩)
    | skip
    have C := ref2_Method s1 w2 zs1
    rw [show metB s1.data.toList = mb from Hmb.out.symm] at C
    go_wp2_with fail
    refine C.mono ?_
    rintro e w3 ⟨rfl, hk3⟩
    have K3 := Lib.hid (Kept.trans K2.out hk3)
    clear hk3 C

    cases mb
    · go_wp2_with fail
      go_ret
      exact ⟨by rw [HR.out]; rfl, K3.out⟩
    have C := ref2_Field s2 w3 zs2
    rw [show fldB s2.data.toList = fb from Hfb.out.symm] at C
    go_wp2_with fail
    refine C.mono ?_
    rintro e w4 ⟨rfl, hk4⟩
    have K4 := Lib.hid (Kept.trans K3.out hk4)
    clear hk4 C
    have C := ref2_KindsT s2 w4 zs2
    unfold KindG at C
    rw [show isK s2 = kb from Hkb.out.symm] at C
    go_wp2_with fail
    refine C.mono ?_
    rintro e w5 ⟨rfl, hk5⟩
    have K5 := Lib.hid (Kept.trans K4.out hk5)
    clear hk5 C
    cases fb <;> cases kb <;>
    (go_wp2_with fail
     go_ret
     exact ⟨by rw [HR.out]; rfl, K5.out⟩)
  rw [if_neg h12] at hR
  by_cases hm : tg = 9 ∨ tg = 10 ∨ tg = 11
  · rw [if_pos hm] at hR
    have C1 := fun (W : World) (hk : Kept w W) => ref5_get pool mi ma ac th su vP vI vF vM xa 7 W (HRD.out.kept hk)
    have C2 := fun (W : World) (hk : Kept w W) => ref5_both pool mi ma ac th su vP vI vF vM xb W (HRD.out.kept hk)
    unfold AtG at C1
    unfold BothG at C2
    obtain ⟨y, hy⟩ : ∃ y, y = (getC pool xa 7).getD zeroK := ⟨_, rfl⟩
    obtain ⟨t, ht⟩ : ∃ b, b = (getC pool xa 7).isSome := ⟨_, rfl⟩
    rw [← hy, ← ht] at C1
    rw [← ht] at hR
    have hz := bothC_size HSZ.out xb
    obtain ⟨r, hr⟩ : ∃ r, r = bothC pool xb := ⟨_, rfl⟩
    rw [← hr] at C2 hR hz
    obtain ⟨s, d, ok⟩ := r
    clear hr hy ht
    dsimp only at C2 hz
    obtain ⟨hz1, hz2⟩ := hz
    have CK := fun W => ref2_KindsT d W hz2
    unfold KindG at CK
    have CF := fun W => ref2_Field d W hz2
    have CM := fun W => ref2_Member s W hz1
    have hR2 : R = (if (t && ok) = false then 20 else if (tg == 9 && !fldS d || !(tg == 9) && !isK d) = true then 22 else if (tg == 9 && !memS s) = true then 21 else if (!(tg == 9) && (isS s cliL || isS s iniL && (tg == 11 || !(retK d == [86])))) = true then 21 else 0) := hR
    have hini : isS s iniL = true → memS s = false := by
      intro h
      have h2 : s.data.toList = iniL := by unfold isS at h; rw [ByteArray.toList_eq] at h; simpa using h
      unfold memS
      rw [h2]
      decide
    obtain ⟨fb, hfb⟩ : ∃ b, b = fldS d := ⟨_, rfl⟩
    obtain ⟨kb, hkb⟩ : ∃ b, b = isK d := ⟨_, rfl⟩
    obtain ⟨mb, hmb⟩ : ∃ b, b = memS s := ⟨_, rfl⟩
    rw [← hmb] at hini
    unfold fldS at hfb
    unfold memS at hmb
    rw [← hfb] at CF
    rw [← hkb] at CK
    rw [← hmb] at CM
    rw [show fldS d = fb from hfb.symm, show memS s = mb from hmb.symm, ← hkb] at hR2
    obtain ⟨cb, hcb⟩ : ∃ b, (s.toList == [60, 99, 108, 105, 110, 105, 116, 62]) = b := ⟨_, rfl⟩
    obtain ⟨ib, hib⟩ : ∃ b, (s.toList == [60, 105, 110, 105, 116, 62]) = b := ⟨_, rfl⟩
    rw [show isS s cliL = cb from hcb, show isS s iniL = ib from hib] at hR2
    rw [show isS s iniL = ib from hib] at hini
    obtain ⟨q, hq⟩ : ∃ q : ByteArray, q = ⟨(retK d).toArray⟩ := ⟨_, rfl⟩
    obtain ⟨vb, hvb⟩ : ∃ b, (q.toList == [86]) = b := ⟨_, rfl⟩
    have hvn : (q.toList != [86]) = !vb := by rw [← hvb]; rfl
    rw [show (retK d == [86]) = vb by rw [← hvb, hq, ByteArray.toList_eq]] at hR2
    obtain ⟨a0, ha0⟩ : ∃ a : ByteArray, a = ⟨(argK d).toArray⟩ := ⟨_, rfl⟩
    rw [← hq, ← ha0] at CK
    have HR := Lib.hid hR2
    have HI := Lib.hid hini
    have HC1 := Lib.hid C1
    have HC2 := Lib.hid C2
    have HCK := Lib.hid CK
    have HCF := Lib.hid CF
    have HCM := Lib.hid CM
    clear hR hR2 C1 C2 CK CF CM hfb hkb hmb hq ha0 hz1 hz2 hini
    rcases hm with rfl | rfl | rfl
    · go_enter Try.func78, Try.ntmps78
      go_upto_region 1 with fail
      generalize ((w.alloc (.cells #[.int .i64 mi, .int .i64 ma, vP, .int .i64 ac, .int .i64 th, .int .i64 su, vI, vF, vM] 27)).alloc (.cells #[.int .i64 9, .string tx, .int .i64 nu, .int .i64 xa, .int .i64 xb] 47)) = W at *
      have c0 := HB.out.cell 0
      have c1 := HB.out.cell 1
      have c2 := HB.out.cell 2
      have c3 := HB.out.cell 3
      have c4 := HB.out.cell 4
      have c5 := HB.out.cell 5
      have c6 := HB.out.cell 6
      have c7 := HB.out.cell 7
      have c8 := HB.out.cell 8
      simp only [List.getElem?_toArray, List.getElem?_cons_succ, List.getElem?_cons_zero] at c0 c1 c2 c3 c4 c5 c6 c7 c8
      have x0 := HX.out.cell 0
      have x1 := HX.out.cell 1
      have x2 := HX.out.cell 2
      have x3 := HX.out.cell 3
      have x4 := HX.out.cell 4
      simp only [List.getElem?_toArray, List.getElem?_cons_succ, List.getElem?_cons_zero] at x0 x1 x2 x3 x4
      have C := HC1.out W HK.out
      go_wp2_with fail
      refine C.mono ?_
      rintro e w1 ⟨he, hk1⟩
      have he : e = .returned (.tuple #[.agg #[.int .i64 y.tag, .string y.text, .int .i64 y.num, .int .i64 y.a, .int .i64 y.b], .bool t]) := he
      subst he
      have K1 := Lib.hid (Kept.trans HK.out hk1)
      have HB1 := Lib.hid (HB.out.kept hk1)
      have HX1 := Lib.hid (HX.out.kept hk1)
      clear hk1 C
      have c0 := HB1.out.cell 0
      have c1 := HB1.out.cell 1
      have c2 := HB1.out.cell 2
      have c3 := HB1.out.cell 3
      have c4 := HB1.out.cell 4
      have c5 := HB1.out.cell 5
      have c6 := HB1.out.cell 6
      have c7 := HB1.out.cell 7
      have c8 := HB1.out.cell 8
      simp only [List.getElem?_toArray, List.getElem?_cons_succ, List.getElem?_cons_zero] at c0 c1 c2 c3 c4 c5 c6 c7 c8
      have x0 := HX1.out.cell 0
      have x1 := HX1.out.cell 1
      have x2 := HX1.out.cell 2
      have x3 := HX1.out.cell 3
      have x4 := HX1.out.cell 4
      simp only [List.getElem?_toArray, List.getElem?_cons_succ, List.getElem?_cons_zero] at x0 x1 x2 x3 x4
      go_upto_region 30 with fail
      have hk2 : Kept w1 (w1.alloc (.cells #[.int .i64 y.tag, .string y.text, .int .i64 y.num, .int .i64 y.a, .int .i64 y.b] 47)) := (Below.refl _ _).alloc (Nat.le_refl _) _
      generalize (w1.alloc (.cells #[.int .i64 y.tag, .string y.text, .int .i64 y.num, .int .i64 y.a, .int .i64 y.b] 47)) = w2 at *
      have C := HC2.out w2 (Kept.trans K1.out hk2)
      have K2 := Lib.hid (Kept.trans K1.out hk2)
      have HB2 := Lib.hid (HB1.out.kept hk2)
      have HX2 := Lib.hid (HX1.out.kept hk2)
      clear hk2
      have c0 := HB2.out.cell 0
      have c1 := HB2.out.cell 1
      have c2 := HB2.out.cell 2
      have c3 := HB2.out.cell 3
      have c4 := HB2.out.cell 4
      have c5 := HB2.out.cell 5
      have c6 := HB2.out.cell 6
      have c7 := HB2.out.cell 7
      have c8 := HB2.out.cell 8
      simp only [List.getElem?_toArray, List.getElem?_cons_succ, List.getElem?_cons_zero] at c0 c1 c2 c3 c4 c5 c6 c7 c8
      have x0 := HX2.out.cell 0
      have x1 := HX2.out.cell 1
      have x2 := HX2.out.cell 2
      have x3 := HX2.out.cell 3
      have x4 := HX2.out.cell 4
      simp only [List.getElem?_toArray, List.getElem?_cons_succ, List.getElem?_cons_zero] at x0 x1 x2 x3 x4
      go_wp2_with fail
      refine C.mono ?_
      rintro e w3 ⟨rfl, hk3⟩
      have K3 := Lib.hid (Kept.trans K2.out hk3)
      have HB3 := Lib.hid (HB2.out.kept hk3)
      have HX3 := Lib.hid (HX2.out.kept hk3)
      clear hk3 C
      have c0 := HB3.out.cell 0
      have c1 := HB3.out.cell 1
      have c2 := HB3.out.cell 2
      have c3 := HB3.out.cell 3
      have c4 := HB3.out.cell 4
      have c5 := HB3.out.cell 5
      have c6 := HB3.out.cell 6
      have c7 := HB3.out.cell 7
      have c8 := HB3.out.cell 8
      simp only [List.getElem?_toArray, List.getElem?_cons_succ, List.getElem?_cons_zero] at c0 c1 c2 c3 c4 c5 c6 c7 c8
      have x0 := HX3.out.cell 0
      have x1 := HX3.out.cell 1
      have x2 := HX3.out.cell 2
      have x3 := HX3.out.cell 3
      have x4 := HX3.out.cell 4
      simp only [List.getElem?_toArray, List.getElem?_cons_succ, List.getElem?_cons_zero] at x0 x1 x2 x3 x4
      cases t <;> cases ok <;>
      first
        | (have C := 0
           go_wp2_with fail
           go_ret
           exact ⟨by rw [HR.out]; rfl, K3.out⟩)
        | skip
      have C := HCF.out w3
      go_wp2_with fail
      refine C.mono ?_
      rintro e w4 ⟨rfl, hk4⟩
      have K4 := Lib.hid (Kept.trans K3.out hk4)
      have HB4 := Lib.hid (HB3.out.kept hk4)
      have HX4 := Lib.hid (HX3.out.kept hk4)
      clear hk4 C
      have c0 := HB4.out.cell 0
      have c1 := HB4.out.cell 1
      have c2 := HB4.out.cell 2
      have c3 := HB4.out.cell 3
      have c4 := HB4.out.cell 4
      have c5 := HB4.out.cell 5
      have c6 := HB4.out.cell 6
      have c7 := HB4.out.cell 7
      have c8 := HB4.out.cell 8
      simp only [List.getElem?_toArray, List.getElem?_cons_succ, List.getElem?_cons_zero] at c0 c1 c2 c3 c4 c5 c6 c7 c8
      have x0 := HX4.out.cell 0
      have x1 := HX4.out.cell 1
      have x2 := HX4.out.cell 2
      have x3 := HX4.out.cell 3
      have x4 := HX4.out.cell 4
      simp only [List.getElem?_toArray, List.getElem?_cons_succ, List.getElem?_cons_zero] at x0 x1 x2 x3 x4
      have C := HCK.out w4
      go_wp2_with fail
      refine C.mono ?_
      rintro e w5 ⟨rfl, hk5⟩
      have K5 := Lib.hid (Kept.trans K4.out hk5)
      have HB5 := Lib.hid (HB4.out.kept hk5)
      have HX5 := Lib.hid (HX4.out.kept hk5)
      clear hk5 C
      have c0 := HB5.out.cell 0
      have c1 := HB5.out.cell 1
      have c2 := HB5.out.cell 2
      have c3 := HB5.out.cell 3
      have c4 := HB5.out.cell 4
      have c5 := HB5.out.cell 5
      have c6 := HB5.out.cell 6
      have c7 := HB5.out.cell 7
      have c8 := HB5.out.cell 8
      simp only [List.getElem?_toArray, List.getElem?_cons_succ, List.getElem?_cons_zero] at c0 c1 c2 c3 c4 c5 c6 c7 c8
      have x0 := HX5.out.cell 0
      have x1 := HX5.out.cell 1
      have x2 := HX5.out.cell 2
      have x3 := HX5.out.cell 3
      have x4 := HX5.out.cell 4
      simp only [List.getElem?_toArray, List.getElem?_cons_succ, List.getElem?_cons_zero] at x0 x1 x2 x3 x4
      have C := HCM.out w5
      cases fb
      · go_wp2_with fail
        go_ret
        exact ⟨by rw [HR.out]; rfl, K5.out⟩
      go_wp2_with fail
      refine C.mono ?_
      rintro e w6 ⟨rfl, hk6⟩
      have K6 := Lib.hid (Kept.trans K5.out hk6)
      have HB6 := Lib.hid (HB5.out.kept hk6)
      have HX6 := Lib.hid (HX5.out.kept hk6)
      clear hk6 C
      have c0 := HB6.out.cell 0
      have c1 := HB6.out.cell 1
      have c2 := HB6.out.cell 2
      have c3 := HB6.out.cell 3
      have c4 := HB6.out.cell 4
      have c5 := HB6.out.cell 5
      have c6 := HB6.out.cell 6
      have c7 := HB6.out.cell 7
      have c8 := HB6.out.cell 8
      simp only [List.getElem?_toArray, List.getElem?_cons_succ, List.getElem?_cons_zero] at c0 c1 c2 c3 c4 c5 c6 c7 c8
      have x0 := HX6.out.cell 0
      have x1 := HX6.out.cell 1
      have x2 := HX6.out.cell 2
      have x3 := HX6.out.cell 3
      have x4 := HX6.out.cell 4
      simp only [List.getElem?_toArray, List.getElem?_cons_succ, List.getElem?_cons_zero] at x0 x1 x2 x3 x4
      cases mb
      · go_wp2_with fail
        go_ret
        exact ⟨by rw [HR.out]; rfl, K6.out⟩
      cases ib
      rotate_left
      · exact absurd (HI.out rfl) (by decide)
      go_wp2_with fail
      go_ret
      exact ⟨by rw [HR.out]; rfl, K6.out⟩
    · go_enter Try.func78, Try.ntmps78
      go_upto_region 1 with fail
      generalize ((w.alloc (.cells #[.int .i64 mi, .int .i64 ma, vP, .int .i64 ac, .int .i64 th, .int .i64 su, vI, vF, vM] 27)).alloc (.cells #[.int .i64 10, .string tx, .int .i64 nu, .int .i64 xa, .int .i64 xb] 47)) = W at *
      have c0 := HB.out.cell 0
      have c1 := HB.out.cell 1
      have c2 := HB.out.cell 2
      have c3 := HB.out.cell 3
      have c4 := HB.out.cell 4
      have c5 := HB.out.cell 5
      have c6 := HB.out.cell 6
      have c7 := HB.out.cell 7
      have c8 := HB.out.cell 8
      simp only [List.getElem?_toArray, List.getElem?_cons_succ, List.getElem?_cons_zero] at c0 c1 c2 c3 c4 c5 c6 c7 c8
      have x0 := HX.out.cell 0
      have x1 := HX.out.cell 1
      have x2 := HX.out.cell 2
      have x3 := HX.out.cell 3
      have x4 := HX.out.cell 4
      simp only [List.getElem?_toArray, List.getElem?_cons_succ, List.getElem?_cons_zero] at x0 x1 x2 x3 x4
      have C := HC1.out W HK.out
      go_wp2_with fail
      refine C.mono ?_
      rintro e w1 ⟨he, hk1⟩
      have he : e = .returned (.tuple #[.agg #[.int .i64 y.tag, .string y.text, .int .i64 y.num, .int .i64 y.a, .int .i64 y.b], .bool t]) := he
      subst he
      have K1 := Lib.hid (Kept.trans HK.out hk1)
      have HB1 := Lib.hid (HB.out.kept hk1)
      have HX1 := Lib.hid (HX.out.kept hk1)
      clear hk1 C
      have c0 := HB1.out.cell 0
      have c1 := HB1.out.cell 1
      have c2 := HB1.out.cell 2
      have c3 := HB1.out.cell 3
      have c4 := HB1.out.cell 4
      have c5 := HB1.out.cell 5
      have c6 := HB1.out.cell 6
      have c7 := HB1.out.cell 7
      have c8 := HB1.out.cell 8
      simp only [List.getElem?_toArray, List.getElem?_cons_succ, List.getElem?_cons_zero] at c0 c1 c2 c3 c4 c5 c6 c7 c8
      have x0 := HX1.out.cell 0
      have x1 := HX1.out.cell 1
      have x2 := HX1.out.cell 2
      have x3 := HX1.out.cell 3
      have x4 := HX1.out.cell 4
      simp only [List.getElem?_toArray, List.getElem?_cons_succ, List.getElem?_cons_zero] at x0 x1 x2 x3 x4
      go_upto_region 30 with fail
      have hk2 : Kept w1 (w1.alloc (.cells #[.int .i64 y.tag, .string y.text, .int .i64 y.num, .int .i64 y.a, .int .i64 y.b] 47)) := (Below.refl _ _).alloc (Nat.le_refl _) _
      generalize (w1.alloc (.cells #[.int .i64 y.tag, .string y.text, .int .i64 y.num, .int .i64 y.a, .int .i64 y.b] 47)) = w2 at *
      have C := HC2.out w2 (Kept.trans K1.out hk2)
      have K2 := Lib.hid (Kept.trans K1.out hk2)
      have HB2 := Lib.hid (HB1.out.kept hk2)
      have HX2 := Lib.hid (HX1.out.kept hk2)
      clear hk2
      have c0 := HB2.out.cell 0
      have c1 := HB2.out.cell 1
      have c2 := HB2.out.cell 2
      have c3 := HB2.out.cell 3
      have c4 := HB2.out.cell 4
      have c5 := HB2.out.cell 5
      have c6 := HB2.out.cell 6
      have c7 := HB2.out.cell 7
      have c8 := HB2.out.cell 8
      simp only [List.getElem?_toArray, List.getElem?_cons_succ, List.getElem?_cons_zero] at c0 c1 c2 c3 c4 c5 c6 c7 c8
      have x0 := HX2.out.cell 0
      have x1 := HX2.out.cell 1
      have x2 := HX2.out.cell 2
      have x3 := HX2.out.cell 3
      have x4 := HX2.out.cell 4
      simp only [List.getElem?_toArray, List.getElem?_cons_succ, List.getElem?_cons_zero] at x0 x1 x2 x3 x4
      go_wp2_with fail
      refine C.mono ?_
      rintro e w3 ⟨rfl, hk3⟩
      have K3 := Lib.hid (Kept.trans K2.out hk3)
      have HB3 := Lib.hid (HB2.out.kept hk3)
      have HX3 := Lib.hid (HX2.out.kept hk3)
      clear hk3 C
      have c0 := HB3.out.cell 0
      have c1 := HB3.out.cell 1
      have c2 := HB3.out.cell 2
      have c3 := HB3.out.cell 3
      have c4 := HB3.out.cell 4
      have c5 := HB3.out.cell 5
      have c6 := HB3.out.cell 6
      have c7 := HB3.out.cell 7
      have c8 := HB3.out.cell 8
      simp only [List.getElem?_toArray, List.getElem?_cons_succ, List.getElem?_cons_zero] at c0 c1 c2 c3 c4 c5 c6 c7 c8
      have x0 := HX3.out.cell 0
      have x1 := HX3.out.cell 1
      have x2 := HX3.out.cell 2
      have x3 := HX3.out.cell 3
      have x4 := HX3.out.cell 4
      simp only [List.getElem?_toArray, List.getElem?_cons_succ, List.getElem?_cons_zero] at x0 x1 x2 x3 x4
      cases t <;> cases ok <;>
      first
        | (have C := 0
           go_wp2_with fail
           go_ret
           exact ⟨by rw [HR.out]; rfl, K3.out⟩)
        | skip
      have C := HCF.out w3
      go_wp2_with fail
      refine C.mono ?_
      rintro e w4 ⟨rfl, hk4⟩
      have K4 := Lib.hid (Kept.trans K3.out hk4)
      have HB4 := Lib.hid (HB3.out.kept hk4)
      have HX4 := Lib.hid (HX3.out.kept hk4)
      clear hk4 C
      have c0 := HB4.out.cell 0
      have c1 := HB4.out.cell 1
      have c2 := HB4.out.cell 2
      have c3 := HB4.out.cell 3
      have c4 := HB4.out.cell 4
      have c5 := HB4.out.cell 5
      have c6 := HB4.out.cell 6
      have c7 := HB4.out.cell 7
      have c8 := HB4.out.cell 8
      simp only [List.getElem?_toArray, List.getElem?_cons_succ, List.getElem?_cons_zero] at c0 c1 c2 c3 c4 c5 c6 c7 c8
      have x0 := HX4.out.cell 0
      have x1 := HX4.out.cell 1
      have x2 := HX4.out.cell 2
      have x3 := HX4.out.cell 3
      have x4 := HX4.out.cell 4
      simp only [List.getElem?_toArray, List.getElem?_cons_succ, List.getElem?_cons_zero] at x0 x1 x2 x3 x4
      have C := HCK.out w4
      go_wp2_with fail
      refine C.mono ?_
      rintro e w5 ⟨rfl, hk5⟩
      have K5 := Lib.hid (Kept.trans K4.out hk5)
      have HB5 := Lib.hid (HB4.out.kept hk5)
      have HX5 := Lib.hid (HX4.out.kept hk5)
      clear hk5 C
      have c0 := HB5.out.cell 0
      have c1 := HB5.out.cell 1
      have c2 := HB5.out.cell 2
      have c3 := HB5.out.cell 3
      have c4 := HB5.out.cell 4
      have c5 := HB5.out.cell 5
      have c6 := HB5.out.cell 6
      have c7 := HB5.out.cell 7
      have c8 := HB5.out.cell 8
      simp only [List.getElem?_toArray, List.getElem?_cons_succ, List.getElem?_cons_zero] at c0 c1 c2 c3 c4 c5 c6 c7 c8
      have x0 := HX5.out.cell 0
      have x1 := HX5.out.cell 1
      have x2 := HX5.out.cell 2
      have x3 := HX5.out.cell 3
      have x4 := HX5.out.cell 4
      simp only [List.getElem?_toArray, List.getElem?_cons_succ, List.getElem?_cons_zero] at x0 x1 x2 x3 x4
      have C := HCM.out w5
      cases kb
      · go_wp2_with fail
        go_ret
        exact ⟨by rw [HR.out]; rfl, K5.out⟩
      go_wp2_with fail
      refine C.mono ?_
      rintro e w6 ⟨rfl, hk6⟩
      have K6 := Lib.hid (Kept.trans K5.out hk6)
      have HB6 := Lib.hid (HB5.out.kept hk6)
      have HX6 := Lib.hid (HX5.out.kept hk6)
      clear hk6 C
      have c0 := HB6.out.cell 0
      have c1 := HB6.out.cell 1
      have c2 := HB6.out.cell 2
      have c3 := HB6.out.cell 3
      have c4 := HB6.out.cell 4
      have c5 := HB6.out.cell 5
      have c6 := HB6.out.cell 6
      have c7 := HB6.out.cell 7
      have c8 := HB6.out.cell 8
      simp only [List.getElem?_toArray, List.getElem?_cons_succ, List.getElem?_cons_zero] at c0 c1 c2 c3 c4 c5 c6 c7 c8
      have x0 := HX6.out.cell 0
      have x1 := HX6.out.cell 1
      have x2 := HX6.out.cell 2
      have x3 := HX6.out.cell 3
      have x4 := HX6.out.cell 4
      simp only [List.getElem?_toArray, List.getElem?_cons_succ, List.getElem?_cons_zero] at x0 x1 x2 x3 x4
      cases cb <;> cases ib <;> cases vb <;>
      (go_wp2_with fail
       go_ret
       exact ⟨by rw [HR.out]; rfl, K6.out⟩)
    · go_enter Try.func78, Try.ntmps78
      go_upto_region 1 with fail
      generalize ((w.alloc (.cells #[.int .i64 mi, .int .i64 ma, vP, .int .i64 ac, .int .i64 th, .int .i64 su, vI, vF, vM] 27)).alloc (.cells #[.int .i64 11, .string tx, .int .i64 nu, .int .i64 xa, .int .i64 xb] 47)) = W at *
      have c0 := HB.out.cell 0
      have c1 := HB.out.cell 1
      have c2 := HB.out.cell 2
      have c3 := HB.out.cell 3
      have c4 := HB.out.cell 4
      have c5 := HB.out.cell 5
      have c6 := HB.out.cell 6
      have c7 := HB.out.cell 7
      have c8 := HB.out.cell 8
      simp only [List.getElem?_toArray, List.getElem?_cons_succ, List.getElem?_cons_zero] at c0 c1 c2 c3 c4 c5 c6 c7 c8
      have x0 := HX.out.cell 0
      have x1 := HX.out.cell 1
      have x2 := HX.out.cell 2
      have x3 := HX.out.cell 3
      have x4 := HX.out.cell 4
      simp only [List.getElem?_toArray, List.getElem?_cons_succ, List.getElem?_cons_zero] at x0 x1 x2 x3 x4
      have C := HC1.out W HK.out
      go_wp2_with fail
      refine C.mono ?_
      rintro e w1 ⟨he, hk1⟩
      have he : e = .returned (.tuple #[.agg #[.int .i64 y.tag, .string y.text, .int .i64 y.num, .int .i64 y.a, .int .i64 y.b], .bool t]) := he
      subst he
      have K1 := Lib.hid (Kept.trans HK.out hk1)
      have HB1 := Lib.hid (HB.out.kept hk1)
      have HX1 := Lib.hid (HX.out.kept hk1)
      clear hk1 C
      have c0 := HB1.out.cell 0
      have c1 := HB1.out.cell 1
      have c2 := HB1.out.cell 2
      have c3 := HB1.out.cell 3
      have c4 := HB1.out.cell 4
      have c5 := HB1.out.cell 5
      have c6 := HB1.out.cell 6
      have c7 := HB1.out.cell 7
      have c8 := HB1.out.cell 8
      simp only [List.getElem?_toArray, List.getElem?_cons_succ, List.getElem?_cons_zero] at c0 c1 c2 c3 c4 c5 c6 c7 c8
      have x0 := HX1.out.cell 0
      have x1 := HX1.out.cell 1
      have x2 := HX1.out.cell 2
      have x3 := HX1.out.cell 3
      have x4 := HX1.out.cell 4
      simp only [List.getElem?_toArray, List.getElem?_cons_succ, List.getElem?_cons_zero] at x0 x1 x2 x3 x4
      go_upto_region 30 with fail
      have hk2 : Kept w1 (w1.alloc (.cells #[.int .i64 y.tag, .string y.text, .int .i64 y.num, .int .i64 y.a, .int .i64 y.b] 47)) := (Below.refl _ _).alloc (Nat.le_refl _) _
      generalize (w1.alloc (.cells #[.int .i64 y.tag, .string y.text, .int .i64 y.num, .int .i64 y.a, .int .i64 y.b] 47)) = w2 at *
      have C := HC2.out w2 (Kept.trans K1.out hk2)
      have K2 := Lib.hid (Kept.trans K1.out hk2)
      have HB2 := Lib.hid (HB1.out.kept hk2)
      have HX2 := Lib.hid (HX1.out.kept hk2)
      clear hk2
      have c0 := HB2.out.cell 0
      have c1 := HB2.out.cell 1
      have c2 := HB2.out.cell 2
      have c3 := HB2.out.cell 3
      have c4 := HB2.out.cell 4
      have c5 := HB2.out.cell 5
      have c6 := HB2.out.cell 6
      have c7 := HB2.out.cell 7
      have c8 := HB2.out.cell 8
      simp only [List.getElem?_toArray, List.getElem?_cons_succ, List.getElem?_cons_zero] at c0 c1 c2 c3 c4 c5 c6 c7 c8
      have x0 := HX2.out.cell 0
      have x1 := HX2.out.cell 1
      have x2 := HX2.out.cell 2
      have x3 := HX2.out.cell 3
      have x4 := HX2.out.cell 4
      simp only [List.getElem?_toArray, List.getElem?_cons_succ, List.getElem?_cons_zero] at x0 x1 x2 x3 x4
      go_wp2_with fail
      refine C.mono ?_
      rintro e w3 ⟨rfl, hk3⟩
      have K3 := Lib.hid (Kept.trans K2.out hk3)
      have HB3 := Lib.hid (HB2.out.kept hk3)
      have HX3 := Lib.hid (HX2.out.kept hk3)
      clear hk3 C
      have c0 := HB3.out.cell 0
      have c1 := HB3.out.cell 1
      have c2 := HB3.out.cell 2
      have c3 := HB3.out.cell 3
      have c4 := HB3.out.cell 4
      have c5 := HB3.out.cell 5
      have c6 := HB3.out.cell 6
      have c7 := HB3.out.cell 7
      have c8 := HB3.out.cell 8
      simp only [List.getElem?_toArray, List.getElem?_cons_succ, List.getElem?_cons_zero] at c0 c1 c2 c3 c4 c5 c6 c7 c8
      have x0 := HX3.out.cell 0
      have x1 := HX3.out.cell 1
      have x2 := HX3.out.cell 2
      have x3 := HX3.out.cell 3
      have x4 := HX3.out.cell 4
      simp only [List.getElem?_toArray, List.getElem?_cons_succ, List.getElem?_cons_zero] at x0 x1 x2 x3 x4
      cases t <;> cases ok <;>
      first
        | (have C := 0
           go_wp2_with fail
           go_ret
           exact ⟨by rw [HR.out]; rfl, K3.out⟩)
        | skip
      have C := HCF.out w3
      go_wp2_with fail
      refine C.mono ?_
      rintro e w4 ⟨rfl, hk4⟩
      have K4 := Lib.hid (Kept.trans K3.out hk4)
      have HB4 := Lib.hid (HB3.out.kept hk4)
      have HX4 := Lib.hid (HX3.out.kept hk4)
      clear hk4 C
      have c0 := HB4.out.cell 0
      have c1 := HB4.out.cell 1
      have c2 := HB4.out.cell 2
      have c3 := HB4.out.cell 3
      have c4 := HB4.out.cell 4
      have c5 := HB4.out.cell 5
      have c6 := HB4.out.cell 6
      have c7 := HB4.out.cell 7
      have c8 := HB4.out.cell 8
      simp only [List.getElem?_toArray, List.getElem?_cons_succ, List.getElem?_cons_zero] at c0 c1 c2 c3 c4 c5 c6 c7 c8
      have x0 := HX4.out.cell 0
      have x1 := HX4.out.cell 1
      have x2 := HX4.out.cell 2
      have x3 := HX4.out.cell 3
      have x4 := HX4.out.cell 4
      simp only [List.getElem?_toArray, List.getElem?_cons_succ, List.getElem?_cons_zero] at x0 x1 x2 x3 x4
      have C := HCK.out w4
      go_wp2_with fail
      refine C.mono ?_
      rintro e w5 ⟨rfl, hk5⟩
      have K5 := Lib.hid (Kept.trans K4.out hk5)
      have HB5 := Lib.hid (HB4.out.kept hk5)
      have HX5 := Lib.hid (HX4.out.kept hk5)
      clear hk5 C
      have c0 := HB5.out.cell 0
      have c1 := HB5.out.cell 1
      have c2 := HB5.out.cell 2
      have c3 := HB5.out.cell 3
      have c4 := HB5.out.cell 4
      have c5 := HB5.out.cell 5
      have c6 := HB5.out.cell 6
      have c7 := HB5.out.cell 7
      have c8 := HB5.out.cell 8
      simp only [List.getElem?_toArray, List.getElem?_cons_succ, List.getElem?_cons_zero] at c0 c1 c2 c3 c4 c5 c6 c7 c8
      have x0 := HX5.out.cell 0
      have x1 := HX5.out.cell 1
      have x2 := HX5.out.cell 2
      have x3 := HX5.out.cell 3
      have x4 := HX5.out.cell 4
      simp only [List.getElem?_toArray, List.getElem?_cons_succ, List.getElem?_cons_zero] at x0 x1 x2 x3 x4
      have C := HCM.out w5
      cases kb
      · go_wp2_with fail
        go_ret
        exact ⟨by rw [HR.out]; rfl, K5.out⟩
      go_wp2_with fail
      refine C.mono ?_
      rintro e w6 ⟨rfl, hk6⟩
      have K6 := Lib.hid (Kept.trans K5.out hk6)
      have HB6 := Lib.hid (HB5.out.kept hk6)
      have HX6 := Lib.hid (HX5.out.kept hk6)
      clear hk6 C
      have c0 := HB6.out.cell 0
      have c1 := HB6.out.cell 1
      have c2 := HB6.out.cell 2
      have c3 := HB6.out.cell 3
      have c4 := HB6.out.cell 4
      have c5 := HB6.out.cell 5
      have c6 := HB6.out.cell 6
      have c7 := HB6.out.cell 7
      have c8 := HB6.out.cell 8
      simp only [List.getElem?_toArray, List.getElem?_cons_succ, List.getElem?_cons_zero] at c0 c1 c2 c3 c4 c5 c6 c7 c8
      have x0 := HX6.out.cell 0
      have x1 := HX6.out.cell 1
      have x2 := HX6.out.cell 2
      have x3 := HX6.out.cell 3
      have x4 := HX6.out.cell 4
      simp only [List.getElem?_toArray, List.getElem?_cons_succ, List.getElem?_cons_zero] at x0 x1 x2 x3 x4
      cases cb <;> cases ib <;> cases vb <;>
      (go_wp2_with fail
       go_ret
       exact ⟨by rw [HR.out]; rfl, K6.out⟩)
  rw [if_neg hm] at hR
  have h9 : ¬ tg = 9 := fun h => hm (.inl h)
  have h10 : ¬ tg = 10 := fun h => hm (.inr (.inl h))
  have h11 : ¬ tg = 11 := fun h => hm (.inr (.inr h))
  have e1 : (tg == 1) = false := by simpa using h1
  have e3 : (tg == 3) = false := by simpa using h3
  have e7 : (tg == 7) = false := by simpa using h7
  have e12 : (tg == 12) = false := by simpa using h12
  have e9 : (tg == 9) = false := by simpa using h9
  have e10 : (tg == 10) = false := by simpa using h10
  have e11 : (tg == 11) = false := by simpa using h11
  have HR := Lib.hid hR
  clear hR h1 h3 h7 h12 h9 h10 h11 hm
  go_enter Try.func78, Try.ntmps78
  go_upto_region 1 with fail
  generalize ((w.alloc (.cells #[.int .i64 mi, .int .i64 ma, vP, .int .i64 ac, .int .i64 th, .int .i64 su, vI, vF, vM] 27)).alloc (.cells #[.int .i64 tg, .string tx, .int .i64 nu, .int .i64 xa, .int .i64 xb] 47)) = W at *
  have c0 := HB.out.cell 0
  have c1 := HB.out.cell 1
  have c2 := HB.out.cell 2
  have c3 := HB.out.cell 3
  have c4 := HB.out.cell 4
  have c5 := HB.out.cell 5
  have c6 := HB.out.cell 6
  have c7 := HB.out.cell 7
  have c8 := HB.out.cell 8
  simp only [List.getElem?_toArray, List.getElem?_cons_succ, List.getElem?_cons_zero] at c0 c1 c2 c3 c4 c5 c6 c7 c8
  have x0 := HX.out.cell 0
  have x1 := HX.out.cell 1
  have x2 := HX.out.cell 2
  have x3 := HX.out.cell 3
  have x4 := HX.out.cell 4
  simp only [List.getElem?_toArray, List.getElem?_cons_succ, List.getElem?_cons_zero] at x0 x1 x2 x3 x4

  go_wp2_with fail
  go_ret
  exact ⟨by rw [HR.out]; rfl, HK.out⟩
end Go.Proofs.Ytcklmhbcjgiplaa
