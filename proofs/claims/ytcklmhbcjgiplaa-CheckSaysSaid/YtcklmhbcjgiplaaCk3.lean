/-
  Package check by contract: what is wrong with a constant; and the document's own.
-/
import Derived.Test.YtcklmhbcjgiplaaCk2
namespace Go.Proofs.Ytcklmhbcjgiplaa
set_option linter.unusedVariables false
set_option linter.unusedSimpArgs false
open Go.RowKit
set_option maxRecDepth 100000

def IntG (r : Int) (w : World) (e : Ending) (w' : World) : Prop := e = .returned (.int .i64 r) ∧ Kept w w'
def BoolG (r : Bool) (w : World) (e : Ending) (w' : World) : Prop := e = .returned (.bool r) ∧ Kept w w'
set_option maxHeartbeats 8000000 in
theorem check_member (pool : List ConstC) (mi ma ac th su : Int) (vP vI vF vM : Value) (x : ConstC) (w : World) (hr : Rd w 5 vP pool.length (pool.flatMap encC)) (hs : ∀ k ∈ pool, k.text.size ≤ maxLen) :
    Calls Try.prog 47 #[.agg #[.int .i64 mi, .int .i64 ma, vP, .int .i64 ac, .int .i64 th, .int .i64 su, vI, vF, vM], .agg #[.int .i64 x.tag, .string x.text, .int .i64 x.num, .int .i64 x.a, .int .i64 x.b]] w (IntG (refE x.tag (getC pool x.a 7).isSome (bothC pool x.b)) w) := by
  obtain ⟨tg, tx, nu, xa, xb⟩ := x
  dsimp only
  have HRD := Lib.hid hr
  have HSZ := Lib.hid hs
  have hk : Kept w ((w.alloc (.cells #[.int .i64 mi, .int .i64 ma, vP, .int .i64 ac, .int .i64 th, .int .i64 su, vI, vF, vM] 74)).alloc (.cells #[.int .i64 tg, .string tx, .int .i64 nu, .int .i64 xa, .int .i64 xb] 47)) := ((Below.refl _ _).alloc (Nat.le_refl _) _).alloc (by simp) _
  have HK := Lib.hid hk
  have HB := Lib.hid ((Blk.new w 74 #[.int .i64 mi, .int .i64 ma, vP, .int .i64 ac, .int .i64 th, .int .i64 su, vI, vF, vM]).alloc (.cells #[.int .i64 tg, .string tx, .int .i64 nu, .int .i64 xa, .int .i64 xb] 47))
  have HX : Hid (Blk ((w.alloc (.cells #[.int .i64 mi, .int .i64 ma, vP, .int .i64 ac, .int .i64 th, .int .i64 su, vI, vF, vM] 74)).alloc (.cells #[.int .i64 tg, .string tx, .int .i64 nu, .int .i64 xa, .int .i64 xb] 47)) (w.heap.size + 1) 47 #[.int .i64 tg, .string tx, .int .i64 nu, .int .i64 xa, .int .i64 xb]) := Lib.hid (heap_new_at' _ _ (by simp))
  clear hr hs hk
  rw [← refE_pair]
  obtain ⟨R, hR⟩ : ∃ R, R = refE tg (getC pool xa 7).isSome (pairC pool xb) := ⟨_, rfl⟩
  rw [← hR]
  have C1 := fun (W : World) (hk : Kept w W) => check_at pool mi ma ac th su vP vI vF vM xa 7 W (HRD.out.kept hk)
  have C2 := fun (W : World) (hk : Kept w W) => check_named pool mi ma ac th su vP vI vF vM xb W (HRD.out.kept hk)
  unfold AtG at C1
  unfold BothG at C2
  obtain ⟨y, hy⟩ : ∃ y, y = (getC pool xa 7).getD zeroK := ⟨_, rfl⟩
  obtain ⟨t, ht⟩ : ∃ b, b = (getC pool xa 7).isSome := ⟨_, rfl⟩
  rw [← hy, ← ht] at C1
  rw [← ht] at hR
  have hz := pairC_size HSZ.out xb
  obtain ⟨r, hr⟩ : ∃ r, r = pairC pool xb := ⟨_, rfl⟩
  rw [← hr] at C2 hR hz
  obtain ⟨s, d, ok⟩ := r
  clear hr hy ht
  dsimp only at C2 hz
  obtain ⟨hz1, hz2⟩ := hz
  have CK := fun W => desc_KindsT d W hz2
  unfold KindG at CK
  have CF := fun W => desc_Field d W hz2
  have CM := fun W => desc_Member s W hz1
  have hR2 : R = (if (t && ok) = false then 20 else if (tg == 9 && !fldS d || !(tg == 9) && !isK d) = true then 22 else if (tg == 9 && !memS s) = true then 21 else if (!(tg == 9) && (isS s cliL || isS s iniL && (tg == 11 || !(retK d == [86])))) = true then 21 else 0) := hR
  obtain ⟨fb, hfb⟩ : ∃ b, b = fldS d := ⟨_, rfl⟩
  obtain ⟨kb, hkb⟩ : ∃ b, b = isK d := ⟨_, rfl⟩
  obtain ⟨mb, hmb⟩ : ∃ b, b = memS s := ⟨_, rfl⟩
  unfold fldS at hfb
  unfold memS at hmb
  rw [← hfb] at CF
  rw [← hkb] at CK
  rw [← hmb] at CM
  rw [show fldS d = fb from hfb.symm, show memS s = mb from hmb.symm, ← hkb] at hR2
  obtain ⟨t9, h9⟩ : ∃ b, (tg == 9) = b := ⟨_, rfl⟩
  obtain ⟨t11, h11⟩ : ∃ b, (tg == 11) = b := ⟨_, rfl⟩
  obtain ⟨cb, hcb⟩ : ∃ b, (s.toList == [60, 99, 108, 105, 110, 105, 116, 62]) = b := ⟨_, rfl⟩
  obtain ⟨ib, hib⟩ : ∃ b, (s.toList == [60, 105, 110, 105, 116, 62]) = b := ⟨_, rfl⟩
  rw [h9, h11, show isS s cliL = cb from hcb, show isS s iniL = ib from hib] at hR2
  obtain ⟨q, hq⟩ : ∃ q : ByteArray, q = ⟨(retK d).toArray⟩ := ⟨_, rfl⟩
  obtain ⟨vb, hvb⟩ : ∃ b, (q.toList == [86]) = b := ⟨_, rfl⟩
  have hvn : (q.toList != [86]) = !vb := by rw [← hvb]; rfl
  rw [show (retK d == [86]) = vb by rw [← hvb, hq, ByteArray.toList_eq]] at hR2
  obtain ⟨a0, ha0⟩ : ∃ a : ByteArray, a = ⟨(argK d).toArray⟩ := ⟨_, rfl⟩
  rw [← hq, ← ha0] at CK
  have HR := Lib.hid hR2
  have HC1 := Lib.hid C1
  have HC2 := Lib.hid C2
  have HCK := Lib.hid CK
  have HCF := Lib.hid CF
  have HCM := Lib.hid CM
  clear hR hR2 C1 C2 CK CF CM hfb hkb hmb hq ha0 hz1 hz2
  go_enter Try.func47, Try.ntmps47
  go_upto_region 1 with fail
  generalize ((w.alloc (.cells #[.int .i64 mi, .int .i64 ma, vP, .int .i64 ac, .int .i64 th, .int .i64 su, vI, vF, vM] 74)).alloc (.cells #[.int .i64 tg, .string tx, .int .i64 nu, .int .i64 xa, .int .i64 xb] 47)) = W at *
  have c0 := HB.out.cell 0
  have c1 := HB.out.cell 1
  have c2 := HB.out.cell 2
  have c3 := HB.out.cell 3
  have c4 := HB.out.cell 4
  have c5 := HB.out.cell 5
  have c6 := HB.out.cell 6
  have c7 := HB.out.cell 7
  have c8 := HB.out.cell 8
  simp only [List.getElem?_toArray, List.getElem?_cons_succ, List.getElem?_cons_zero] at c0 c1 c2 c3 c4 c5 c6 c7 c8
  have x0 := HX.out.cell 0
  have x1 := HX.out.cell 1
  have x2 := HX.out.cell 2
  have x3 := HX.out.cell 3
  have x4 := HX.out.cell 4
  simp only [List.getElem?_toArray, List.getElem?_cons_succ, List.getElem?_cons_zero] at x0 x1 x2 x3 x4
  have C := HC1.out W HK.out
  go_wp2_with fail
  refine C.mono ?_
  rintro e w1 ⟨he, hk1⟩
  have he : e = .returned (.tuple #[.agg #[.int .i64 y.tag, .string y.text, .int .i64 y.num, .int .i64 y.a, .int .i64 y.b], .bool t]) := he
  subst he
  have K1 := Lib.hid (Kept.trans HK.out hk1)
  have HB1 := Lib.hid (HB.out.kept hk1)
  have HX1 := Lib.hid (HX.out.kept hk1)
  clear hk1 C
  have c0 := HB1.out.cell 0
  have c1 := HB1.out.cell 1
  have c2 := HB1.out.cell 2
  have c3 := HB1.out.cell 3
  have c4 := HB1.out.cell 4
  have c5 := HB1.out.cell 5
  have c6 := HB1.out.cell 6
  have c7 := HB1.out.cell 7
  have c8 := HB1.out.cell 8
  simp only [List.getElem?_toArray, List.getElem?_cons_succ, List.getElem?_cons_zero] at c0 c1 c2 c3 c4 c5 c6 c7 c8
  have x0 := HX1.out.cell 0
  have x1 := HX1.out.cell 1
  have x2 := HX1.out.cell 2
  have x3 := HX1.out.cell 3
  have x4 := HX1.out.cell 4
  simp only [List.getElem?_toArray, List.getElem?_cons_succ, List.getElem?_cons_zero] at x0 x1 x2 x3 x4
  go_upto_region 2 with fail
  have hk2 : Kept w1 (w1.alloc (.cells #[.int .i64 y.tag, .string y.text, .int .i64 y.num, .int .i64 y.a, .int .i64 y.b] 47)) := (Below.refl _ _).alloc (Nat.le_refl _) _
  generalize (w1.alloc (.cells #[.int .i64 y.tag, .string y.text, .int .i64 y.num, .int .i64 y.a, .int .i64 y.b] 47)) = w2 at *
  have C := HC2.out w2 (Kept.trans K1.out hk2)
  have K2 := Lib.hid (Kept.trans K1.out hk2)
  have HB2 := Lib.hid (HB1.out.kept hk2)
  have HX2 := Lib.hid (HX1.out.kept hk2)
  clear hk2
  have c0 := HB2.out.cell 0
  have c1 := HB2.out.cell 1
  have c2 := HB2.out.cell 2
  have c3 := HB2.out.cell 3
  have c4 := HB2.out.cell 4
  have c5 := HB2.out.cell 5
  have c6 := HB2.out.cell 6
  have c7 := HB2.out.cell 7
  have c8 := HB2.out.cell 8
  simp only [List.getElem?_toArray, List.getElem?_cons_succ, List.getElem?_cons_zero] at c0 c1 c2 c3 c4 c5 c6 c7 c8
  have x0 := HX2.out.cell 0
  have x1 := HX2.out.cell 1
  have x2 := HX2.out.cell 2
  have x3 := HX2.out.cell 3
  have x4 := HX2.out.cell 4
  simp only [List.getElem?_toArray, List.getElem?_cons_succ, List.getElem?_cons_zero] at x0 x1 x2 x3 x4
  go_wp2_with fail
  refine C.mono ?_
  rintro e w3 ⟨rfl, hk3⟩
  have K3 := Lib.hid (Kept.trans K2.out hk3)
  have HB3 := Lib.hid (HB2.out.kept hk3)
  have HX3 := Lib.hid (HX2.out.kept hk3)
  clear hk3 C
  have c0 := HB3.out.cell 0
  have c1 := HB3.out.cell 1
  have c2 := HB3.out.cell 2
  have c3 := HB3.out.cell 3
  have c4 := HB3.out.cell 4
  have c5 := HB3.out.cell 5
  have c6 := HB3.out.cell 6
  have c7 := HB3.out.cell 7
  have c8 := HB3.out.cell 8
  simp only [List.getElem?_toArray, List.getElem?_cons_succ, List.getElem?_cons_zero] at c0 c1 c2 c3 c4 c5 c6 c7 c8
  have x0 := HX3.out.cell 0
  have x1 := HX3.out.cell 1
  have x2 := HX3.out.cell 2
  have x3 := HX3.out.cell 3
  have x4 := HX3.out.cell 4
  simp only [List.getElem?_toArray, List.getElem?_cons_succ, List.getElem?_cons_zero] at x0 x1 x2 x3 x4
  have C := HCK.out w3
  go_wp2_with fail
  refine C.mono ?_
  rintro e w4 ⟨rfl, hk4⟩
  have K4 := Lib.hid (Kept.trans K3.out hk4)
  have HB4 := Lib.hid (HB3.out.kept hk4)
  have HX4 := Lib.hid (HX3.out.kept hk4)
  clear hk4 C
  have c0 := HB4.out.cell 0
  have c1 := HB4.out.cell 1
  have c2 := HB4.out.cell 2
  have c3 := HB4.out.cell 3
  have c4 := HB4.out.cell 4
  have c5 := HB4.out.cell 5
  have c6 := HB4.out.cell 6
  have c7 := HB4.out.cell 7
  have c8 := HB4.out.cell 8
  simp only [List.getElem?_toArray, List.getElem?_cons_succ, List.getElem?_cons_zero] at c0 c1 c2 c3 c4 c5 c6 c7 c8
  have x0 := HX4.out.cell 0
  have x1 := HX4.out.cell 1
  have x2 := HX4.out.cell 2
  have x3 := HX4.out.cell 3
  have x4 := HX4.out.cell 4
  simp only [List.getElem?_toArray, List.getElem?_cons_succ, List.getElem?_cons_zero] at x0 x1 x2 x3 x4
  cases t <;> cases ok <;>
  first
    | (have C := 0
       go_wp2_with fail
       go_ret
       exact ⟨by rw [HR.out]; rfl, K4.out⟩)
    | skip
  cases t9
  · cases kb
    · go_wp2_with fail
      go_ret
      exact ⟨by rw [HR.out]; rfl, K4.out⟩
    · cases cb <;> cases ib <;> cases t11 <;> cases vb <;>
      (go_wp2_with fail
       go_ret
       exact ⟨by rw [HR.out]; rfl, K4.out⟩)
  · have C := HCF.out w4
    go_upto_region 7 with fail
    go_wp2_with fail
    refine C.mono ?_
    rintro e w5 ⟨rfl, hk5⟩
    have K5 := Lib.hid (Kept.trans K4.out hk5)
    have HB5 := Lib.hid (HB4.out.kept hk5)
    have HX5 := Lib.hid (HX4.out.kept hk5)
    clear hk5 C
    have c0 := HB5.out.cell 0
    have c1 := HB5.out.cell 1
    have c2 := HB5.out.cell 2
    have c3 := HB5.out.cell 3
    have c4 := HB5.out.cell 4
    have c5 := HB5.out.cell 5
    have c6 := HB5.out.cell 6
    have c7 := HB5.out.cell 7
    have c8 := HB5.out.cell 8
    simp only [List.getElem?_toArray, List.getElem?_cons_succ, List.getElem?_cons_zero] at c0 c1 c2 c3 c4 c5 c6 c7 c8
    have x0 := HX5.out.cell 0
    have x1 := HX5.out.cell 1
    have x2 := HX5.out.cell 2
    have x3 := HX5.out.cell 3
    have x4 := HX5.out.cell 4
    simp only [List.getElem?_toArray, List.getElem?_cons_succ, List.getElem?_cons_zero] at x0 x1 x2 x3 x4
    cases fb
    · go_wp2_with fail
      go_ret
      exact ⟨by rw [HR.out]; rfl, K5.out⟩
    have C := HCM.out w5
    go_wp2_with fail
    refine C.mono ?_
    rintro e w6 ⟨rfl, hk6⟩
    have K6 := Lib.hid (Kept.trans K5.out hk6)
    clear hk6 C
    cases mb <;>
    (go_wp2_with fail
     go_ret
     exact ⟨by rw [HR.out]; rfl, K6.out⟩)
end Go.Proofs.Ytcklmhbcjgiplaa
