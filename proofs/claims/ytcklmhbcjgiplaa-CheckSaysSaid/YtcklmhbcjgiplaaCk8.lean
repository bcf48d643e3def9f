/-
  Package check by contract: the rules of a field, and those of a method that are like them.
-/
import Derived.Test.YtcklmhbcjgiplaaCk7
import Derived.Test.YtcklmhbcjgiplaaEnt
namespace Go.Proofs.Ytcklmhbcjgiplaa
set_option linter.unusedVariables false
set_option linter.unusedSimpArgs false
open Go.RowKit
open Go.Maps Go.WideMaps
set_option maxRecDepth 100000

set_option maxHeartbeats 2000000 in
theorem field_1 (xa xn xd xv : Int) (b1 b2 : Bool) (g1 g2 : Nat) (w : World) (h1 : Blk w g1 4 #[.bool b1]) (h2 : Blk w g2 4 #[.bool b2]) :
    Calls Try.prog 55 #[.agg #[.int .i64 xa, .int .i64 xn, .int .i64 xd, .int .i64 xv], .pointer (some ⟨g1, 0, none⟩), .pointer (some ⟨g2, 0, none⟩)] w (BoolG (!(b1 && b2)) w) := by
  have hk : Kept w (w.alloc (.cells #[.int .i64 xa, .int .i64 xn, .int .i64 xd, .int .i64 xv] 55)) := (Below.refl _ _).alloc (Nat.le_refl _) _
  have HK := Lib.hid hk
  have c1 := (h1.kept hk).cell 0
  simp only [List.getElem?_toArray, List.getElem?_cons_succ, List.getElem?_cons_zero] at c1
  have c2 := (h2.kept hk).cell 0
  simp only [List.getElem?_toArray, List.getElem?_cons_succ, List.getElem?_cons_zero] at c2
  clear hk h1 h2
  go_enter Try.func55, Try.ntmps55
  go_upto_region 1 with fail
  generalize (w.alloc (.cells #[.int .i64 xa, .int .i64 xn, .int .i64 xd, .int .i64 xv] 55)) = W at *
  cases b1 <;> cases b2 <;>
  (go_wp2_with fail
   go_ret
   exact ⟨rfl, HK.out⟩)
set_option maxHeartbeats 2000000 in
theorem meth_1 (xa xn xd : Int) (xh : Bool) (xs xl : Int) (vC vT : Value) (b1 b2 : Bool) (g1 g2 : Nat) (w : World) (h1 : Blk w g1 4 #[.bool b1]) (h2 : Blk w g2 4 #[.bool b2]) :
    Calls Try.prog 65 #[.agg #[.int .i64 xa, .int .i64 xn, .int .i64 xd, .bool xh, .int .i64 xs, .int .i64 xl, vC, vT], .pointer (some ⟨g1, 0, none⟩), .pointer (some ⟨g2, 0, none⟩)] w (BoolG (!(b1 && b2)) w) := by
  have hk : Kept w (w.alloc (.cells #[.int .i64 xa, .int .i64 xn, .int .i64 xd, .bool xh, .int .i64 xs, .int .i64 xl, vC, vT] 52)) := (Below.refl _ _).alloc (Nat.le_refl _) _
  have HK := Lib.hid hk
  have c1 := (h1.kept hk).cell 0
  simp only [List.getElem?_toArray, List.getElem?_cons_succ, List.getElem?_cons_zero] at c1
  have c2 := (h2.kept hk).cell 0
  simp only [List.getElem?_toArray, List.getElem?_cons_succ, List.getElem?_cons_zero] at c2
  clear hk h1 h2
  go_enter Try.func65, Try.ntmps65
  go_upto_region 1 with fail
  generalize (w.alloc (.cells #[.int .i64 xa, .int .i64 xn, .int .i64 xd, .bool xh, .int .i64 xs, .int .i64 xl, vC, vT] 52)) = W at *
  cases b1 <;> cases b2 <;>
  (go_wp2_with fail
   go_ret
   exact ⟨rfl, HK.out⟩)
set_option maxHeartbeats 2000000 in
theorem field_2 (xa xn xd xv : Int) (s : ByteArray) (gs : Nat) (w : World) (hs : s.size ≤ maxLen) (h1 : Blk w gs 9 #[.string s]) :
    Calls Try.prog 56 #[.agg #[.int .i64 xa, .int .i64 xn, .int .i64 xd, .int .i64 xv], .pointer (some ⟨gs, 0, none⟩)] w (BoolG (!memS s) w) := by
  have hk : Kept w (w.alloc (.cells #[.int .i64 xa, .int .i64 xn, .int .i64 xd, .int .i64 xv] 55)) := (Below.refl _ _).alloc (Nat.le_refl _) _
  have HK := Lib.hid hk
  have c1 := (h1.kept hk).cell 0
  simp only [List.getElem?_toArray, List.getElem?_cons_succ, List.getElem?_cons_zero] at c1
  have C := desc_Member s (w.alloc (.cells #[.int .i64 xa, .int .i64 xn, .int .i64 xd, .int .i64 xv] 55)) hs
  obtain ⟨b, hb⟩ : ∃ b, b = memS s := ⟨_, rfl⟩
  rw [show memB s.data.toList = b from hb.symm] at C
  rw [← hb]
  clear hk h1 hb
  go_enter Try.func56, Try.ntmps56
  go_upto_region 1 with fail
  generalize (w.alloc (.cells #[.int .i64 xa, .int .i64 xn, .int .i64 xd, .int .i64 xv] 55)) = W at *
  go_wp2_with fail
  refine C.mono ?_
  rintro e w1 ⟨rfl, hk1⟩
  have K1 := Lib.hid (Kept.trans HK.out hk1)
  clear hk1 C
  go_wp2_with fail
  go_ret
  exact ⟨rfl, K1.out⟩
set_option maxHeartbeats 2000000 in
theorem field_3 (xa xn xd xv : Int) (s : ByteArray) (gs : Nat) (w : World) (hs : s.size ≤ maxLen) (h1 : Blk w gs 9 #[.string s]) :
    Calls Try.prog 58 #[.agg #[.int .i64 xa, .int .i64 xn, .int .i64 xd, .int .i64 xv], .pointer (some ⟨gs, 0, none⟩)] w (BoolG (!fldS s) w) := by
  have hk : Kept w (w.alloc (.cells #[.int .i64 xa, .int .i64 xn, .int .i64 xd, .int .i64 xv] 55)) := (Below.refl _ _).alloc (Nat.le_refl _) _
  have HK := Lib.hid hk
  have c1 := (h1.kept hk).cell 0
  simp only [List.getElem?_toArray, List.getElem?_cons_succ, List.getElem?_cons_zero] at c1
  have C := desc_Field s (w.alloc (.cells #[.int .i64 xa, .int .i64 xn, .int .i64 xd, .int .i64 xv] 55)) hs
  obtain ⟨b, hb⟩ : ∃ b, b = fldS s := ⟨_, rfl⟩
  rw [show fldB s.data.toList = b from hb.symm] at C
  rw [← hb]
  clear hk h1 hb
  go_enter Try.func58, Try.ntmps58
  go_upto_region 1 with fail
  generalize (w.alloc (.cells #[.int .i64 xa, .int .i64 xn, .int .i64 xd, .int .i64 xv] 55)) = W at *
  go_wp2_with fail
  refine C.mono ?_
  rintro e w1 ⟨rfl, hk1⟩
  have K1 := Lib.hid (Kept.trans HK.out hk1)
  clear hk1 C
  go_wp2_with fail
  go_ret
  exact ⟨rfl, K1.out⟩
set_option maxHeartbeats 2000000 in
theorem meth_2 (xa xn xd : Int) (xh : Bool) (xs xl : Int) (vC vT : Value) (s : ByteArray) (gs : Nat) (w : World) (hs : s.size ≤ maxLen) (h1 : Blk w gs 9 #[.string s]) :
    Calls Try.prog 66 #[.agg #[.int .i64 xa, .int .i64 xn, .int .i64 xd, .bool xh, .int .i64 xs, .int .i64 xl, vC, vT], .pointer (some ⟨gs, 0, none⟩)] w (BoolG (!metS s) w) := by
  have hk : Kept w (w.alloc (.cells #[.int .i64 xa, .int .i64 xn, .int .i64 xd, .bool xh, .int .i64 xs, .int .i64 xl, vC, vT] 52)) := (Below.refl _ _).alloc (Nat.le_refl _) _
  have HK := Lib.hid hk
  have c1 := (h1.kept hk).cell 0
  simp only [List.getElem?_toArray, List.getElem?_cons_succ, List.getElem?_cons_zero] at c1
  have C := desc_Method s (w.alloc (.cells #[.int .i64 xa, .int .i64 xn, .int .i64 xd, .bool xh, .int .i64 xs, .int .i64 xl, vC, vT] 52)) hs
  obtain ⟨b, hb⟩ : ∃ b, b = metS s := ⟨_, rfl⟩
  rw [show metB s.data.toList = b from hb.symm] at C
  rw [← hb]
  clear hk h1 hb
  go_enter Try.func66, Try.ntmps66
  go_upto_region 1 with fail
  generalize (w.alloc (.cells #[.int .i64 xa, .int .i64 xn, .int .i64 xd, .bool xh, .int .i64 xs, .int .i64 xl, vC, vT] 52)) = W at *
  go_wp2_with fail
  refine C.mono ?_
  rintro e w1 ⟨rfl, hk1⟩
  have K1 := Lib.hid (Kept.trans HK.out hk1)
  clear hk1 C
  go_wp2_with fail
  go_ret
  exact ⟨rfl, K1.out⟩
theorem meth_3 (xa xn xd : Int) (xh : Bool) (xs xl : Int) (vC vT : Value) (b1 : Bool) (g1 : Nat) (w : World) (h1 : Blk w g1 4 #[.bool b1]) :
    Calls Try.prog 67 #[.agg #[.int .i64 xa, .int .i64 xn, .int .i64 xd, .bool xh, .int .i64 xs, .int .i64 xl, vC, vT], .pointer (some ⟨g1, 0, none⟩)] w (BoolG (!b1) w) := by
  have hk : Kept w (w.alloc (.cells #[.int .i64 xa, .int .i64 xn, .int .i64 xd, .bool xh, .int .i64 xs, .int .i64 xl, vC, vT] 52)) := (Below.refl _ _).alloc (Nat.le_refl _) _
  have HK := Lib.hid hk
  have c1 := (h1.kept hk).cell 0
  simp only [List.getElem?_toArray, List.getElem?_cons_succ, List.getElem?_cons_zero] at c1
  clear hk h1
  go_enter Try.func67, Try.ntmps67
  go_upto_region 1 with fail
  generalize (w.alloc (.cells #[.int .i64 xa, .int .i64 xn, .int .i64 xd, .bool xh, .int .i64 xs, .int .i64 xl, vC, vT] 52)) = W at *
  go_wp2_with fail
  go_ret
  exact ⟨rfl, HK.out⟩
set_option maxHeartbeats 4000000 in
theorem field_4 (xa xn xd xv : Int) (mi ma ac th su : Int) (vP vI vF vM : Value) (gb : Nat) (w : World) (h1 : Blk w gb 74 #[.int .i64 mi, .int .i64 ma, vP, .int .i64 ac, .int .i64 th, .int .i64 su, vI, vF, vM]) :
    Calls Try.prog 59 #[.agg #[.int .i64 xa, .int .i64 xn, .int .i64 xd, .int .i64 xv], .pointer (some ⟨gb, 0, none⟩)] w (BoolG (decide (1 < viewsI xa) || hasF ac 512 && !allF xa 25) w) := by
  have hk : Kept w (w.alloc (.cells #[.int .i64 xa, .int .i64 xn, .int .i64 xd, .int .i64 xv] 55)) := (Below.refl _ _).alloc (Nat.le_refl _) _
  have HK := Lib.hid hk
  have HB := Lib.hid (Blk.new w 55 #[.int .i64 xa, .int .i64 xn, .int .i64 xd, .int .i64 xv])
  have HG := Lib.hid (h1.kept hk)
  obtain ⟨V, hV⟩ : ∃ v, v = viewsI xa := ⟨_, rfl⟩
  obtain ⟨f5, h5⟩ : ∃ b, b = hasF ac 512 := ⟨_, rfl⟩
  obtain ⟨a2, h2⟩ : ∃ b, b = allF xa 25 := ⟨_, rfl⟩
  have C := fun W => check_kinds xa W
  have CS := fun W => check_some ac 512 W
  have CA := fun W => check_all xa 25 W
  rw [← hV] at C
  rw [← h5] at CS
  rw [← h2] at CA
  obtain ⟨R, hR⟩ : ∃ R, R = (decide (1 < viewsI xa) || hasF ac 512 && !allF xa 25) := ⟨_, rfl⟩
  rw [← hR]
  rw [← hV, ← h5, ← h2] at hR
  have HS := Lib.hid CS
  have HA := Lib.hid CA
  have HC := Lib.hid C
  have HR0 := Lib.hid hR
  clear hk h1 hV h5 h2 C CS CA hR
  go_enter Try.func59, Try.ntmps59
  go_upto_region 1 with fail
  generalize (w.alloc (.cells #[.int .i64 xa, .int .i64 xn, .int .i64 xd, .int .i64 xv] 55)) = W at *
  have c0 := HB.out.cell 0
  have c1 := HB.out.cell 1
  have c2 := HB.out.cell 2
  have c3 := HB.out.cell 3
  simp only [List.getElem?_toArray, List.getElem?_cons_succ, List.getElem?_cons_zero] at c0 c1 c2 c3
  have C := HC.out W
  go_wp2_with fail
  refine C.mono ?_
  rintro e w1 ⟨rfl, hk1⟩
  have K1 := Lib.hid (Kept.trans HK.out hk1)
  have HB1 := Lib.hid (HB.out.kept hk1)
  have HG1 := Lib.hid (HG.out.kept hk1)
  clear hk1 C
  have d0 := HB1.out.cell 0
  have d1 := HB1.out.cell 1
  have d2 := HB1.out.cell 2
  have d3 := HB1.out.cell 3
  simp only [List.getElem?_toArray, List.getElem?_cons_succ, List.getElem?_cons_zero] at d0 d1 d2 d3
  have j0 := HG1.out.cell 0
  have j1 := HG1.out.cell 1
  have j2 := HG1.out.cell 2
  have j3 := HG1.out.cell 3
  have j4 := HG1.out.cell 4
  have j5 := HG1.out.cell 5
  have j6 := HG1.out.cell 6
  have j7 := HG1.out.cell 7
  have j8 := HG1.out.cell 8
  simp only [List.getElem?_toArray, List.getElem?_cons_succ, List.getElem?_cons_zero] at j0 j1 j2 j3 j4 j5 j6 j7 j8
  by_cases hv : 1 < V
  · have HR := Lib.hid (show R = true by rw [HR0.out, decide_eq_true hv, Bool.true_or])
    (go_wp2_with (first
       | (go_at_call 52; refine (HS.out _).mono ?_; rintro e w9 ⟨rfl, rfl⟩)
       | (go_at_call 53; refine (HA.out _).mono ?_; rintro e w9 ⟨rfl, rfl⟩))
     go_ret
     exact ⟨by rw [HR.out]; first | rfl | simp [hv], K1.out⟩)
  have HR1 := Lib.hid (show R = (f5 && !a2) by rw [HR0.out, decide_eq_false hv, Bool.false_or])
  cases f5
  · have HR := Lib.hid (show R = false from HR1.out)
    (go_wp2_with (first
       | (go_at_call 52; refine (HS.out _).mono ?_; rintro e w9 ⟨rfl, rfl⟩)
       | (go_at_call 53; refine (HA.out _).mono ?_; rintro e w9 ⟨rfl, rfl⟩))
     go_ret
     exact ⟨by rw [HR.out]; first | rfl | simp [hv], K1.out⟩)
  have HR := Lib.hid (show R = !a2 from HR1.out)
  cases a2 <;>
    (go_wp2_with (first
       | (go_at_call 52; refine (HS.out _).mono ?_; rintro e w9 ⟨rfl, rfl⟩)
       | (go_at_call 53; refine (HA.out _).mono ?_; rintro e w9 ⟨rfl, rfl⟩))
     go_ret
     exact ⟨by rw [HR.out]; first | rfl | simp [hv], K1.out⟩)
set_option maxHeartbeats 4000000 in
theorem field_6 (xa xn xd xv : Int) (pool : List ConstC) (mi ma ac th su : Int) (vP vI vF vM : Value) (s : ByteArray) (gb gs : Nat) (w : World) (hr : Rd w 5 vP pool.length (pool.flatMap encC)) (h1 : Blk w gb 74 #[.int .i64 mi, .int .i64 ma, vP, .int .i64 ac, .int .i64 th, .int .i64 su, vI, vF, vM]) (h2 : Blk w gs 9 #[.string s]) :
    Calls Try.prog 62 #[.agg #[.int .i64 xa, .int .i64 xn, .int .i64 xd, .int .i64 xv], .pointer (some ⟨gb, 0, none⟩), .pointer (some ⟨gs, 0, none⟩)] w (BoolG (xv != 0 && (!hasF xa 8 || !isS s [73] || !(getC pool xv 3).isSome)) w) := by
  have hk : Kept w (w.alloc (.cells #[.int .i64 xa, .int .i64 xn, .int .i64 xd, .int .i64 xv] 55)) := (Below.refl _ _).alloc (Nat.le_refl _) _
  have HK := Lib.hid hk
  have HB := Lib.hid (Blk.new w 55 #[.int .i64 xa, .int .i64 xn, .int .i64 xd, .int .i64 xv])
  have HG := Lib.hid (h1.kept hk)
  have HSB := Lib.hid (h2.kept hk)
  have C := check_at pool mi ma ac th su vP vI vF vM xv 3 _ (hr.kept hk)
  obtain ⟨x, hx⟩ : ∃ x, x = (getC pool xv 3).getD zeroK := ⟨_, rfl⟩
  obtain ⟨ok, hok⟩ : ∃ b, b = (getC pool xv 3).isSome := ⟨_, rfl⟩
  obtain ⟨f8, h8⟩ : ∃ b, b = hasF xa 8 := ⟨_, rfl⟩
  obtain ⟨si, hsi⟩ : ∃ b, (s.toList == [73]) = b := ⟨_, rfl⟩
  have hsn : (s.toList != [73]) = !si := by rw [← hsi]; rfl
  have CS := fun W => check_some xa 8 W
  rw [← h8] at CS
  unfold AtG at C
  rw [← hx, ← hok] at C
  obtain ⟨R, hR⟩ : ∃ R, R = (xv != 0 && (!hasF xa 8 || !isS s [73] || !(getC pool xv 3).isSome)) := ⟨_, rfl⟩
  rw [← hR]
  rw [← h8, ← hok, show isS s [73] = si from hsi] at hR
  have HS := Lib.hid CS
  have HR0 := Lib.hid hR
  clear hk h1 h2 hr hx hok h8 CS hR
  go_enter Try.func62, Try.ntmps62
  go_upto_region 1 with fail
  generalize (w.alloc (.cells #[.int .i64 xa, .int .i64 xn, .int .i64 xd, .int .i64 xv] 55)) = W at *
  have c0 := HB.out.cell 0
  have c1 := HB.out.cell 1
  have c2 := HB.out.cell 2
  have c3 := HB.out.cell 3
  simp only [List.getElem?_toArray, List.getElem?_cons_succ, List.getElem?_cons_zero] at c0 c1 c2 c3
  have j0 := HG.out.cell 0
  have j1 := HG.out.cell 1
  have j2 := HG.out.cell 2
  have j3 := HG.out.cell 3
  have j4 := HG.out.cell 4
  have j5 := HG.out.cell 5
  have j6 := HG.out.cell 6
  have j7 := HG.out.cell 7
  have j8 := HG.out.cell 8
  simp only [List.getElem?_toArray, List.getElem?_cons_succ, List.getElem?_cons_zero] at j0 j1 j2 j3 j4 j5 j6 j7 j8
  go_wp2_with fail
  refine C.mono ?_
  rintro e w1 ⟨he, hk1⟩
  have he : e = .returned (.tuple #[.agg #[.int .i64 x.tag, .string x.text, .int .i64 x.num, .int .i64 x.a, .int .i64 x.b], .bool ok]) := he
  subst he
  have K1 := Lib.hid (Kept.trans HK.out hk1)
  have HB1 := Lib.hid (HB.out.kept hk1)
  have HS1 := Lib.hid (HSB.out.kept hk1)
  clear hk1 C
  go_upto_region 2 with fail
  have hk2 : Kept w1 (w1.alloc (.cells #[.int .i64 x.tag, .string x.text, .int .i64 x.num, .int .i64 x.a, .int .i64 x.b] 47)) := (Below.refl _ _).alloc (Nat.le_refl _) _
  have K2 := Lib.hid (Kept.trans K1.out hk2)
  have HB2 := Lib.hid (HB1.out.kept hk2)
  have HS2 := Lib.hid (HS1.out.kept hk2)
  clear hk2
  generalize (w1.alloc (.cells #[.int .i64 x.tag, .string x.text, .int .i64 x.num, .int .i64 x.a, .int .i64 x.b] 47)) = w2 at *
  have d0 := HB2.out.cell 0
  have d1 := HB2.out.cell 1
  have d2 := HB2.out.cell 2
  have d3 := HB2.out.cell 3
  simp only [List.getElem?_toArray, List.getElem?_cons_succ, List.getElem?_cons_zero] at d0 d1 d2 d3
  have q0 := HS2.out.cell 0
  simp only [List.getElem?_toArray, List.getElem?_cons_succ, List.getElem?_cons_zero] at q0
  by_cases hv : xv = 0
  · have hv1 : (xv != 0) = false := by simpa using hv
    have HR := Lib.hid (show R = false by rw [HR0.out, hv1, Bool.false_and])
    clear hv
    (go_wp2_with (go_at_call 52; refine (HS.out _).mono ?_; rintro e w9 ⟨rfl, rfl⟩)
     go_ret
     exact ⟨by rw [HR.out]; rfl, K2.out⟩)
  have hv1 : (xv != 0) = true := by simpa using hv
  have HR1 := Lib.hid (show R = (!f8 || !si || !ok) by rw [HR0.out, hv1, Bool.true_and])
  clear hv
  cases f8
  · have HR := Lib.hid (show R = true from HR1.out)
    (go_wp2_with (go_at_call 52; refine (HS.out _).mono ?_; rintro e w9 ⟨rfl, rfl⟩)
     go_ret
     exact ⟨by rw [HR.out]; rfl, K2.out⟩)
  cases si
  · have HR := Lib.hid (show R = true from HR1.out)
    (go_wp2_with (go_at_call 52; refine (HS.out _).mono ?_; rintro e w9 ⟨rfl, rfl⟩)
     go_ret
     exact ⟨by rw [HR.out]; rfl, K2.out⟩)
  have HR := Lib.hid (show R = !ok from HR1.out)
  cases ok <;>
    (go_wp2_with (go_at_call 52; refine (HS.out _).mono ?_; rintro e w9 ⟨rfl, rfl⟩)
     go_ret
     exact ⟨by rw [HR.out]; rfl, K2.out⟩)
end Go.Proofs.Ytcklmhbcjgiplaa
