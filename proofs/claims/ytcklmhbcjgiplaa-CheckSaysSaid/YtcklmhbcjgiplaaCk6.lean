/-
  Package check by contract: the class itself.
-/
import Derived.Test.YtcklmhbcjgiplaaCk5
import Derived.Test.YtcklmhbcjgiplaaDict
import Derived.Maps.Own
import Derived.MapViews
import Derived.WideKeyEntry
import Derived.DeepKeys4
namespace Go.Proofs.Ytcklmhbcjgiplaa
set_option linter.unusedVariables false
set_option linter.unusedSimpArgs false
open Go.RowKit
open Go.Maps Go.WideMaps
set_option maxRecDepth 100000

set_option maxHeartbeats 4000000 in
theorem head_1 (pool : List ConstC) (mi ma ac th su : Int) (vP vI vF vM : Value) (w : World) (hr : Rd w 5 vP pool.length (pool.flatMap encC)) :
    Calls Try.prog 49 #[.agg #[.int .i64 mi, .int .i64 ma, vP, .int .i64 ac, .int .i64 th, .int .i64 su, vI, vF, vM]] w (BoolG (!(getC pool th 7).isSome) w) := by
  have hk : Kept w (w.alloc (.cells #[.int .i64 mi, .int .i64 ma, vP, .int .i64 ac, .int .i64 th, .int .i64 su, vI, vF, vM] 74)) := (Below.refl _ _).alloc (Nat.le_refl _) _
  have HK := Lib.hid hk
  have C := check_at pool mi ma ac th su vP vI vF vM th 7 _ (hr.kept hk)
  have HB := Lib.hid (Blk.new w 74 #[.int .i64 mi, .int .i64 ma, vP, .int .i64 ac, .int .i64 th, .int .i64 su, vI, vF, vM])
  obtain ⟨x, hx⟩ : ∃ x, x = (getC pool th 7).getD zeroK := ⟨_, rfl⟩
  obtain ⟨ok, hok⟩ : ∃ b, b = (getC pool th 7).isSome := ⟨_, rfl⟩
  unfold AtG at C
  rw [← hx, ← hok] at C
  rw [← hok]
  clear hk hr hx hok
  go_enter Try.func49, Try.ntmps49
  go_upto_region 1 with fail
  generalize (w.alloc (.cells #[.int .i64 mi, .int .i64 ma, vP, .int .i64 ac, .int .i64 th, .int .i64 su, vI, vF, vM] 74)) = W at *
  have c0 := HB.out.cell 0
  have c1 := HB.out.cell 1
  have c2 := HB.out.cell 2
  have c3 := HB.out.cell 3
  have c4 := HB.out.cell 4
  have c5 := HB.out.cell 5
  have c6 := HB.out.cell 6
  have c7 := HB.out.cell 7
  have c8 := HB.out.cell 8
  simp only [List.getElem?_toArray, List.getElem?_cons_succ, List.getElem?_cons_zero] at c0 c1 c2 c3 c4 c5 c6 c7 c8
  go_wp2_with fail
  refine C.mono ?_
  rintro e w1 ⟨he, hk1⟩
  have he : e = .returned (.tuple #[.agg #[.int .i64 x.tag, .string x.text, .int .i64 x.num, .int .i64 x.a, .int .i64 x.b], .bool ok]) := he
  subst he
  have K1 := Lib.hid (Kept.trans HK.out hk1)
  clear hk1 C
  go_upto_region 2 with fail
  have hk2 : Kept w1 (w1.alloc (.cells #[.int .i64 x.tag, .string x.text, .int .i64 x.num, .int .i64 x.a, .int .i64 x.b] 47)) := (Below.refl _ _).alloc (Nat.le_refl _) _
  have K2 := Lib.hid (Kept.trans K1.out hk2)
  clear hk2
  generalize (w1.alloc (.cells #[.int .i64 x.tag, .string x.text, .int .i64 x.num, .int .i64 x.a, .int .i64 x.b] 47)) = w2 at *
  go_wp2_with fail
  go_ret
  exact ⟨rfl, K2.out⟩
set_option maxHeartbeats 4000000 in
theorem head_2 (pool : List ConstC) (mi ma ac th su : Int) (vP vI vF vM : Value) (w : World) (hr : Rd w 5 vP pool.length (pool.flatMap encC)) :
    Calls Try.prog 50 #[.agg #[.int .i64 mi, .int .i64 ma, vP, .int .i64 ac, .int .i64 th, .int .i64 su, vI, vF, vM]] w (BoolG (!(getC pool su 7).isSome) w) := by
  have hk : Kept w (w.alloc (.cells #[.int .i64 mi, .int .i64 ma, vP, .int .i64 ac, .int .i64 th, .int .i64 su, vI, vF, vM] 74)) := (Below.refl _ _).alloc (Nat.le_refl _) _
  have HK := Lib.hid hk
  have C := check_at pool mi ma ac th su vP vI vF vM su 7 _ (hr.kept hk)
  have HB := Lib.hid (Blk.new w 74 #[.int .i64 mi, .int .i64 ma, vP, .int .i64 ac, .int .i64 th, .int .i64 su, vI, vF, vM])
  obtain ⟨x, hx⟩ : ∃ x, x = (getC pool su 7).getD zeroK := ⟨_, rfl⟩
  obtain ⟨ok, hok⟩ : ∃ b, b = (getC pool su 7).isSome := ⟨_, rfl⟩
  unfold AtG at C
  rw [← hx, ← hok] at C
  rw [← hok]
  clear hk hr hx hok
  go_enter Try.func50, Try.ntmps50
  go_upto_region 1 with fail
  generalize (w.alloc (.cells #[.int .i64 mi, .int .i64 ma, vP, .int .i64 ac, .int .i64 th, .int .i64 su, vI, vF, vM] 74)) = W at *
  have c0 := HB.out.cell 0
  have c1 := HB.out.cell 1
  have c2 := HB.out.cell 2
  have c3 := HB.out.cell 3
  have c4 := HB.out.cell 4
  have c5 := HB.out.cell 5
  have c6 := HB.out.cell 6
  have c7 := HB.out.cell 7
  have c8 := HB.out.cell 8
  simp only [List.getElem?_toArray, List.getElem?_cons_succ, List.getElem?_cons_zero] at c0 c1 c2 c3 c4 c5 c6 c7 c8
  go_wp2_with fail
  refine C.mono ?_
  rintro e w1 ⟨he, hk1⟩
  have he : e = .returned (.tuple #[.agg #[.int .i64 x.tag, .string x.text, .int .i64 x.num, .int .i64 x.a, .int .i64 x.b], .bool ok]) := he
  subst he
  have K1 := Lib.hid (Kept.trans HK.out hk1)
  clear hk1 C
  go_upto_region 2 with fail
  have hk2 : Kept w1 (w1.alloc (.cells #[.int .i64 x.tag, .string x.text, .int .i64 x.num, .int .i64 x.a, .int .i64 x.b] 47)) := (Below.refl _ _).alloc (Nat.le_refl _) _
  have K2 := Lib.hid (Kept.trans K1.out hk2)
  clear hk2
  generalize (w1.alloc (.cells #[.int .i64 x.tag, .string x.text, .int .i64 x.num, .int .i64 x.a, .int .i64 x.b] 47)) = w2 at *
  go_wp2_with fail
  go_ret
  exact ⟨rfl, K2.out⟩
/-- The flags of a class, as the program tests them. -/
def head3F (ac : Int) (kn : Bool) (s : ByteArray) : Bool := hasF ac 512 && (!hasF ac 1024 || hasF ac 16) || allF ac 1040 || hasF ac 512 && (!kn || !(s.toList == objS.toList))
set_option maxHeartbeats 8000000 in
theorem head_3 (mi ma ac th su : Int) (vP vI vF vM : Value) (kn : Bool) (s : ByteArray) (gk gs : Nat) (w : World) (hgk : Blk w gk 4 #[.bool kn]) (hgs : Blk w gs 9 #[.string s]) :
    Calls Try.prog 51 #[.agg #[.int .i64 mi, .int .i64 ma, vP, .int .i64 ac, .int .i64 th, .int .i64 su, vI, vF, vM], .pointer (some ⟨gk, 0, none⟩), .pointer (some ⟨gs, 0, none⟩)] w (BoolG (head3F ac kn s) w) := by
  have hk : Kept w (w.alloc (.cells #[.int .i64 mi, .int .i64 ma, vP, .int .i64 ac, .int .i64 th, .int .i64 su, vI, vF, vM] 74)) := (Below.refl _ _).alloc (Nat.le_refl _) _
  have HK := Lib.hid hk
  have HB := Lib.hid (Blk.new w 74 #[.int .i64 mi, .int .i64 ma, vP, .int .i64 ac, .int .i64 th, .int .i64 su, vI, vF, vM])
  have ck := (hgk.kept hk).cell 0
  have cs := (hgs.kept hk).cell 0
  simp only [List.getElem?_toArray, List.getElem?_cons_succ, List.getElem?_cons_zero] at ck cs
  obtain ⟨R, hR⟩ : ∃ R, R = head3F ac kn s := ⟨_, rfl⟩
  rw [← hR]
  unfold head3F at hR
  have C1 := fun W => check_some ac 512 W
  have C2 := fun W => check_some ac 1024 W
  have C3 := fun W => check_some ac 16 W
  have C4 := fun W => check_all ac 1040 W
  obtain ⟨f512, h512⟩ : ∃ b, b = hasF ac 512 := ⟨_, rfl⟩
  obtain ⟨f1024, h1024⟩ : ∃ b, b = hasF ac 1024 := ⟨_, rfl⟩
  obtain ⟨f16, h16⟩ : ∃ b, b = hasF ac 16 := ⟨_, rfl⟩
  obtain ⟨a1040, h1040⟩ : ∃ b, b = allF ac 1040 := ⟨_, rfl⟩
  obtain ⟨so, hso⟩ : ∃ b, (s.toList == [106, 97, 118, 97, 47, 108, 97, 110, 103, 47, 79, 98, 106, 101, 99, 116]) = b := ⟨_, rfl⟩
  have hobj : objS.toList = [106, 97, 118, 97, 47, 108, 97, 110, 103, 47, 79, 98, 106, 101, 99, 116] := by rw [ByteArray.toList_eq]; rfl
  rw [← h512] at C1 hR
  rw [← h1024] at C2 hR
  rw [← h16] at C3 hR
  rw [← h1040] at C4 hR
  rw [hobj, hso] at hR
  have hsn : (s.toList != [106, 97, 118, 97, 47, 108, 97, 110, 103, 47, 79, 98, 106, 101, 99, 116]) = !so := by rw [← hso]; rfl
  have HR := Lib.hid hR
  have C512 := Lib.hid C1
  have C1024 := Lib.hid C2
  have C16 := Lib.hid C3
  have C1040 := Lib.hid C4
  clear hk hgk hgs hR C1 C2 C3 C4 h512 h1024 h16 h1040 hobj
  go_enter Try.func51, Try.ntmps51
  go_upto_region 1 with fail
  generalize (w.alloc (.cells #[.int .i64 mi, .int .i64 ma, vP, .int .i64 ac, .int .i64 th, .int .i64 su, vI, vF, vM] 74)) = W at *
  have c0 := HB.out.cell 0
  have c1 := HB.out.cell 1
  have c2 := HB.out.cell 2
  have c3 := HB.out.cell 3
  have c4 := HB.out.cell 4
  have c5 := HB.out.cell 5
  have c6 := HB.out.cell 6
  have c7 := HB.out.cell 7
  have c8 := HB.out.cell 8
  simp only [List.getElem?_toArray, List.getElem?_cons_succ, List.getElem?_cons_zero] at c0 c1 c2 c3 c4 c5 c6 c7 c8
  cases f512
  · cases a1040 <;>
    (go_wp2_with (first
      | (go_at_call 52; refine (C512.out _).mono ?_; rintro e w9 ⟨rfl, rfl⟩)
      | (go_at_call 52; refine (C1024.out _).mono ?_; rintro e w9 ⟨rfl, rfl⟩)
      | (go_at_call 52; refine (C16.out _).mono ?_; rintro e w9 ⟨rfl, rfl⟩)
      | (go_at_call 53; refine (C1040.out _).mono ?_; rintro e w9 ⟨rfl, rfl⟩))
     go_ret
     exact ⟨by rw [HR.out]; rfl, HK.out⟩)
  cases f1024
  · (go_wp2_with (first
      | (go_at_call 52; refine (C512.out _).mono ?_; rintro e w9 ⟨rfl, rfl⟩)
      | (go_at_call 52; refine (C1024.out _).mono ?_; rintro e w9 ⟨rfl, rfl⟩)
      | (go_at_call 52; refine (C16.out _).mono ?_; rintro e w9 ⟨rfl, rfl⟩)
      | (go_at_call 53; refine (C1040.out _).mono ?_; rintro e w9 ⟨rfl, rfl⟩))
     go_ret
     exact ⟨by rw [HR.out]; rfl, HK.out⟩)
  cases f16
  rotate_left
  · (go_wp2_with (first
      | (go_at_call 52; refine (C512.out _).mono ?_; rintro e w9 ⟨rfl, rfl⟩)
      | (go_at_call 52; refine (C1024.out _).mono ?_; rintro e w9 ⟨rfl, rfl⟩)
      | (go_at_call 52; refine (C16.out _).mono ?_; rintro e w9 ⟨rfl, rfl⟩)
      | (go_at_call 53; refine (C1040.out _).mono ?_; rintro e w9 ⟨rfl, rfl⟩))
     go_ret
     exact ⟨by rw [HR.out]; rfl, HK.out⟩)
  cases a1040
  rotate_left
  · (go_wp2_with (first
      | (go_at_call 52; refine (C512.out _).mono ?_; rintro e w9 ⟨rfl, rfl⟩)
      | (go_at_call 52; refine (C1024.out _).mono ?_; rintro e w9 ⟨rfl, rfl⟩)
      | (go_at_call 52; refine (C16.out _).mono ?_; rintro e w9 ⟨rfl, rfl⟩)
      | (go_at_call 53; refine (C1040.out _).mono ?_; rintro e w9 ⟨rfl, rfl⟩))
     go_ret
     exact ⟨by rw [HR.out]; rfl, HK.out⟩)
  cases kn
  · (go_wp2_with (first
      | (go_at_call 52; refine (C512.out _).mono ?_; rintro e w9 ⟨rfl, rfl⟩)
      | (go_at_call 52; refine (C1024.out _).mono ?_; rintro e w9 ⟨rfl, rfl⟩)
      | (go_at_call 52; refine (C16.out _).mono ?_; rintro e w9 ⟨rfl, rfl⟩)
      | (go_at_call 53; refine (C1040.out _).mono ?_; rintro e w9 ⟨rfl, rfl⟩))
     go_ret
     exact ⟨by rw [HR.out]; rfl, HK.out⟩)
  cases so <;>
    (go_wp2_with (first
      | (go_at_call 52; refine (C512.out _).mono ?_; rintro e w9 ⟨rfl, rfl⟩)
      | (go_at_call 52; refine (C1024.out _).mono ?_; rintro e w9 ⟨rfl, rfl⟩)
      | (go_at_call 52; refine (C16.out _).mono ?_; rintro e w9 ⟨rfl, rfl⟩)
      | (go_at_call 53; refine (C1040.out _).mono ?_; rintro e w9 ⟨rfl, rfl⟩))
     go_ret
     exact ⟨by rw [HR.out]; rfl, HK.out⟩)
theorem lawS : Keyed Try.prog 9 := string_keyed Try.underlying9
theorem zeroI (w : World) : (zeroValue 3).run Try.prog w = .ok (.int .i64 0) w := by kernel_rfl
theorem keyS {s : ByteArray} (h : s.size ≤ maxLen) : ∃ l, keyOf Try.prog 9 (.string s) = some l := ⟨_, keyOf_string_mk (P := Try.prog) (k := 9) Try.underlying9 h⟩
theorem str_inj (a b : ByteArray) (h : Value.string a = Value.string b) : a = b := by simpa using h
theorem clean_at : ∀ args W, Sem.run Try.prog (callFunc 49 args) W = .ok (.enter 49 args) W := fun args W => call_enter Try.func49 (by kernel_rfl) rfl args W
end Go.Proofs.Ytcklmhbcjgiplaa
