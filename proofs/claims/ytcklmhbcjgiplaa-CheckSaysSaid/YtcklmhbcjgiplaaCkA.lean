/-
  Package check by contract: a method's flags.
-/
import Derived.Test.YtcklmhbcjgiplaaCk9
namespace Go.Proofs.Ytcklmhbcjgiplaa
set_option linter.unusedVariables false
set_option linter.unusedSimpArgs false
open Go.RowKit
open Go.Maps Go.WideMaps
set_option maxRecDepth 100000

theorem some_q (a f : Int) (w : World) : Calls Try.prog 52 #[.int .i64 a, .int .i64 f] w fun e w' => e = .returned (.bool (hasF a f)) ∧ w = w' := check_some a f w
set_option maxHeartbeats 8000000 in
theorem check_flags (xa xn xd : Int) (xh : Bool) (xs xl : Int) (vC vT : Value) (mi ma ac th su : Int) (vP vI vF vM : Value) (s : ByteArray) (w : World) :
    Calls Try.prog 69 #[.agg #[.int .i64 mi, .int .i64 ma, vP, .int .i64 ac, .int .i64 th, .int .i64 su, vI, vF, vM], .agg #[.int .i64 xa, .int .i64 xn, .int .i64 xd, .bool xh, .int .i64 xs, .int .i64 xl, vC, vT], .string s] w (BoolG (methF ac xa s) w) := by
  have hk : Kept w ((w.alloc (.cells #[.int .i64 mi, .int .i64 ma, vP, .int .i64 ac, .int .i64 th, .int .i64 su, vI, vF, vM] 74)).alloc (.cells #[.int .i64 xa, .int .i64 xn, .int .i64 xd, .bool xh, .int .i64 xs, .int .i64 xl, vC, vT] 52)) := ((Below.refl _ _).alloc (Nat.le_refl _) _).alloc (by simp) _
  have HK := Lib.hid hk
  have HB := Lib.hid ((Blk.new w 74 #[.int .i64 mi, .int .i64 ma, vP, .int .i64 ac, .int .i64 th, .int .i64 su, vI, vF, vM]).alloc (.cells #[.int .i64 xa, .int .i64 xn, .int .i64 xd, .bool xh, .int .i64 xs, .int .i64 xl, vC, vT] 52))
  have HX : Hid (Blk ((w.alloc (.cells #[.int .i64 mi, .int .i64 ma, vP, .int .i64 ac, .int .i64 th, .int .i64 su, vI, vF, vM] 74)).alloc (.cells #[.int .i64 xa, .int .i64 xn, .int .i64 xd, .bool xh, .int .i64 xs, .int .i64 xl, vC, vT] 52)) (w.heap.size + 1) 52 #[.int .i64 xa, .int .i64 xn, .int .i64 xd, .bool xh, .int .i64 xs, .int .i64 xl, vC, vT]) := Lib.hid (heap_new_at' _ _ (by simp))
  obtain ⟨V, hV⟩ : ∃ v, v = viewsI xa := ⟨_, rfl⟩
  have C := fun W => check_kinds xa W
  rw [← hV] at C
  obtain ⟨R, hR⟩ : ∃ R, R = methF ac xa s := ⟨_, rfl⟩
  rw [← hR]
  have HV := Lib.hid hV
  have HC := Lib.hid C
  have HR := Lib.hid hR
  clear hk hV C hR
  go_enter Try.func69, Try.ntmps69
  go_upto_region 1 with fail
  generalize ((w.alloc (.cells #[.int .i64 mi, .int .i64 ma, vP, .int .i64 ac, .int .i64 th, .int .i64 su, vI, vF, vM] 74)).alloc (.cells #[.int .i64 xa, .int .i64 xn, .int .i64 xd, .bool xh, .int .i64 xs, .int .i64 xl, vC, vT] 52)) = W at *
  have c0 := HB.out.cell 0
  have c1 := HB.out.cell 1
  have c2 := HB.out.cell 2
  have c3 := HB.out.cell 3
  have c4 := HB.out.cell 4
  have c5 := HB.out.cell 5
  have c6 := HB.out.cell 6
  have c7 := HB.out.cell 7
  have c8 := HB.out.cell 8
  simp only [List.getElem?_toArray, List.getElem?_cons_succ, List.getElem?_cons_zero] at c0 c1 c2 c3 c4 c5 c6 c7 c8
  have x0 := HX.out.cell 0
  have x1 := HX.out.cell 1
  have x2 := HX.out.cell 2
  have x3 := HX.out.cell 3
  have x4 := HX.out.cell 4
  have x5 := HX.out.cell 5
  have x6 := HX.out.cell 6
  have x7 := HX.out.cell 7
  simp only [List.getElem?_toArray, List.getElem?_cons_succ, List.getElem?_cons_zero] at x0 x1 x2 x3 x4 x5 x6 x7
  go_quiet ((go_at_call 52; exact quiet_l (some_q _ _ _)))
  have HKD : Hid (∀ m, Kept w (W.drewN m)) := Lib.hid (fun m => kept_drewN HK.out m)
  cases h256 : hasF xa 256
  rotate_left
  · (go_wp2_with (go_at_call 52; refine (some_q _ _ _).mono ?_; rintro e w9 ⟨rfl, rfl⟩)
     go_ret
     exact ⟨by rw [HR.out]; simp [methF, h256], HKD.out _⟩)
  go_wp2_with (go_at_call 52; refine (some_q _ _ _).mono ?_; rintro e w9 ⟨rfl, rfl⟩)
  refine (HC.out _).mono ?_
  rintro e w1 ⟨rfl, hk1⟩
  have K1 := Lib.hid (Kept.trans (HKD.out _) hk1)
  clear hk1
  have hi0 : isS s iniL = (s.toList == [60, 105, 110, 105, 116, 62]) := rfl
  have hc0 : isS s cliL = (s.toList == [60, 99, 108, 105, 110, 105, 116, 62]) := rfl
  by_cases hv : 1 < V
  · have hv2 : 1 < viewsI xa := HV.out ▸ hv
    (go_wp2_with (go_at_call 52; refine (some_q _ _ _).mono ?_; rintro e w9 ⟨rfl, rfl⟩)
     go_ret
     exact ⟨by rw [HR.out]; simp [methF, h256, hv2], K1.out⟩)
  have hv2 : ¬ 1 < viewsI xa := HV.out ▸ hv
  cases h1024 : hasF xa 1024
  · cases hf : hasF ac 512
    · cases hi : (s.toList == [60, 105, 110, 105, 116, 62])
      · cases hc : (s.toList == [60, 99, 108, 105, 110, 105, 116, 62])
        · (go_wp2_with (go_at_call 52; refine (some_q _ _ _).mono ?_; rintro e w9 ⟨rfl, rfl⟩)
           go_ret
           exact ⟨by rw [HR.out]; simp [methF, h256, hv2, h1024, hf, hi0, hi, hc0, hc], K1.out⟩)
        · cases h8 : hasF xa 8 <;>
          (go_wp2_with (go_at_call 52; refine (some_q _ _ _).mono ?_; rintro e w9 ⟨rfl, rfl⟩)
           go_ret
           exact ⟨by rw [HR.out]; simp [methF, h256, hv2, h1024, hf, hi0, hi, hc0, hc, h8], K1.out⟩)
      · cases h8 : hasF xa 8
        · have h1032 : hasF xa 1032 = false := by rw [has_or xa, h8, h1024] <;> rfl
          (go_wp2_with (go_at_call 52; refine (some_q _ _ _).mono ?_; rintro e w9 ⟨rfl, rfl⟩)
           go_ret
           exact ⟨by rw [HR.out]; simp [methF, h256, hv2, h1024, hf, hi0, hi, h8], K1.out⟩)
        · have h1032 : hasF xa 1032 = true := by rw [has_or xa, h8, h1024] <;> rfl
          (go_wp2_with (go_at_call 52; refine (some_q _ _ _).mono ?_; rintro e w9 ⟨rfl, rfl⟩)
           go_ret
           exact ⟨by rw [HR.out]; simp [methF, h256, hv2, h1024, hf, hi0, hi, h8], K1.out⟩)
    cases h3 : hasF xa 3
    · (go_wp2_with (go_at_call 52; refine (some_q _ _ _).mono ?_; rintro e w9 ⟨rfl, rfl⟩)
       go_ret
       exact ⟨by rw [HR.out]; simp [methF, h256, hv2, h1024, hf, h3], K1.out⟩)
    cases h16 : hasF xa 16
    rotate_left
    · (go_wp2_with (go_at_call 52; refine (some_q _ _ _).mono ?_; rintro e w9 ⟨rfl, rfl⟩)
       go_ret
       exact ⟨by rw [HR.out]; simp [methF, h256, hv2, h1024, hf, h3, h16], K1.out⟩)
    cases hi : (s.toList == [60, 105, 110, 105, 116, 62])
    · cases hc : (s.toList == [60, 99, 108, 105, 110, 105, 116, 62])
      · (go_wp2_with (go_at_call 52; refine (some_q _ _ _).mono ?_; rintro e w9 ⟨rfl, rfl⟩)
         go_ret
         exact ⟨by rw [HR.out]; simp [methF, h256, hv2, h1024, hf, h3, h16, hi0, hi, hc0, hc], K1.out⟩)
      · cases h8 : hasF xa 8 <;>
        (go_wp2_with (go_at_call 52; refine (some_q _ _ _).mono ?_; rintro e w9 ⟨rfl, rfl⟩)
         go_ret
         exact ⟨by rw [HR.out]; simp [methF, h256, hv2, h1024, hf, h3, h16, hi0, hi, hc0, hc, h8], K1.out⟩)
    · cases h8 : hasF xa 8
      · have h1032 : hasF xa 1032 = false := by rw [has_or xa, h8, h1024] <;> rfl
        (go_wp2_with (go_at_call 52; refine (some_q _ _ _).mono ?_; rintro e w9 ⟨rfl, rfl⟩)
         go_ret
         exact ⟨by rw [HR.out]; simp [methF, h256, hv2, h1024, hf, h3, h16, hi0, hi, h8], K1.out⟩)
      · have h1032 : hasF xa 1032 = true := by rw [has_or xa, h8, h1024] <;> rfl
        (go_wp2_with (go_at_call 52; refine (some_q _ _ _).mono ?_; rintro e w9 ⟨rfl, rfl⟩)
         go_ret
         exact ⟨by rw [HR.out]; simp [methF, h256, hv2, h1024, hf, h3, h16, hi0, hi, h8], K1.out⟩)
  cases h26 : hasF xa 26
  rotate_left
  · (go_wp2_with (go_at_call 52; refine (some_q _ _ _).mono ?_; rintro e w9 ⟨rfl, rfl⟩)
     go_ret
     exact ⟨by rw [HR.out]; simp [methF, h256, hv2, h1024, h26], K1.out⟩)
  cases hf : hasF ac 512
  · cases hi : (s.toList == [60, 105, 110, 105, 116, 62])
    · cases hc : (s.toList == [60, 99, 108, 105, 110, 105, 116, 62])
      · (go_wp2_with (go_at_call 52; refine (some_q _ _ _).mono ?_; rintro e w9 ⟨rfl, rfl⟩)
         go_ret
         exact ⟨by rw [HR.out]; simp [methF, h256, hv2, h1024, h26, hf, hi0, hi, hc0, hc], K1.out⟩)
      · cases h8 : hasF xa 8 <;>
        (go_wp2_with (go_at_call 52; refine (some_q _ _ _).mono ?_; rintro e w9 ⟨rfl, rfl⟩)
         go_ret
         exact ⟨by rw [HR.out]; simp [methF, h256, hv2, h1024, h26, hf, hi0, hi, hc0, hc, h8], K1.out⟩)
    · cases h8 : hasF xa 8
      · have h1032 : hasF xa 1032 = true := by rw [has_or xa, h8, h1024] <;> rfl
        (go_wp2_with (go_at_call 52; refine (some_q _ _ _).mono ?_; rintro e w9 ⟨rfl, rfl⟩)
         go_ret
         exact ⟨by rw [HR.out]; simp [methF, h256, hv2, h1024, h26, hf, hi0, hi, h8], K1.out⟩)
      · have h1032 : hasF xa 1032 = true := by rw [has_or xa, h8, h1024] <;> rfl
        (go_wp2_with (go_at_call 52; refine (some_q _ _ _).mono ?_; rintro e w9 ⟨rfl, rfl⟩)
         go_ret
         exact ⟨by rw [HR.out]; simp [methF, h256, hv2, h1024, h26, hf, hi0, hi, h8], K1.out⟩)
  cases h3 : hasF xa 3
  · (go_wp2_with (go_at_call 52; refine (some_q _ _ _).mono ?_; rintro e w9 ⟨rfl, rfl⟩)
     go_ret
     exact ⟨by rw [HR.out]; simp [methF, h256, hv2, h1024, h26, hf, h3], K1.out⟩)
  cases h16 : hasF xa 16
  rotate_left
  · (go_wp2_with (go_at_call 52; refine (some_q _ _ _).mono ?_; rintro e w9 ⟨rfl, rfl⟩)
     go_ret
     exact ⟨by rw [HR.out]; simp [methF, h256, hv2, h1024, h26, hf, h3, h16], K1.out⟩)
  cases hi : (s.toList == [60, 105, 110, 105, 116, 62])
  · cases hc : (s.toList == [60, 99, 108, 105, 110, 105, 116, 62])
    · (go_wp2_with (go_at_call 52; refine (some_q _ _ _).mono ?_; rintro e w9 ⟨rfl, rfl⟩)
       go_ret
       exact ⟨by rw [HR.out]; simp [methF, h256, hv2, h1024, h26, hf, h3, h16, hi0, hi, hc0, hc], K1.out⟩)
    · cases h8 : hasF xa 8 <;>
      (go_wp2_with (go_at_call 52; refine (some_q _ _ _).mono ?_; rintro e w9 ⟨rfl, rfl⟩)
       go_ret
       exact ⟨by rw [HR.out]; simp [methF, h256, hv2, h1024, h26, hf, h3, h16, hi0, hi, hc0, hc, h8], K1.out⟩)
  · cases h8 : hasF xa 8
    · have h1032 : hasF xa 1032 = true := by rw [has_or xa, h8, h1024] <;> rfl
      (go_wp2_with (go_at_call 52; refine (some_q _ _ _).mono ?_; rintro e w9 ⟨rfl, rfl⟩)
       go_ret
       exact ⟨by rw [HR.out]; simp [methF, h256, hv2, h1024, h26, hf, h3, h16, hi0, hi, h8], K1.out⟩)
    · have h1032 : hasF xa 1032 = true := by rw [has_or xa, h8, h1024] <;> rfl
      (go_wp2_with (go_at_call 52; refine (some_q _ _ _).mono ?_; rintro e w9 ⟨rfl, rfl⟩)
       go_ret
       exact ⟨by rw [HR.out]; simp [methF, h256, hv2, h1024, h26, hf, h3, h16, hi0, hi, h8], K1.out⟩)
end Go.Proofs.Ytcklmhbcjgiplaa
