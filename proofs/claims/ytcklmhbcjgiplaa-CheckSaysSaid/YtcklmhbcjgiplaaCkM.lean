/-
  Several texts in one: XCkR XCkS XCkT XCkV XCkW XCkU.
-/
import Derived.Test.YtcklmhbcjgiplaaCkA
import Derived.Deep.RegionHeld2
import Derived.Test.YtcklmhbcjgiplaaCkC
import Derived.Test.YtcklmhbcjgiplaaCkF
import Derived.Test.YtcklmhbcjgiplaaCkX
namespace Go.Proofs.Ytcklmhbcjgiplaa
set_option linter.unusedVariables false
set_option linter.unusedSimpArgs false
open Go.RowKit
open Go.Maps Go.WideMaps
set_option maxRecDepth 100000

theorem has_q (a f : Int) (w : World) : Calls Try.prog 89 #[.int .i64 a, .int .i64 f] w fun e w' => e = .returned (.bool (hasF a f)) ∧ w = w' := ref5_Has a f w
theorem views_q (a : Int) (w : World) : Calls Try.prog 90 #[.int .i64 a] w fun e w' => e = .returned (.int .i64 (viewsI a)) ∧ w = w' := ref5_views a w
theorem has_ne {a f : Int} {b : Bool} (h : hasF a f = b) : (bits .and .i64 a f != 0) = b := h
theorem has_eq {a f : Int} {b : Bool} (h : hasF a f = b) : (bits .and .i64 a f == 0) = !b := by
  rw [← h]
  unfold hasF bne
  simp
set_option maxHeartbeats 8000000 in
theorem ref5_flags (mi ma ac th su xa : Int) (vP vI vF vM : Value) (s : ByteArray) (w : World) :
    Calls Try.prog 91 #[.agg #[.int .i64 mi, .int .i64 ma, vP, .int .i64 ac, .int .i64 th, .int .i64 su, vI, vF, vM], .int .i64 xa, .string s] w (BoolG (!methF ac xa s) w) := by
  have hk : Kept w (w.alloc (.cells #[.int .i64 mi, .int .i64 ma, vP, .int .i64 ac, .int .i64 th, .int .i64 su, vI, vF, vM] 27)) := (Below.refl _ _).alloc (Nat.le_refl _) _
  have HK := Lib.hid hk
  have HB := Lib.hid (Blk.new w 27 #[.int .i64 mi, .int .i64 ma, vP, .int .i64 ac, .int .i64 th, .int .i64 su, vI, vF, vM])
  obtain ⟨R, hR⟩ : ∃ R, R = !methF ac xa s := ⟨_, rfl⟩
  rw [← hR]
  have HR := Lib.hid hR
  have hi0 : isS s iniL = (s.toList == [60, 105, 110, 105, 116, 62]) := rfl
  have hc0 : isS s cliL = (s.toList == [60, 99, 108, 105, 110, 105, 116, 62]) := rfl
  clear hk hR
  go_enter Try.func91, Try.ntmps91
  go_upto_region 1 with fail
  generalize (w.alloc (.cells #[.int .i64 mi, .int .i64 ma, vP, .int .i64 ac, .int .i64 th, .int .i64 su, vI, vF, vM] 27)) = W at *
  have c0 := HB.out.cell 0
  have c1 := HB.out.cell 1
  have c2 := HB.out.cell 2
  have c3 := HB.out.cell 3
  have c4 := HB.out.cell 4
  have c5 := HB.out.cell 5
  have c6 := HB.out.cell 6
  have c7 := HB.out.cell 7
  have c8 := HB.out.cell 8
  simp only [List.getElem?_toArray, List.getElem?_cons_succ, List.getElem?_cons_zero] at c0 c1 c2 c3 c4 c5 c6 c7 c8
  cases h256 : hasF xa 256
  rotate_left
  · (go_wp2_with (first
      | (go_at_call 89; refine (has_q _ _ _).mono ?_; rintro e w9 ⟨rfl, rfl⟩)
      | (go_at_call 90; refine (views_q _ _).mono ?_; rintro e w9 ⟨rfl, rfl⟩))
     go_ret
     exact ⟨by rw [HR.out]; simp [methF, h256], HK.out⟩)
  by_cases hv : 1 < viewsI xa
  · (go_wp2_with (first
      | (go_at_call 89; refine (has_q _ _ _).mono ?_; rintro e w9 ⟨rfl, rfl⟩)
      | (go_at_call 90; refine (views_q _ _).mono ?_; rintro e w9 ⟨rfl, rfl⟩))
     go_ret
     exact ⟨by rw [HR.out]; simp [methF, h256, hv], HK.out⟩)
  cases h1024 : hasF xa 1024
  · cases hf : hasF ac 512
    · cases hi : (s.toList == [60, 105, 110, 105, 116, 62])
      · cases hc : (s.toList == [60, 99, 108, 105, 110, 105, 116, 62])
        · have hcn : (s.toList != [60, 99, 108, 105, 110, 105, 116, 62]) = true := by unfold bne; rw [hc]; rfl
          (go_wp2_with (first
            | (go_at_call 89; refine (has_q _ _ _).mono ?_; rintro e w9 ⟨rfl, rfl⟩)
            | (go_at_call 90; refine (views_q _ _).mono ?_; rintro e w9 ⟨rfl, rfl⟩))
           go_ret
           exact ⟨by rw [HR.out]; simp [methF, h256, hv, h1024, hf, hi0, hi, hc0, hc], HK.out⟩)
        · have hcn : (s.toList != [60, 99, 108, 105, 110, 105, 116, 62]) = false := by unfold bne; rw [hc]; rfl
          cases h8 : hasF xa 8 <;>
          (go_wp2_with (first
            | (go_at_call 89; refine (has_q _ _ _).mono ?_; rintro e w9 ⟨rfl, rfl⟩)
            | (go_at_call 90; refine (views_q _ _).mono ?_; rintro e w9 ⟨rfl, rfl⟩))
           go_ret
           exact ⟨by rw [HR.out]; simp [methF, h256, hv, h1024, hf, hi0, hi, hc0, hc, h8], HK.out⟩)
      · have hcn : (s.toList != [60, 99, 108, 105, 110, 105, 116, 62]) = true := by
          have e : s.toList = [60, 105, 110, 105, 116, 62] := by simpa using hi
          rw [e]
          decide
        have hc1 : (s.toList == [60, 99, 108, 105, 110, 105, 116, 62]) = false := by
          have e : s.toList = [60, 105, 110, 105, 116, 62] := by simpa using hi
          rw [e]
          decide
        cases h8 : hasF xa 8 <;>
        (go_wp2_with (first
          | (go_at_call 89; refine (has_q _ _ _).mono ?_; rintro e w9 ⟨rfl, rfl⟩)
          | (go_at_call 90; refine (views_q _ _).mono ?_; rintro e w9 ⟨rfl, rfl⟩))
         go_ret
         exact ⟨by rw [HR.out]; simp [methF, h256, hv, h1024, hf, hi0, hi, h8], HK.out⟩)
    cases h3 : hasF xa 3
    · have e3 := has_eq h3
      (go_wp2_with (first
        | (go_at_call 89; refine (has_q _ _ _).mono ?_; rintro e w9 ⟨rfl, rfl⟩)
        | (go_at_call 90; refine (views_q _ _).mono ?_; rintro e w9 ⟨rfl, rfl⟩))
       go_ret
       exact ⟨by rw [HR.out]; simp [methF, h256, hv, h1024, hf, h3], HK.out⟩)
    have e3 := has_eq h3
    cases h16 : hasF xa 16
    rotate_left
    · have e16 := has_ne h16
      (go_wp2_with (first
        | (go_at_call 89; refine (has_q _ _ _).mono ?_; rintro e w9 ⟨rfl, rfl⟩)
        | (go_at_call 90; refine (views_q _ _).mono ?_; rintro e w9 ⟨rfl, rfl⟩))
       go_ret
       exact ⟨by rw [HR.out]; simp [methF, h256, hv, h1024, hf, h3, h16], HK.out⟩)
    have e16 := has_ne h16
    cases hi : (s.toList == [60, 105, 110, 105, 116, 62])
    · cases hc : (s.toList == [60, 99, 108, 105, 110, 105, 116, 62])
      · have hcn : (s.toList != [60, 99, 108, 105, 110, 105, 116, 62]) = true := by unfold bne; rw [hc]; rfl
        (go_wp2_with (first
          | (go_at_call 89; refine (has_q _ _ _).mono ?_; rintro e w9 ⟨rfl, rfl⟩)
          | (go_at_call 90; refine (views_q _ _).mono ?_; rintro e w9 ⟨rfl, rfl⟩))
         go_ret
         exact ⟨by rw [HR.out]; simp [methF, h256, hv, h1024, hf, h3, h16, hi0, hi, hc0, hc], HK.out⟩)
      · have hcn : (s.toList != [60, 99, 108, 105, 110, 105, 116, 62]) = false := by unfold bne; rw [hc]; rfl
        cases h8 : hasF xa 8 <;>
        (go_wp2_with (first
          | (go_at_call 89; refine (has_q _ _ _).mono ?_; rintro e w9 ⟨rfl, rfl⟩)
          | (go_at_call 90; refine (views_q _ _).mono ?_; rintro e w9 ⟨rfl, rfl⟩))
         go_ret
         exact ⟨by rw [HR.out]; simp [methF, h256, hv, h1024, hf, h3, h16, hi0, hi, hc0, hc, h8], HK.out⟩)
    · have hcn : (s.toList != [60, 99, 108, 105, 110, 105, 116, 62]) = true := by
        have e : s.toList = [60, 105, 110, 105, 116, 62] := by simpa using hi
        rw [e]
        decide
      have hc1 : (s.toList == [60, 99, 108, 105, 110, 105, 116, 62]) = false := by
        have e : s.toList = [60, 105, 110, 105, 116, 62] := by simpa using hi
        rw [e]
        decide
      cases h8 : hasF xa 8 <;>
      (go_wp2_with (first
        | (go_at_call 89; refine (has_q _ _ _).mono ?_; rintro e w9 ⟨rfl, rfl⟩)
        | (go_at_call 90; refine (views_q _ _).mono ?_; rintro e w9 ⟨rfl, rfl⟩))
       go_ret
       exact ⟨by rw [HR.out]; simp [methF, h256, hv, h1024, hf, h3, h16, hi0, hi, h8], HK.out⟩)
  cases h26 : hasF xa 26
  rotate_left
  · have e26 := has_ne h26
    (go_wp2_with (first
      | (go_at_call 89; refine (has_q _ _ _).mono ?_; rintro e w9 ⟨rfl, rfl⟩)
      | (go_at_call 90; refine (views_q _ _).mono ?_; rintro e w9 ⟨rfl, rfl⟩))
     go_ret
     exact ⟨by rw [HR.out]; simp [methF, h256, hv, h1024, h26], HK.out⟩)
  have e26 := has_ne h26
  cases hf : hasF ac 512
  · cases hi : (s.toList == [60, 105, 110, 105, 116, 62])
    · cases hc : (s.toList == [60, 99, 108, 105, 110, 105, 116, 62])
      · have hcn : (s.toList != [60, 99, 108, 105, 110, 105, 116, 62]) = true := by unfold bne; rw [hc]; rfl
        (go_wp2_with (first
          | (go_at_call 89; refine (has_q _ _ _).mono ?_; rintro e w9 ⟨rfl, rfl⟩)
          | (go_at_call 90; refine (views_q _ _).mono ?_; rintro e w9 ⟨rfl, rfl⟩))
         go_ret
         exact ⟨by rw [HR.out]; simp [methF, h256, hv, h1024, h26, hf, hi0, hi, hc0, hc], HK.out⟩)
      · have hcn : (s.toList != [60, 99, 108, 105, 110, 105, 116, 62]) = false := by unfold bne; rw [hc]; rfl
        cases h8 : hasF xa 8 <;>
        (go_wp2_with (first
          | (go_at_call 89; refine (has_q _ _ _).mono ?_; rintro e w9 ⟨rfl, rfl⟩)
          | (go_at_call 90; refine (views_q _ _).mono ?_; rintro e w9 ⟨rfl, rfl⟩))
         go_ret
         exact ⟨by rw [HR.out]; simp [methF, h256, hv, h1024, h26, hf, hi0, hi, hc0, hc, h8], HK.out⟩)
    · have hcn : (s.toList != [60, 99, 108, 105, 110, 105, 116, 62]) = true := by
        have e : s.toList = [60, 105, 110, 105, 116, 62] := by simpa using hi
        rw [e]
        decide
      have hc1 : (s.toList == [60, 99, 108, 105, 110, 105, 116, 62]) = false := by
        have e : s.toList = [60, 105, 110, 105, 116, 62] := by simpa using hi
        rw [e]
        decide
      cases h8 : hasF xa 8 <;>
      (go_wp2_with (first
        | (go_at_call 89; refine (has_q _ _ _).mono ?_; rintro e w9 ⟨rfl, rfl⟩)
        | (go_at_call 90; refine (views_q _ _).mono ?_; rintro e w9 ⟨rfl, rfl⟩))
       go_ret
       exact ⟨by rw [HR.out]; simp [methF, h256, hv, h1024, h26, hf, hi0, hi, h8], HK.out⟩)
  cases h3 : hasF xa 3
  · have e3 := has_eq h3
    (go_wp2_with (first
      | (go_at_call 89; refine (has_q _ _ _).mono ?_; rintro e w9 ⟨rfl, rfl⟩)
      | (go_at_call 90; refine (views_q _ _).mono ?_; rintro e w9 ⟨rfl, rfl⟩))
     go_ret
     exact ⟨by rw [HR.out]; simp [methF, h256, hv, h1024, h26, hf, h3], HK.out⟩)
  have e3 := has_eq h3
  cases h16 : hasF xa 16
  rotate_left
  · have e16 := has_ne h16
    (go_wp2_with (first
      | (go_at_call 89; refine (has_q _ _ _).mono ?_; rintro e w9 ⟨rfl, rfl⟩)
      | (go_at_call 90; refine (views_q _ _).mono ?_; rintro e w9 ⟨rfl, rfl⟩))
     go_ret
     exact ⟨by rw [HR.out]; simp [methF, h256, hv, h1024, h26, hf, h3, h16], HK.out⟩)
  have e16 := has_ne h16
  cases hi : (s.toList == [60, 105, 110, 105, 116, 62])
  · cases hc : (s.toList == [60, 99, 108, 105, 110, 105, 116, 62])
    · have hcn : (s.toList != [60, 99, 108, 105, 110, 105, 116, 62]) = true := by unfold bne; rw [hc]; rfl
      (go_wp2_with (first
        | (go_at_call 89; refine (has_q _ _ _).mono ?_; rintro e w9 ⟨rfl, rfl⟩)
        | (go_at_call 90; refine (views_q _ _).mono ?_; rintro e w9 ⟨rfl, rfl⟩))
       go_ret
       exact ⟨by rw [HR.out]; simp [methF, h256, hv, h1024, h26, hf, h3, h16, hi0, hi, hc0, hc], HK.out⟩)
    · have hcn : (s.toList != [60, 99, 108, 105, 110, 105, 116, 62]) = false := by unfold bne; rw [hc]; rfl
      cases h8 : hasF xa 8 <;>
      (go_wp2_with (first
        | (go_at_call 89; refine (has_q _ _ _).mono ?_; rintro e w9 ⟨rfl, rfl⟩)
        | (go_at_call 90; refine (views_q _ _).mono ?_; rintro e w9 ⟨rfl, rfl⟩))
       go_ret
       exact ⟨by rw [HR.out]; simp [methF, h256, hv, h1024, h26, hf, h3, h16, hi0, hi, hc0, hc, h8], HK.out⟩)
  · have hcn : (s.toList != [60, 99, 108, 105, 110, 105, 116, 62]) = true := by
      have e : s.toList = [60, 105, 110, 105, 116, 62] := by simpa using hi
      rw [e]
      decide
    have hc1 : (s.toList == [60, 99, 108, 105, 110, 105, 116, 62]) = false := by
      have e : s.toList = [60, 105, 110, 105, 116, 62] := by simpa using hi
      rw [e]
      decide
    cases h8 : hasF xa 8 <;>
    (go_wp2_with (first
      | (go_at_call 89; refine (has_q _ _ _).mono ?_; rintro e w9 ⟨rfl, rfl⟩)
      | (go_at_call 90; refine (views_q _ _).mono ?_; rintro e w9 ⟨rfl, rfl⟩))
     go_ret
     exact ⟨by rw [HR.out]; simp [methF, h256, hv, h1024, h26, hf, h3, h16, hi0, hi, h8], HK.out⟩)
end Go.Proofs.Ytcklmhbcjgiplaa

namespace Go.Proofs.Ytcklmhbcjgiplaa
set_option linter.unusedVariables false
set_option linter.unusedSimpArgs false
open Go.RowKit
open Go.Maps Go.WideMaps
set_option maxRecDepth 100000

set_option maxHeartbeats 8000000 in
theorem ref5_head (pool : List ConstC) (mi ma ac th su : Int) (vP vI vF vM : Value) (ifs : List Int) (w : World) (hr : Rd w 5 vP pool.length (pool.flatMap encC)) (hi : Rd w 1 vI ifs.length (ifs.flatMap encI)) (hs : ∀ k ∈ pool, k.text.size ≤ maxLen) (hn : ifs.length ≤ 64) (hp : poolE pool pool = 0) :
    Calls Try.prog 79 #[.agg #[.int .i64 mi, .int .i64 ma, vP, .int .i64 ac, .int .i64 th, .int .i64 su, vI, vF, vM]] w (IntG (headP pool ac th su ifs) w) := by
  obtain ⟨nI, hnI⟩ : ∃ n, n = ifs.length := ⟨_, rfl⟩
  have hi0 := hi
  rw [← hnI] at hi0
  obtain ⟨_, aI, kI, rfl, -, -, -⟩ := id hi0
  have HRD := Lib.hid hr
  have HSZ := Lib.hid hs
  have HP := Lib.hid hp
  have HII := Lib.hid hi0
  have N1 := Lib.hid hnI
  have hn64 : nI ≤ 64 := by omega
  have hk : Kept w (w.alloc (.cells #[.int .i64 mi, .int .i64 ma, vP, .int .i64 ac, .int .i64 th, .int .i64 su, .slice aI nI kI, vF, vM] 27)) := (Below.refl _ _).alloc (Nat.le_refl _) _
  have HK := Lib.hid hk
  have HB := Lib.hid (Blk.new w 27 #[.int .i64 mi, .int .i64 ma, vP, .int .i64 ac, .int .i64 th, .int .i64 su, .slice aI nI kI, vF, vM])
  obtain ⟨R, hR⟩ : ∃ R, R = headP pool ac th su ifs := ⟨_, rfl⟩
  rw [← hR]
  unfold headP at hR
  obtain ⟨y1, hy1⟩ : ∃ y, y = (getC pool th 7).getD zeroK := ⟨_, rfl⟩
  obtain ⟨t, ht⟩ : ∃ y, y = (getC pool th 7).isSome := ⟨_, rfl⟩
  have Hy1 := Lib.hid hy1
  have Ht := Lib.hid ht
  obtain ⟨y2, hy2⟩ : ∃ y, y = (getC pool su 7).getD zeroK := ⟨_, rfl⟩
  obtain ⟨u, hu⟩ : ∃ y, y = (getC pool su 7).isSome := ⟨_, rfl⟩
  have Hy2 := Lib.hid hy2
  have Hu := Lib.hid hu
  obtain ⟨s, hs0⟩ : ∃ b, b = (nameC pool su).1 := ⟨_, rfl⟩
  obtain ⟨kn, hkn⟩ : ∃ b, b = (nameC pool su).2 := ⟨_, rfl⟩
  have HS0 := Lib.hid hs0
  have HKN := Lib.hid hkn
  rw [← ht, ← hu, ← hs0] at hR
  have HR := Lib.hid hR
  clear hr hi hi0 hs hn hp hk hR ht hu hs0 hkn hy1 hy2 hnI
  go_enter Try.func79, Try.ntmps79
  go_upto_region 1 with fail
  generalize (w.alloc (.cells #[.int .i64 mi, .int .i64 ma, vP, .int .i64 ac, .int .i64 th, .int .i64 su, .slice aI nI kI, vF, vM] 27)) = W at *
  have c0 := HB.out.cell 0
  have c1 := HB.out.cell 1
  have c2 := HB.out.cell 2
  have c3 := HB.out.cell 3
  have c4 := HB.out.cell 4
  have c5 := HB.out.cell 5
  have c6 := HB.out.cell 6
  have c7 := HB.out.cell 7
  have c8 := HB.out.cell 8
  simp only [List.getElem?_toArray, List.getElem?_cons_succ, List.getElem?_cons_zero] at c0 c1 c2 c3 c4 c5 c6 c7 c8
  have C := ref5_get pool mi ma ac th su vP (.slice aI nI kI) vF vM th 7 W (HRD.out.kept HK.out)
  unfold AtG at C
  rw [← Hy1.out, ← Ht.out] at C
  go_wp2_with fail
  refine C.mono ?_
  rintro e x1 ⟨he, hk1⟩
  have he : e = .returned (.tuple #[.agg #[.int .i64 y1.tag, .string y1.text, .int .i64 y1.num, .int .i64 y1.a, .int .i64 y1.b], .bool t]) := he
  subst he
  go_upto_region 2 with fail
  have hk1 := Kept.trans hk1 (show Kept x1 (x1.alloc (.cells #[.int .i64 y1.tag, .string y1.text, .int .i64 y1.num, .int .i64 y1.a, .int .i64 y1.b] 47)) from (Below.refl _ _).alloc (Nat.le_refl _) _)
  have K1 := Lib.hid (Kept.trans HK.out hk1)
  have HB1 := Lib.hid (HB.out.kept hk1)
  clear hk1 C
  generalize (x1.alloc (.cells #[.int .i64 y1.tag, .string y1.text, .int .i64 y1.num, .int .i64 y1.a, .int .i64 y1.b] 47)) = w1 at *
  have c0 := HB1.out.cell 0
  have c1 := HB1.out.cell 1
  have c2 := HB1.out.cell 2
  have c3 := HB1.out.cell 3
  have c4 := HB1.out.cell 4
  have c5 := HB1.out.cell 5
  have c6 := HB1.out.cell 6
  have c7 := HB1.out.cell 7
  have c8 := HB1.out.cell 8
  simp only [List.getElem?_toArray, List.getElem?_cons_succ, List.getElem?_cons_zero] at c0 c1 c2 c3 c4 c5 c6 c7 c8
  have C := ref5_get pool mi ma ac th su vP (.slice aI nI kI) vF vM su 7 w1 (HRD.out.kept K1.out)
  unfold AtG at C
  rw [← Hy2.out, ← Hu.out] at C
  go_wp2_with fail
  refine C.mono ?_
  rintro e x2 ⟨he, hk2⟩
  have he : e = .returned (.tuple #[.agg #[.int .i64 y2.tag, .string y2.text, .int .i64 y2.num, .int .i64 y2.a, .int .i64 y2.b], .bool u]) := he
  subst he
  go_upto_region 3 with fail
  have hk2 := Kept.trans hk2 (show Kept x2 (x2.alloc (.cells #[.int .i64 y2.tag, .string y2.text, .int .i64 y2.num, .int .i64 y2.a, .int .i64 y2.b] 47)) from (Below.refl _ _).alloc (Nat.le_refl _) _)
  have K2 := Lib.hid (Kept.trans K1.out hk2)
  have HB2 := Lib.hid (HB1.out.kept hk2)
  clear hk2 C
  generalize (x2.alloc (.cells #[.int .i64 y2.tag, .string y2.text, .int .i64 y2.num, .int .i64 y2.a, .int .i64 y2.b] 47)) = w2 at *
  have c0 := HB2.out.cell 0
  have c1 := HB2.out.cell 1
  have c2 := HB2.out.cell 2
  have c3 := HB2.out.cell 3
  have c4 := HB2.out.cell 4
  have c5 := HB2.out.cell 5
  have c6 := HB2.out.cell 6
  have c7 := HB2.out.cell 7
  have c8 := HB2.out.cell 8
  simp only [List.getElem?_toArray, List.getElem?_cons_succ, List.getElem?_cons_zero] at c0 c1 c2 c3 c4 c5 c6 c7 c8
  cases t
  · go_wp2_with fail
    go_ret
    exact ⟨by rw [HR.out]; rfl, K2.out⟩
  cases u
  · go_wp2_with fail
    go_ret
    exact ⟨by rw [HR.out]; rfl, K2.out⟩
  have HR2 := Lib.hid (show R = if headF ac s = true then 23 else facesE pool [] ifs from HR.out)
  clear HR
  have C := ref5_Name pool mi ma ac th su vP (.slice aI nI kI) vF vM su w2 (HRD.out.kept K2.out)
  unfold TextG at C
  rw [← HS0.out, ← HKN.out] at C
  go_wp2_with fail
  refine C.mono ?_
  rintro e w3 ⟨rfl, hk3⟩
  have K3 := Lib.hid (Kept.trans K2.out hk3)
  have HB3 := Lib.hid (HB2.out.kept hk3)
  clear hk3 C HB HB1 HB2 K1 K2
  have d0 := HB3.out.cell 0
  have d1 := HB3.out.cell 1
  have d2 := HB3.out.cell 2
  have d3 := HB3.out.cell 3
  have d4 := HB3.out.cell 4
  have d5 := HB3.out.cell 5
  have d6 := HB3.out.cell 6
  have d7 := HB3.out.cell 7
  have d8 := HB3.out.cell 8
  simp only [List.getElem?_toArray, List.getElem?_cons_succ, List.getElem?_cons_zero] at d0 d1 d2 d3 d4 d5 d6 d7 d8
  have hobj : objS.toList = [106, 97, 118, 97, 47, 108, 97, 110, 103, 47, 79, 98, 106, 101, 99, 116] := by rw [ByteArray.toList_eq]; rfl
  obtain ⟨so, hso⟩ : ∃ b, (s.toList == [106, 97, 118, 97, 47, 108, 97, 110, 103, 47, 79, 98, 106, 101, 99, 116]) = b := ⟨_, rfl⟩
  have hsn : (s.toList != [106, 97, 118, 97, 47, 108, 97, 110, 103, 47, 79, 98, 106, 101, 99, 116]) = !so := by rw [← hso]; rfl
  have HF := Lib.hid (show headF ac s = (hasF ac 512 && (!hasF ac 1024 || hasF ac 16) || hasF ac 16 && hasF ac 1024 || hasF ac 512 && !so) by unfold headF; rw [hobj, hso])
  clear hobj
  go_upto_region 9 with (go_at_call 89; refine (has_q _ _ _).mono ?_; rintro e w9 ⟨rfl, rfl⟩)
  obtain ⟨b, hb⟩ : ∃ b, b = headF ac s := ⟨_, rfl⟩
  rw [← hb] at HR2 HF
  clear hb
  go_cut [9, 10, 11, 49, 52, 55, 76] from 56 to 76 (fun _ _ _ _ _ _ sl wx => sl = .bool b ∧ w3 = wx)
  case first =>
    cases h512 : hasF ac 512 <;> cases h1024 : hasF ac 1024 <;> cases h16 : hasF ac 16 <;> cases so <;>
    (have HB9 := HF.out
     rw [h512, h1024, h16] at HB9
     have HBX := Lib.hid HB9
     clear HB9 HF
     go_wp2_with fail
     go_meet
     exact ⟨by rw [HBX.out]; rfl, rfl⟩)
  case rest =>
  obtain ⟨rfl, rfl⟩ := hcut
  cases b
  rotate_left
  · have HR3 := Lib.hid (show R = 23 from HR2.out)
    go_wp2_with fail
    go_ret
    exact ⟨by rw [HR3.out]; rfl, K3.out⟩
  have HR3 := Lib.hid (show R = facesE pool [] ifs from HR2.out)
  clear HR2 hso hsn HF
  go_wp2_with fail
  go_loopw [12] (fun sl wr => ∃ k : Nat, k ≤ nI ∧ sl = .int .i64 k ∧ Kept w wr ∧ Blk wr w.heap.size 27 #[.int .i64 mi, .int .i64 ma, vP, .int .i64 ac, .int .i64 th, .int .i64 su, .slice aI nI kI, vF, vM] ∧ R = facesE pool ((ifs.take k).map fun n => (nameC pool n).1) (ifs.drop k)) (fun sl _ => nI - (intOf sl).toNat)
  case atStart => exact ⟨0, by omega, rfl, K3.out, HB3.out, HR3.out⟩
  case round =>
    obtain ⟨k, hk, rfl, hkw, hb, hre⟩ := hrel
    have KW := Lib.hid hkw
    have HBW := Lib.hid hb
    have HRE := Lib.hid hre
    clear hkw hb hre HR3 K3 HB3
    by_cases hlt : k < nI
    rotate_left
    · obtain rfl : k = nI := by omega
      have HR4 := Lib.hid (show R = 0 by rw [HRE.out, List.drop_of_length_le (by have := N1.out; omega)]; rfl)
      have f0 := HBW.out.cell 0
      have f1 := HBW.out.cell 1
      have f2 := HBW.out.cell 2
      have f3 := HBW.out.cell 3
      have f4 := HBW.out.cell 4
      have f5 := HBW.out.cell 5
      have f6 := HBW.out.cell 6
      have f7 := HBW.out.cell 7
      have f8 := HBW.out.cell 8
      simp only [List.getElem?_toArray, List.getElem?_cons_succ, List.getElem?_cons_zero] at f0 f1 f2 f3 f4 f5 f6 f7 f8
      go_wp2_with fail
      go_ret
      exact ⟨by rw [HR4.out]; rfl, KW.out⟩
    obtain ⟨x, hx⟩ : ∃ x, ifs[k]? = some x := ⟨_, List.getElem?_eq_getElem (by have := N1.out; omega)⟩
    obtain ⟨b1, o1, d1, hv1, e0⟩ := iface_cells N1.out (HII.out.kept KW.out) hx
    simp only [Value.slice.injEq] at hv1
    obtain ⟨rfl, -, rfl⟩ := hv1
    have hkI : (k : Int) < (nI : Int) := by omega
    have h0I : (0 : Int) ≤ (k : Int) := by omega
    have HX := Lib.hid hx
    clear hx
    have f0 := HBW.out.cell 0
    have f1 := HBW.out.cell 1
    have f2 := HBW.out.cell 2
    have f3 := HBW.out.cell 3
    have f4 := HBW.out.cell 4
    have f5 := HBW.out.cell 5
    have f6 := HBW.out.cell 6
    have f7 := HBW.out.cell 7
    have f8 := HBW.out.cell 8
    simp only [List.getElem?_toArray, List.getElem?_cons_succ, List.getElem?_cons_zero] at f0 f1 f2 f3 f4 f5 f6 f7 f8
    obtain ⟨y, hy⟩ : ∃ y, y = (getC pool x 7).getD zeroK := ⟨_, rfl⟩
    obtain ⟨ok, hok⟩ : ∃ y, y = (getC pool x 7).isSome := ⟨_, rfl⟩
    have Hy := Lib.hid hy
    have Hok := Lib.hid hok
    clear hy hok
    have hq1 := HBW.out.lt
    have hq2 : b1 < wr.heap.size := World.block_lt_of_cell? wr ⟨b1, o1 + k, none⟩ e0
    have hn1 : ¬ w.heap.size = wr.heap.size := by omega
    have hn2 : ¬ wr.heap.size = w.heap.size := by omega
    have hn3 : ¬ b1 = wr.heap.size := by omega
    have hn4 : ¬ wr.heap.size = b1 := by omega
    clear hq1 hq2
    go_upto_region 14 with fail
    go_region_held2 (fun w' => w'.cell? ⟨w.heap.size, 0, none⟩ = some (.int .i64 mi) ∧ w'.cell? ⟨w.heap.size, 1, none⟩ = some (.int .i64 ma) ∧ w'.cell? ⟨w.heap.size, 2, none⟩ = some (vP) ∧ w'.cell? ⟨w.heap.size, 3, none⟩ = some (.int .i64 ac) ∧ w'.cell? ⟨w.heap.size, 4, none⟩ = some (.int .i64 th) ∧ w'.cell? ⟨w.heap.size, 5, none⟩ = some (.int .i64 su) ∧ w'.cell? ⟨w.heap.size, 6, none⟩ = some (.slice (some ⟨b1, o1, none⟩) nI kI) ∧ w'.cell? ⟨w.heap.size, 7, none⟩ = some (vF) ∧ w'.cell? ⟨w.heap.size, 8, none⟩ = some (vM) ∧ w'.cell? ⟨b1, o1 + k, none⟩ = some (.int .i64 x)) (go_keep) (first
      | (go_at_call 40
         have kk : Kept wr wr.drew := kept_drewN (Below.refl _ wr) 1
         refine (ref5_get pool mi ma ac th su vP (.slice (some ⟨b1, o1, none⟩) nI kI) vF vM x 7 wr.drew (HRD.out.kept (Kept.trans KW.out kk))).mono ?_
         rintro e w9 ⟨he, hk9⟩
         rw [← Hy.out, ← Hok.out] at he
         have he : e = .returned (.tuple #[.agg #[.int .i64 y.tag, .string y.text, .int .i64 y.num, .int .i64 y.a, .int .i64 y.b], .bool ok]) := he
         subst he
         have kq := Kept.trans kk hk9
         have K9 := Lib.hid kq
         have HB9 := Lib.hid (HBW.out.kept kq)
         have e0 := Kept.cell kq e0
         have f0 := HB9.out.cell 0
         have f1 := HB9.out.cell 1
         have f2 := HB9.out.cell 2
         have f3 := HB9.out.cell 3
         have f4 := HB9.out.cell 4
         have f5 := HB9.out.cell 5
         have f6 := HB9.out.cell 6
         have f7 := HB9.out.cell 7
         have f8 := HB9.out.cell 8
         simp only [List.getElem?_toArray, List.getElem?_cons_succ, List.getElem?_cons_zero] at f0 f1 f2 f3 f4 f5 f6 f7 f8
         clear hk9 kk kq)
      | (go_at_call 40
         have kk : Kept wr (wr.drew.alloc (.cells #[.int .i64 0, .string ⟨#[]⟩, .int .i64 0, .int .i64 0, .int .i64 0] 47)) := Below.alloc (kept_drewN (Below.refl _ wr) 1) (Nat.le_refl _) _
         refine (ref5_get pool mi ma ac th su vP (.slice (some ⟨b1, o1, none⟩) nI kI) vF vM x 7 (wr.drew.alloc (.cells #[.int .i64 0, .string ⟨#[]⟩, .int .i64 0, .int .i64 0, .int .i64 0] 47)) (HRD.out.kept (Kept.trans KW.out kk))).mono ?_
         rintro e w9 ⟨he, hk9⟩
         rw [← Hy.out, ← Hok.out] at he
         have he : e = .returned (.tuple #[.agg #[.int .i64 y.tag, .string y.text, .int .i64 y.num, .int .i64 y.a, .int .i64 y.b], .bool ok]) := he
         subst he
         have kq := Kept.trans kk hk9
         have K9 := Lib.hid kq
         have HB9 := Lib.hid (HBW.out.kept kq)
         have e0 := Kept.cell kq e0
         have f0 := HB9.out.cell 0
         have f1 := HB9.out.cell 1
         have f2 := HB9.out.cell 2
         have f3 := HB9.out.cell 3
         have f4 := HB9.out.cell 4
         have f5 := HB9.out.cell 5
         have f6 := HB9.out.cell 6
         have f7 := HB9.out.cell 7
         have f8 := HB9.out.cell 8
         simp only [List.getElem?_toArray, List.getElem?_cons_succ, List.getElem?_cons_zero] at f0 f1 f2 f3 f4 f5 f6 f7 f8
         have HZ9 : Blk w9 wr.heap.size 47 #[.int .i64 0, .string ⟨#[]⟩, .int .i64 0, .int .i64 0, .int .i64 0] := (Blk.new wr.drew 47 #[.int .i64 0, .string ⟨#[]⟩, .int .i64 0, .int .i64 0, .int .i64 0]).kept hk9
         have z0 := HZ9.cell 0
         have z1 := HZ9.cell 1
         have z2 := HZ9.cell 2
         have z3 := HZ9.cell 3
         have z4 := HZ9.cell 4
         simp only [List.getElem?_toArray, List.getElem?_cons_succ, List.getElem?_cons_zero] at z0 z1 z2 z3 z4
         have zf0 := HZ9.frozen 0
         have zf1 := HZ9.frozen 1
         have zf2 := HZ9.frozen 2
         have zf3 := HZ9.frozen 3
         have zf4 := HZ9.frozen 4
         clear hk9 kk kq)
    )
    case' _ => have hkx : Kept wr (w9.alloc (.cells #[.int .i64 y.tag, .string y.text, .int .i64 y.num, .int .i64 y.a, .int .i64 y.b] 47)) := Kept.trans K9.out ((Below.refl _ _).alloc (Nat.le_refl _) _)
    case' _ => generalize (w9.alloc (.cells #[.int .i64 y.tag, .string y.text, .int .i64 y.num, .int .i64 y.a, .int .i64 y.b] 47)) = wx at *
    rotate_left
    case' _ => have hkx : Kept wr (((((w9.setCell ⟨wr.heap.size, 0, none⟩ (.int .i64 y.tag)).setCell ⟨wr.heap.size, 1, none⟩ (.string y.text)).setCell ⟨wr.heap.size, 2, none⟩ (.int .i64 y.num)).setCell ⟨wr.heap.size, 3, none⟩ (.int .i64 y.a)).setCell ⟨wr.heap.size, 4, none⟩ (.int .i64 y.b)) := (((((K9.out.setCell (p := ⟨wr.heap.size, 0, none⟩) (Nat.le_refl _) _).setCell (p := ⟨wr.heap.size, 1, none⟩) (Nat.le_refl _) _).setCell (p := ⟨wr.heap.size, 2, none⟩) (Nat.le_refl _) _).setCell (p := ⟨wr.heap.size, 3, none⟩) (Nat.le_refl _) _).setCell (p := ⟨wr.heap.size, 4, none⟩) (Nat.le_refl _) _)
    case' _ => generalize (((((w9.setCell ⟨wr.heap.size, 0, none⟩ (.int .i64 y.tag)).setCell ⟨wr.heap.size, 1, none⟩ (.string y.text)).setCell ⟨wr.heap.size, 2, none⟩ (.int .i64 y.num)).setCell ⟨wr.heap.size, 3, none⟩ (.int .i64 y.a)).setCell ⟨wr.heap.size, 4, none⟩ (.int .i64 y.b)) = wx at *
    all_goals
      (have KX := Lib.hid (Kept.trans KW.out hkx)
       have HBX := Lib.hid (HBW.out.kept hkx)
       clear hkx HB9
       clear hn1 hn2 hn3 hn4
       obtain ⟨names, hnm⟩ : ∃ l, l = (ifs.take k).map (fun n => (nameC pool n).1) := ⟨_, rfl⟩
       have hdc : ifs.drop k = x :: ifs.drop (k + 1) := by
         have hlt' : k < ifs.length := by have := N1.out; omega
         rw [List.drop_eq_getElem_cons hlt']
         congr 1
         exact (List.getElem?_eq_some_iff.1 HX.out).2
       have hre := HRE.out
       rw [← hnm, hdc, facesE_cons] at hre
       have hsx := Hok.out
       obtain ⟨s1, hs1⟩ : ∃ s, s = (nameC pool x).1 := ⟨_, rfl⟩
       obtain ⟨o2, ho2⟩ : ∃ s, s = (nameC pool x).2 := ⟨_, rfl⟩
       have HNM := Lib.hid (show names ++ [s1] = (ifs.take (k + 1)).map (fun n => (nameC pool n).1) by rw [hnm, hs1, List.take_add_one, HX.out]; simp)
       rw [← hs1, ← ho2] at hre
       have HRX := Lib.hid hre
       have HOX := Lib.hid (show ok = o2 by
         rw [hsx, ho2]
         cases h7 : (getC pool x 7).isSome with
         | true => exact (name_there HP.out h7).symm
         | false => unfold nameC; rw [if_neg (by rw [h7]; decide)])
       have HS1 := Lib.hid hs1
       have HO2 := Lib.hid ho2
       have HNA := Lib.hid hnm
       clear hre hsx hs1 ho2 hnm hdc
       cases ok
       · have HR4 := Lib.hid (show R = 20 by rw [HRX.out, ← HOX.out, if_pos rfl])
         go_wp2_with fail
         go_ret
         exact ⟨by rw [HR4.out]; rfl, KX.out⟩
       have HR5 := Lib.hid (show R = if names.contains s1 = true then 24 else facesE pool (names ++ [s1]) (ifs.drop (k + 1)) by rw [HRX.out, ← HOX.out, if_neg (by decide)])
       have m0 := HBX.out.cell 0
       have m1 := HBX.out.cell 1
       have m2 := HBX.out.cell 2
       have m3 := HBX.out.cell 3
       have m4 := HBX.out.cell 4
       have m5 := HBX.out.cell 5
       have m6 := HBX.out.cell 6
       have m7 := HBX.out.cell 7
       have m8 := HBX.out.cell 8
       simp only [List.getElem?_toArray, List.getElem?_cons_succ, List.getElem?_cons_zero] at m0 m1 m2 m3 m4 m5 m6 m7 m8
       obtain ⟨b2, o2', d2, hv2, g0⟩ := iface_cells N1.out (HII.out.kept KX.out) HX.out
       simp only [Value.slice.injEq, Option.some.injEq, Addr.mk.injEq] at hv2
       obtain ⟨⟨rfl, rfl, -⟩, -, -⟩ := hv2
       go_upto_region 17 with fail
       go_region_held2 (fun w' => w'.cell? ⟨w.heap.size, 0, none⟩ = some (.int .i64 mi) ∧ w'.cell? ⟨w.heap.size, 1, none⟩ = some (.int .i64 ma) ∧ w'.cell? ⟨w.heap.size, 2, none⟩ = some (vP) ∧ w'.cell? ⟨w.heap.size, 3, none⟩ = some (.int .i64 ac) ∧ w'.cell? ⟨w.heap.size, 4, none⟩ = some (.int .i64 th) ∧ w'.cell? ⟨w.heap.size, 5, none⟩ = some (.int .i64 su) ∧ w'.cell? ⟨w.heap.size, 6, none⟩ = some (.slice (some ⟨b1, o1, none⟩) nI kI) ∧ w'.cell? ⟨w.heap.size, 7, none⟩ = some (vF) ∧ w'.cell? ⟨w.heap.size, 8, none⟩ = some (vM) ∧ w'.cell? ⟨b1, o1 + k, none⟩ = some (.int .i64 x)) (go_keep) (first
         | (go_at_call 27
            have kk : Kept wx wx.drew := kept_drewN (Below.refl _ wx) 1
            refine (ref5_Name pool mi ma ac th su vP (.slice (some ⟨b1, o1, none⟩) nI kI) vF vM x wx.drew (HRD.out.kept (Kept.trans KX.out kk))).mono ?_
            rintro e w10 ⟨he, hk10⟩
            rw [← HS1.out, ← HO2.out] at he
            subst he
            have kq := Kept.trans kk hk10
            have K10 := Lib.hid (Kept.trans KX.out kq)
            have HB10 := Lib.hid (HBX.out.kept kq)
            have g0 := Kept.cell kq g0
            have p0 := HB10.out.cell 0
            have p1 := HB10.out.cell 1
            have p2 := HB10.out.cell 2
            have p3 := HB10.out.cell 3
            have p4 := HB10.out.cell 4
            have p5 := HB10.out.cell 5
            have p6 := HB10.out.cell 6
            have p7 := HB10.out.cell 7
            have p8 := HB10.out.cell 8
            simp only [List.getElem?_toArray, List.getElem?_cons_succ, List.getElem?_cons_zero] at p0 p1 p2 p3 p4 p5 p6 p7 p8
            clear hk10 kk kq))
       go_wp2_with fail
       go_loopw [17] (fun sl wr => ∃ j : Nat, j ≤ k ∧ sl = .int .i64 j ∧ Kept w wr ∧ Blk wr w.heap.size 27 #[.int .i64 mi, .int .i64 ma, vP, .int .i64 ac, .int .i64 th, .int .i64 su, .slice (some ⟨b1, o1, none⟩) nI kI, vF, vM] ∧ (names.take j).contains s1 = false) (fun sl _ => k - (intOf sl).toNat)
       case atStart => exact ⟨0, by omega, rfl, K10.out, HB10.out, by simp⟩
       case round =>
         obtain ⟨j, hj, rfl, hkj, hbj, hno⟩ := hrel
         have KJ := Lib.hid hkj
         have HBJ := Lib.hid hbj
         have HNO := Lib.hid hno
         clear hkj hbj hno
         by_cases hjk : j < k
         rotate_left
         · obtain rfl : j = k := by omega
           have HR6 := Lib.hid (show R = facesE pool (names ++ [s1]) (ifs.drop (j + 1)) by
             have h := HNO.out
             rw [List.take_of_length_le (by rw [HNA.out, List.length_map, List.length_take]; omega)] at h
             rw [HR5.out, h]
             rfl)
           go_wp2_with fail
           go_roundw
           case rel => exact ⟨j + 1, by omega, by go_num, KJ.out, HBJ.out, by rw [HR6.out, HNM.out]⟩
           case measure => simp [intOf]; omega
         obtain ⟨xj, hxj⟩ : ∃ x, ifs[j]? = some x := ⟨_, List.getElem?_eq_getElem (by have := N1.out; omega)⟩
         obtain ⟨b3, o3, d3, hv3, j0⟩ := iface_cells N1.out (HII.out.kept KJ.out) hxj
         simp only [Value.slice.injEq, Option.some.injEq, Addr.mk.injEq] at hv3
         obtain ⟨⟨rfl, rfl, -⟩, -, -⟩ := hv3
         have hjI : (j : Int) < (nI : Int) := by omega
         have hjkI : (j : Int) < (k : Int) := by omega
         have hj0 : (0 : Int) ≤ (j : Int) := by omega
         obtain ⟨s2, hs2⟩ : ∃ s, s = (nameC pool xj).1 := ⟨_, rfl⟩
         obtain ⟨o3', ho3⟩ : ∃ s, s = (nameC pool xj).2 := ⟨_, rfl⟩
         have HS2 := Lib.hid hs2
         have HO3 := Lib.hid ho3
         have HNJ := Lib.hid (show names[j]? = some s2 by rw [HNA.out, List.getElem?_map, List.getElem?_take_of_lt hjk, hxj, hs2]; rfl)
         clear hs2 ho3 hxj
         have q0 := HBJ.out.cell 0
         have q1 := HBJ.out.cell 1
         have q2 := HBJ.out.cell 2
         have q3 := HBJ.out.cell 3
         have q4 := HBJ.out.cell 4
         have q5 := HBJ.out.cell 5
         have q6 := HBJ.out.cell 6
         have q7 := HBJ.out.cell 7
         have q8 := HBJ.out.cell 8
         simp only [List.getElem?_toArray, List.getElem?_cons_succ, List.getElem?_cons_zero] at q0 q1 q2 q3 q4 q5 q6 q7 q8
         go_upto_region 21 with fail
         go_region_held2 (fun w' => w'.cell? ⟨w.heap.size, 0, none⟩ = some (.int .i64 mi) ∧ w'.cell? ⟨w.heap.size, 1, none⟩ = some (.int .i64 ma) ∧ w'.cell? ⟨w.heap.size, 2, none⟩ = some (vP) ∧ w'.cell? ⟨w.heap.size, 3, none⟩ = some (.int .i64 ac) ∧ w'.cell? ⟨w.heap.size, 4, none⟩ = some (.int .i64 th) ∧ w'.cell? ⟨w.heap.size, 5, none⟩ = some (.int .i64 su) ∧ w'.cell? ⟨w.heap.size, 6, none⟩ = some (.slice (some ⟨b1, o1, none⟩) nI kI) ∧ w'.cell? ⟨w.heap.size, 7, none⟩ = some (vF) ∧ w'.cell? ⟨w.heap.size, 8, none⟩ = some (vM) ∧ w'.cell? ⟨b1, o1 + j, none⟩ = some (.int .i64 xj)) (go_keep) (first
           | (go_at_call 27
              have kk : Kept wr wr.drew := kept_drewN (Below.refl _ wr) 1
              refine (ref5_Name pool mi ma ac th su vP (.slice (some ⟨b1, o1, none⟩) nI kI) vF vM xj wr.drew (HRD.out.kept (Kept.trans KJ.out kk))).mono ?_
              rintro e w11 ⟨he, hk11⟩
              rw [← HS2.out, ← HO3.out] at he
              subst he
              have kq := Kept.trans kk hk11
              have K11 := Lib.hid (Kept.trans KJ.out kq)
              have HB11 := Lib.hid (HBJ.out.kept kq)
              have j0 := Kept.cell kq j0
              have q0 := HB11.out.cell 0
              have q1 := HB11.out.cell 1
              have q2 := HB11.out.cell 2
              have q3 := HB11.out.cell 3
              have q4 := HB11.out.cell 4
              have q5 := HB11.out.cell 5
              have q6 := HB11.out.cell 6
              have q7 := HB11.out.cell 7
              have q8 := HB11.out.cell 8
              simp only [List.getElem?_toArray, List.getElem?_cons_succ, List.getElem?_cons_zero] at q0 q1 q2 q3 q4 q5 q6 q7 q8
              clear hk11 kk kq))
         by_cases heq : s2 = s1
         · have hq : (s2.toList == s1.toList) = true := by rw [heq]; simp
           have HR6 := Lib.hid (show R = 24 by
             rw [HR5.out, if_pos]
             rw [List.contains_iff_mem, ← heq]
             exact List.mem_of_getElem? HNJ.out)
           clear heq
           go_wp2_with fail
           go_ret
           exact ⟨by rw [HR6.out]; rfl, K11.out⟩
         · have hq : (s2.toList == s1.toList) = false := by
             rw [beq_eq_false_iff_ne]
             intro e
             rw [ByteArray.toList_eq, ByteArray.toList_eq] at e
             exact heq (ByteArray.ext (Array.toList_inj.1 e))
           have HN2 := Lib.hid (show (names.take (j + 1)).contains s1 = false by
             have h := HNO.out
             rw [List.take_add_one, HNJ.out]
             simp only [List.contains_eq_mem, List.mem_append, Option.toList, List.mem_singleton] at h ⊢
             simp only [decide_eq_false_iff_not] at h ⊢
             rintro (h' | h')
             · exact h h'
             · exact heq h'.symm)
           clear heq
           go_wp2_with fail
           go_roundw
           case rel => exact ⟨j + 1, by omega, by go_num, K11.out, HB11.out, HN2.out⟩
           case measure => simp [intOf]; omega)
end Go.Proofs.Ytcklmhbcjgiplaa

namespace Go.Proofs.Ytcklmhbcjgiplaa
set_option linter.unusedVariables false
set_option linter.unusedSimpArgs false
open Go.RowKit
open Go.Maps Go.WideMaps
set_option maxRecDepth 100000

set_option maxHeartbeats 8000000 in
theorem ref5_field (pool : List ConstC) (mi ma ac th su : Int) (vP vI vF vM : Value) (fs : List FieldC) (i : Nat) (f : FieldC) (w : World) (hr : Rd w 5 vP pool.length (pool.flatMap encC)) (hf : Rd w 4 vF fs.length (fs.flatMap encF)) (hs : ∀ k ∈ pool, k.text.size ≤ maxLen) (hi : fs[i]? = some f) :
    Calls Try.prog 80 #[.agg #[.int .i64 mi, .int .i64 ma, vP, .int .i64 ac, .int .i64 th, .int .i64 su, vI, vF, vM], .int .i64 i] w (IntG (fieldE pool ac ((fs.take i).map (fun g => keyC pool g.name g.desc)) f) w) := by
  obtain ⟨nF, hnf⟩ : ∃ n, n = fs.length := ⟨_, rfl⟩
  have hf0 := hf
  rw [← hnf] at hf0
  have N1 := Lib.hid hnf
  obtain ⟨xa, xn, xd, xv⟩ := f
  obtain ⟨b1, o1, kF, rfl, e0, e1, e2, e3⟩ := field_cells N1.out hf0 hi
  dsimp only at *
  have HRD := Lib.hid hr
  have HSZ := Lib.hid hs
  have HI := Lib.hid hi
  have HFD := Lib.hid hf0
  have hlt : i < nF := by have := (List.getElem?_eq_some_iff.1 hi).1; omega
  have hiI : (i : Int) < (nF : Int) := by omega
  have h0I : (0 : Int) ≤ (i : Int) := by omega
  have hnb : nF ≤ 9223372036854775807 := by obtain ⟨_, _, _, e, q1, q2, _⟩ := hf0; cases e; omega
  have hk : Kept w (w.alloc (.cells #[.int .i64 mi, .int .i64 ma, vP, .int .i64 ac, .int .i64 th, .int .i64 su, vI, (.slice (some ⟨b1, o1, none⟩) nF kF), vM] 27)) := (Below.refl _ _).alloc (Nat.le_refl _) _
  have HK := Lib.hid hk
  have HB := Lib.hid (Blk.new w 27 #[.int .i64 mi, .int .i64 ma, vP, .int .i64 ac, .int .i64 th, .int .i64 su, vI, (.slice (some ⟨b1, o1, none⟩) nF kF), vM])
  have e0 := Kept.cell hk e0
  have e1 := Kept.cell hk e1
  have e2 := Kept.cell hk e2
  have e3 := Kept.cell hk e3
  obtain ⟨R, hR⟩ : ∃ R, R = fieldE pool ac ((fs.take i).map (fun g => keyC pool g.name g.desc)) ⟨xa, xn, xd, xv⟩ := ⟨_, rfl⟩
  rw [← hR]
  have zs := textC_size hs xn
  have zd := textC_size hs xd
  obtain ⟨keys, hkeys⟩ : ∃ l, l = (fs.take i).map (fun g => keyC pool g.name g.desc) := ⟨_, rfl⟩
  rw [← hkeys] at hR
  have HKS := Lib.hid hkeys
  obtain ⟨s, hsv⟩ : ∃ s, s = (textC pool xn).1 := ⟨_, rfl⟩
  obtain ⟨b1', hb1⟩ : ∃ s, s = (textC pool xn).2 := ⟨_, rfl⟩
  obtain ⟨d, hdv⟩ : ∃ s, s = (textC pool xd).1 := ⟨_, rfl⟩
  obtain ⟨b2', hb2⟩ : ∃ s, s = (textC pool xd).2 := ⟨_, rfl⟩
  rw [← hsv] at zs
  rw [← hdv] at zd
  have hR2 : R = (if (b1' && b2') = false then 20 else if memS s = false then 21 else if fldS d = false then 22 else if (decide (1 < viewsI xa) || hasF ac 512 && !allF xa 25) = true then 23 else if keys.contains (s, d) = true then 24 else if (xv != 0 && (!hasF xa 8 || !isS d [73] || !(getC pool xv 3).isSome)) = true then 26 else 0) := by
    rw [hR, hsv, hb1, hdv, hb2]
    rfl
  have HR := Lib.hid hR2
  have HZS := Lib.hid zs
  have HZD := Lib.hid zd
  have C1 := fun (W : World) (h : Kept w W) => ref5_Utf pool mi ma ac th su vP vI (.slice (some ⟨b1, o1, none⟩) nF kF) vM xn W (hr.kept h)
  unfold TextG at C1
  rw [← hsv, ← hb1] at C1
  have C2 := fun (W : World) (h : Kept w W) => ref5_Utf pool mi ma ac th su vP vI (.slice (some ⟨b1, o1, none⟩) nF kF) vM xd W (hr.kept h)
  unfold TextG at C2
  rw [← hdv, ← hb2] at C2
  have HC1 := Lib.hid C1
  have HC2 := Lib.hid C2
  clear hR hR2 hk hr hf hf0 hs hi hsv hb1 hdv hb2 C1 C2 zs zd hkeys hnf
  go_enter Try.func80, Try.ntmps80
  go_upto_region 1 with fail
  generalize (w.alloc (.cells #[.int .i64 mi, .int .i64 ma, vP, .int .i64 ac, .int .i64 th, .int .i64 su, vI, (.slice (some ⟨b1, o1, none⟩) nF kF), vM] 27)) = W at *
  have c0 := HB.out.cell 0
  have c1 := HB.out.cell 1
  have c2 := HB.out.cell 2
  have c3 := HB.out.cell 3
  have c4 := HB.out.cell 4
  have c5 := HB.out.cell 5
  have c6 := HB.out.cell 6
  have c7 := HB.out.cell 7
  have c8 := HB.out.cell 8
  simp only [List.getElem?_toArray, List.getElem?_cons_succ, List.getElem?_cons_zero] at c0 c1 c2 c3 c4 c5 c6 c7 c8
  go_upto_region 2 with fail
  obtain ⟨gf, hgf⟩ : ∃ g, g = W.heap.size := ⟨_, rfl⟩
  have hk1 : Kept W (W.alloc (.cells #[.int .i64 xa, .int .i64 xn, .int .i64 xd, .int .i64 xv] 55)) := (Below.refl _ _).alloc (Nat.le_refl _) _
  have K1 := Lib.hid (Kept.trans HK.out hk1)
  have HB1 := Lib.hid (HB.out.kept hk1)
  have HX1 := Lib.hid (Blk.new W 55 #[.int .i64 xa, .int .i64 xn, .int .i64 xd, .int .i64 xv])
  rw [← hgf] at HX1 ⊢
  clear hk1 e0 e1 e2 e3
  generalize (W.alloc (.cells #[.int .i64 xa, .int .i64 xn, .int .i64 xd, .int .i64 xv] 55)) = w1 at *
  clear hgf
  have c0 := HB1.out.cell 0
  have c1 := HB1.out.cell 1
  have c2 := HB1.out.cell 2
  have c3 := HB1.out.cell 3
  have c4 := HB1.out.cell 4
  have c5 := HB1.out.cell 5
  have c6 := HB1.out.cell 6
  have c7 := HB1.out.cell 7
  have c8 := HB1.out.cell 8
  simp only [List.getElem?_toArray, List.getElem?_cons_succ, List.getElem?_cons_zero] at c0 c1 c2 c3 c4 c5 c6 c7 c8
  have x0 := HX1.out.cell 0
  have x1 := HX1.out.cell 1
  have x2 := HX1.out.cell 2
  have x3 := HX1.out.cell 3
  simp only [List.getElem?_toArray, List.getElem?_cons_succ, List.getElem?_cons_zero] at x0 x1 x2 x3
  have C := HC1.out w1 K1.out
  go_wp2_with fail
  refine C.mono ?_
  rintro e w2 ⟨rfl, hk2⟩
  have K2 := Lib.hid (Kept.trans K1.out hk2)
  have HB2 := Lib.hid (HB1.out.kept hk2)
  have HX2 := Lib.hid (HX1.out.kept hk2)
  clear hk2 C
  have c0 := HB2.out.cell 0
  have c1 := HB2.out.cell 1
  have c2 := HB2.out.cell 2
  have c3 := HB2.out.cell 3
  have c4 := HB2.out.cell 4
  have c5 := HB2.out.cell 5
  have c6 := HB2.out.cell 6
  have c7 := HB2.out.cell 7
  have c8 := HB2.out.cell 8
  simp only [List.getElem?_toArray, List.getElem?_cons_succ, List.getElem?_cons_zero] at c0 c1 c2 c3 c4 c5 c6 c7 c8
  have x0 := HX2.out.cell 0
  have x1 := HX2.out.cell 1
  have x2 := HX2.out.cell 2
  have x3 := HX2.out.cell 3
  simp only [List.getElem?_toArray, List.getElem?_cons_succ, List.getElem?_cons_zero] at x0 x1 x2 x3
  have C := HC2.out w2 K2.out
  go_wp2_with fail
  refine C.mono ?_
  rintro e w3 ⟨rfl, hk3⟩
  have K3 := Lib.hid (Kept.trans K2.out hk3)
  have HB3 := Lib.hid (HB2.out.kept hk3)
  have HX3 := Lib.hid (HX2.out.kept hk3)
  clear hk3 C
  have c0 := HB3.out.cell 0
  have c1 := HB3.out.cell 1
  have c2 := HB3.out.cell 2
  have c3 := HB3.out.cell 3
  have c4 := HB3.out.cell 4
  have c5 := HB3.out.cell 5
  have c6 := HB3.out.cell 6
  have c7 := HB3.out.cell 7
  have c8 := HB3.out.cell 8
  simp only [List.getElem?_toArray, List.getElem?_cons_succ, List.getElem?_cons_zero] at c0 c1 c2 c3 c4 c5 c6 c7 c8
  have x0 := HX3.out.cell 0
  have x1 := HX3.out.cell 1
  have x2 := HX3.out.cell 2
  have x3 := HX3.out.cell 3
  simp only [List.getElem?_toArray, List.getElem?_cons_succ, List.getElem?_cons_zero] at x0 x1 x2 x3
  cases b1' <;> cases b2' <;>
  first
    | (go_wp2_with fail
       go_ret
       exact ⟨by rw [HR.out]; rfl, K3.out⟩)
    | skip
  have C := ref2_Member s w3 HZS.out
  obtain ⟨mb, hmb⟩ : ∃ b, b = memS s := ⟨_, rfl⟩
  rw [show memB s.data.toList = mb from hmb.symm] at C
  have HMB := Lib.hid hmb
  clear hmb
  go_wp2_with fail
  refine C.mono ?_
  rintro e w4 ⟨rfl, hk4⟩
  have K4 := Lib.hid (Kept.trans K3.out hk4)
  have HB4 := Lib.hid (HB3.out.kept hk4)
  have HX4 := Lib.hid (HX3.out.kept hk4)
  clear hk4 C
  have c0 := HB4.out.cell 0
  have c1 := HB4.out.cell 1
  have c2 := HB4.out.cell 2
  have c3 := HB4.out.cell 3
  have c4 := HB4.out.cell 4
  have c5 := HB4.out.cell 5
  have c6 := HB4.out.cell 6
  have c7 := HB4.out.cell 7
  have c8 := HB4.out.cell 8
  simp only [List.getElem?_toArray, List.getElem?_cons_succ, List.getElem?_cons_zero] at c0 c1 c2 c3 c4 c5 c6 c7 c8
  have x0 := HX4.out.cell 0
  have x1 := HX4.out.cell 1
  have x2 := HX4.out.cell 2
  have x3 := HX4.out.cell 3
  simp only [List.getElem?_toArray, List.getElem?_cons_succ, List.getElem?_cons_zero] at x0 x1 x2 x3
  cases mb
  · have HR1 := Lib.hid (show R = 21 by rw [HR.out, ← HMB.out]; rfl)
    go_wp2_with fail
    go_ret
    exact ⟨by rw [HR1.out]; rfl, K4.out⟩
  have C := ref2_Field d w4 HZD.out
  obtain ⟨fb, hfb⟩ : ∃ b, b = fldS d := ⟨_, rfl⟩
  rw [show fldB d.data.toList = fb from hfb.symm] at C
  have HFB := Lib.hid hfb
  clear hfb
  go_wp2_with fail
  refine C.mono ?_
  rintro e w5 ⟨rfl, hk5⟩
  have K5 := Lib.hid (Kept.trans K4.out hk5)
  have HB5 := Lib.hid (HB4.out.kept hk5)
  have HX5 := Lib.hid (HX4.out.kept hk5)
  clear hk5 C
  have c0 := HB5.out.cell 0
  have c1 := HB5.out.cell 1
  have c2 := HB5.out.cell 2
  have c3 := HB5.out.cell 3
  have c4 := HB5.out.cell 4
  have c5 := HB5.out.cell 5
  have c6 := HB5.out.cell 6
  have c7 := HB5.out.cell 7
  have c8 := HB5.out.cell 8
  simp only [List.getElem?_toArray, List.getElem?_cons_succ, List.getElem?_cons_zero] at c0 c1 c2 c3 c4 c5 c6 c7 c8
  have x0 := HX5.out.cell 0
  have x1 := HX5.out.cell 1
  have x2 := HX5.out.cell 2
  have x3 := HX5.out.cell 3
  simp only [List.getElem?_toArray, List.getElem?_cons_succ, List.getElem?_cons_zero] at x0 x1 x2 x3
  cases fb
  · have HR1 := Lib.hid (show R = 22 by rw [HR.out, ← HMB.out, ← HFB.out]; rfl)
    go_wp2_with fail
    go_ret
    exact ⟨by rw [HR1.out]; rfl, K5.out⟩
  have HR2 := Lib.hid (show R = (if (decide (1 < viewsI xa) || hasF ac 512 && !allF xa 25) = true then 23 else if keys.contains (s, d) = true then 24 else if (xv != 0 && (!hasF xa 8 || !isS d [73] || !(getC pool xv 3).isSome)) = true then 26 else 0) by rw [HR.out, ← HMB.out, ← HFB.out]; rfl)
  obtain ⟨V, hV⟩ : ∃ v, v = viewsI xa := ⟨_, rfl⟩
  obtain ⟨f5, h5⟩ : ∃ b, b = hasF ac 512 := ⟨_, rfl⟩
  obtain ⟨a2, h2⟩ : ∃ b, b = allF xa 25 := ⟨_, rfl⟩
  have hne : (bits .and .i64 xa 25 != 25) = !a2 := by rw [h2]; rfl
  have HQV := Lib.hid (fun W => hV ▸ views_q xa W)
  have HQF := Lib.hid (fun W => h5 ▸ has_q ac 512 W)
  have HR3 := Lib.hid (show R = (if (decide (1 < V) || f5 && !a2) = true then 23 else if keys.contains (s, d) = true then 24 else if (xv != 0 && (!hasF xa 8 || !isS d [73] || !(getC pool xv 3).isSome)) = true then 26 else 0) by rw [HR2.out, hV, h5, h2])
  clear hV h5 h2 HR2
  obtain ⟨bb, hbb⟩ : ∃ b, b = (decide (1 < V) || f5 && !a2) := ⟨_, rfl⟩
  rw [← hbb] at HR3
  have HBB := Lib.hid hbb
  clear hbb
  go_upto_region 13 with (go_at_call 89; refine (HQF.out _).mono ?_; rintro e w9 ⟨rfl, rfl⟩)
  go_cut [11, 54, 57, 67] from 57 to 67 (fun _ _ _ sl wx => sl = .bool bb ∧ w5 = wx)
  case first =>
    by_cases hv : 1 < V
    · have HB9 := Lib.hid (show bb = true by rw [HBB.out, decide_eq_true hv, Bool.true_or])
      go_wp2_with (go_at_call 90; refine (HQV.out _).mono ?_; rintro e w9 ⟨rfl, rfl⟩)
      go_meet
      exact ⟨by rw [HB9.out] <;> first | rfl | simp [hv], rfl⟩
    have HB8 := Lib.hid (show bb = (f5 && !a2) by rw [HBB.out, decide_eq_false hv, Bool.false_or])
    cases f5
    · have HB9 := Lib.hid (show bb = false from HB8.out)
      go_wp2_with (go_at_call 90; refine (HQV.out _).mono ?_; rintro e w9 ⟨rfl, rfl⟩)
      go_meet
      exact ⟨by rw [HB9.out] <;> first | rfl | simp [hv], rfl⟩
    have HB9 := Lib.hid (show bb = !a2 from HB8.out)
    cases a2 <;>
    (go_wp2_with (go_at_call 90; refine (HQV.out _).mono ?_; rintro e w9 ⟨rfl, rfl⟩)
     go_meet
     exact ⟨by rw [HB9.out] <;> first | rfl | simp [hv], rfl⟩)
  case rest =>
  obtain ⟨rfl, rfl⟩ := hcut
  cases bb
  rotate_left
  · have HR1 := Lib.hid (show R = 23 from HR3.out)
    go_wp2_with fail
    go_ret
    exact ⟨by rw [HR1.out]; rfl, K5.out⟩
  have HR4 := Lib.hid (show R = (if keys.contains (s, d) = true then 24 else if (xv != 0 && (!hasF xa 8 || !isS d [73] || !(getC pool xv 3).isSome)) = true then 26 else 0) from HR3.out)
  clear HR3 HR HBB hne HQV HQF
  go_wp2_with fail
  go_loopw [12] (fun sl wr => ∃ k : Nat, k ≤ i ∧ sl = .int .i64 k ∧ Kept w wr ∧ Blk wr w.heap.size 27 #[.int .i64 mi, .int .i64 ma, vP, .int .i64 ac, .int .i64 th, .int .i64 su, vI, (.slice (some ⟨b1, o1, none⟩) nF kF), vM] ∧ Blk wr gf 55 #[.int .i64 xa, .int .i64 xn, .int .i64 xd, .int .i64 xv] ∧ (keys.take k).contains (s, d) = false) (fun sl _ => i - (intOf sl).toNat)
  case atStart => exact ⟨0, by omega, rfl, K5.out, HB5.out, HX5.out, by simp⟩
  case round =>
  obtain ⟨k, hk, rfl, hkw, hbw, hxw, hno⟩ := hrel
  have KJ := Lib.hid hkw
  have HBJ := Lib.hid hbw
  have HXJ := Lib.hid hxw
  have HNO := Lib.hid hno
  clear hkw hbw hxw hno
  obtain ⟨wj, hwj⟩ : ∃ x, x = wr := ⟨_, rfl⟩
  subst hwj
  by_cases hki : k < i
  · obtain ⟨⟨xa2, xn2, xd2, xv2⟩, hx⟩ : ∃ x, fs[k]? = some x := ⟨_, List.getElem?_eq_getElem (by have := N1.out; omega)⟩
    obtain ⟨b2, o2, d2, hv2, j0, j1, j2, j3⟩ := field_cells N1.out (HFD.out.kept KJ.out) hx
    simp only [Value.slice.injEq, Option.some.injEq, Addr.mk.injEq] at hv2
    obtain ⟨⟨rfl, rfl, -⟩, -, -⟩ := hv2
    dsimp only at j0 j1 j2 j3
    have hkI : (k : Int) < (nF : Int) := by omega
    have hkiI : (k : Int) < (i : Int) := by omega
    have hk0 : (0 : Int) ≤ (k : Int) := by omega
    obtain ⟨s1, hs1⟩ : ∃ s, s = (textC pool xn2).1 := ⟨_, rfl⟩
    obtain ⟨p1, hp1⟩ : ∃ s, s = (textC pool xn2).2 := ⟨_, rfl⟩
    obtain ⟨s2, hs2⟩ : ∃ s, s = (textC pool xd2).1 := ⟨_, rfl⟩
    obtain ⟨p2, hp2⟩ : ∃ s, s = (textC pool xd2).2 := ⟨_, rfl⟩
    have HNK := Lib.hid (show keys[k]? = some (s1, s2) by rw [HKS.out, List.getElem?_map, List.getElem?_take_of_lt hki, hx, hs1, hs2]; rfl)
    have HS1 := Lib.hid hs1
    have HP1 := Lib.hid hp1
    have HS2 := Lib.hid hs2
    have HP2 := Lib.hid hp2
    clear hs1 hp1 hs2 hp2 hx
    have c0 := HBJ.out.cell 0
    have c1 := HBJ.out.cell 1
    have c2 := HBJ.out.cell 2
    have c3 := HBJ.out.cell 3
    have c4 := HBJ.out.cell 4
    have c5 := HBJ.out.cell 5
    have c6 := HBJ.out.cell 6
    have c7 := HBJ.out.cell 7
    have c8 := HBJ.out.cell 8
    simp only [List.getElem?_toArray, List.getElem?_cons_succ, List.getElem?_cons_zero] at c0 c1 c2 c3 c4 c5 c6 c7 c8
    go_upto_region 18 with fail
    go_region_held2 (fun w' => w'.cell? ⟨w.heap.size, 0, none⟩ = some (.int .i64 mi) ∧ w'.cell? ⟨w.heap.size, 1, none⟩ = some (.int .i64 ma) ∧ w'.cell? ⟨w.heap.size, 2, none⟩ = some (vP) ∧ w'.cell? ⟨w.heap.size, 3, none⟩ = some (.int .i64 ac) ∧ w'.cell? ⟨w.heap.size, 4, none⟩ = some (.int .i64 th) ∧ w'.cell? ⟨w.heap.size, 5, none⟩ = some (.int .i64 su) ∧ w'.cell? ⟨w.heap.size, 6, none⟩ = some (vI) ∧ w'.cell? ⟨w.heap.size, 7, none⟩ = some (.slice (some ⟨b1, o1, none⟩) nF kF) ∧ w'.cell? ⟨w.heap.size, 8, none⟩ = some (vM) ∧ w'.cell? ⟨b1, o1 + k * 4 + 1, none⟩ = some (.int .i64 xn2)) (go_keep) (first
      | (go_at_call 39
         have kk : Kept wj wj.drew := kept_drewN (Below.refl _ wj) 1
         refine (ref5_Utf pool mi ma ac th su vP vI (.slice (some ⟨b1, o1, none⟩) nF kF) vM xn2 wj.drew (HRD.out.kept (Kept.trans KJ.out kk))).mono ?_
         rintro e wa ⟨he, hkq⟩
         rw [← HS1.out, ← HP1.out] at he
         subst he
         have kq := Kept.trans kk hkq
         have Kwa := Lib.hid (Kept.trans KJ.out kq)
         have HBwa := Lib.hid (HBJ.out.kept kq)
         have HXwa := Lib.hid (HXJ.out.kept kq)
         have j1 := Kept.cell kq j1
         have j2 := Kept.cell kq j2
         have c0 := HBwa.out.cell 0
         have c1 := HBwa.out.cell 1
         have c2 := HBwa.out.cell 2
         have c3 := HBwa.out.cell 3
         have c4 := HBwa.out.cell 4
         have c5 := HBwa.out.cell 5
         have c6 := HBwa.out.cell 6
         have c7 := HBwa.out.cell 7
         have c8 := HBwa.out.cell 8
         simp only [List.getElem?_toArray, List.getElem?_cons_succ, List.getElem?_cons_zero] at c0 c1 c2 c3 c4 c5 c6 c7 c8
         clear hkq kk kq))
    go_upto_region 19 with fail
    go_region_held2 (fun w' => w'.cell? ⟨w.heap.size, 0, none⟩ = some (.int .i64 mi) ∧ w'.cell? ⟨w.heap.size, 1, none⟩ = some (.int .i64 ma) ∧ w'.cell? ⟨w.heap.size, 2, none⟩ = some (vP) ∧ w'.cell? ⟨w.heap.size, 3, none⟩ = some (.int .i64 ac) ∧ w'.cell? ⟨w.heap.size, 4, none⟩ = some (.int .i64 th) ∧ w'.cell? ⟨w.heap.size, 5, none⟩ = some (.int .i64 su) ∧ w'.cell? ⟨w.heap.size, 6, none⟩ = some (vI) ∧ w'.cell? ⟨w.heap.size, 7, none⟩ = some (.slice (some ⟨b1, o1, none⟩) nF kF) ∧ w'.cell? ⟨w.heap.size, 8, none⟩ = some (vM) ∧ w'.cell? ⟨b1, o1 + k * 4 + 2, none⟩ = some (.int .i64 xd2)) (go_keep) (first
      | (go_at_call 39
         have kk : Kept wa wa.drew := kept_drewN (Below.refl _ wa) 1
         refine (ref5_Utf pool mi ma ac th su vP vI (.slice (some ⟨b1, o1, none⟩) nF kF) vM xd2 wa.drew (HRD.out.kept (Kept.trans Kwa.out kk))).mono ?_
         rintro e wb ⟨he, hkq⟩
         rw [← HS2.out, ← HP2.out] at he
         subst he
         have kq := Kept.trans kk hkq
         have Kwb := Lib.hid (Kept.trans Kwa.out kq)
         have HBwb := Lib.hid (HBwa.out.kept kq)
         have HXwb := Lib.hid (HXwa.out.kept kq)
         have j1 := Kept.cell kq j1
         have j2 := Kept.cell kq j2
         have c0 := HBwb.out.cell 0
         have c1 := HBwb.out.cell 1
         have c2 := HBwb.out.cell 2
         have c3 := HBwb.out.cell 3
         have c4 := HBwb.out.cell 4
         have c5 := HBwb.out.cell 5
         have c6 := HBwb.out.cell 6
         have c7 := HBwb.out.cell 7
         have c8 := HBwb.out.cell 8
         simp only [List.getElem?_toArray, List.getElem?_cons_succ, List.getElem?_cons_zero] at c0 c1 c2 c3 c4 c5 c6 c7 c8
         clear hkq kk kq))

    by_cases heq : (s1, s2) = (s, d)
    · have HR6 := Lib.hid (show R = 24 by
        rw [HR4.out, if_pos]
        rw [List.contains_iff_mem, ← heq]
        exact List.mem_of_getElem? HNK.out)
      obtain ⟨e1, e2⟩ := Prod.mk.inj heq
      have hq1 : (s1.toList == s.toList) = true := by rw [e1]; simp
      have hq2 : (s2.toList == d.toList) = true := by rw [e2]; simp
      clear heq e1 e2
      go_wp2_with fail
      go_ret
      exact ⟨by rw [HR6.out]; rfl, Kwb.out⟩
    · have HN2 := Lib.hid (show (keys.take (k + 1)).contains (s, d) = false by
        have h := HNO.out
        rw [List.take_add_one, HNK.out]
        simp only [List.contains_eq_mem, List.mem_append, Option.toList, List.mem_singleton] at h ⊢
        simp only [decide_eq_false_iff_not] at h ⊢
        rintro (h' | h')
        · exact h h'
        · exact heq h'.symm)
      by_cases e1 : s1 = s
      · have hq1 : (s1.toList == s.toList) = true := by rw [e1]; simp
        have hq2 : (s2.toList == d.toList) = false := by
          rw [beq_eq_false_iff_ne]
          intro e
          rw [ByteArray.toList_eq, ByteArray.toList_eq] at e
          exact heq (by rw [e1, ByteArray.ext (Array.toList_inj.1 e)])
        clear heq e1
        go_wp2_with fail
        go_roundw
        case rel => exact ⟨k + 1, by omega, by go_num, Kwb.out, HBwb.out, HXwb.out, HN2.out⟩
        case measure => simp [intOf]; omega
      · have hq1 : (s1.toList == s.toList) = false := by
          rw [beq_eq_false_iff_ne]
          intro e
          rw [ByteArray.toList_eq, ByteArray.toList_eq] at e
          exact e1 (ByteArray.ext (Array.toList_inj.1 e))
        clear heq e1
        go_wp2_with fail
        go_roundw
        case rel => exact ⟨k + 1, by omega, by go_num, Kwb.out, HBwb.out, HXwb.out, HN2.out⟩
        case measure => simp [intOf]; omega
  obtain rfl : k = i := by omega
  have HNO2 := Lib.hid (show keys.contains (s, d) = false by
    have h := HNO.out
    rw [List.take_of_length_le (by rw [HKS.out, List.length_map, List.length_take]; omega)] at h
    exact h)
  have HR5 := Lib.hid (show R = (if (xv != 0 && (!hasF xa 8 || !isS d [73] || !(getC pool xv 3).isSome)) = true then 26 else 0) by
    rw [HR4.out, if_neg]
    rw [HNO2.out]
    decide)
  have c0 := HBJ.out.cell 0
  have c1 := HBJ.out.cell 1
  have c2 := HBJ.out.cell 2
  have c3 := HBJ.out.cell 3
  have c4 := HBJ.out.cell 4
  have c5 := HBJ.out.cell 5
  have c6 := HBJ.out.cell 6
  have c7 := HBJ.out.cell 7
  have c8 := HBJ.out.cell 8
  simp only [List.getElem?_toArray, List.getElem?_cons_succ, List.getElem?_cons_zero] at c0 c1 c2 c3 c4 c5 c6 c7 c8
  have x0 := HXJ.out.cell 0
  have x1 := HXJ.out.cell 1
  have x2 := HXJ.out.cell 2
  have x3 := HXJ.out.cell 3
  simp only [List.getElem?_toArray, List.getElem?_cons_succ, List.getElem?_cons_zero] at x0 x1 x2 x3
  by_cases hv : xv = 0
  · have hv1 : (xv != 0) = false := by simpa using hv
    have HR6 := Lib.hid (show R = 0 by rw [HR5.out, hv1]; rfl)
    clear hv
    go_wp2_with fail
    go_ret
    exact ⟨by rw [HR6.out]; rfl, KJ.out⟩
  have hv1 : (xv != 0) = true := by simpa using hv
  clear hv
  have C := ref5_get pool mi ma ac th su vP vI (.slice (some ⟨b1, o1, none⟩) nF kF) vM xv 3 wj (HRD.out.kept KJ.out)
  obtain ⟨y, hy⟩ : ∃ x, x = (getC pool xv 3).getD zeroK := ⟨_, rfl⟩
  obtain ⟨ok, hok⟩ : ∃ b, b = (getC pool xv 3).isSome := ⟨_, rfl⟩
  obtain ⟨f8, h8⟩ : ∃ b, b = hasF xa 8 := ⟨_, rfl⟩
  obtain ⟨si, hsi⟩ : ∃ b, (d.toList == [73]) = b := ⟨_, rfl⟩
  have hsn : (d.toList != [73]) = !si := by rw [← hsi]; rfl
  have e8 : (bits .and .i64 xa 8 == 0) = !f8 := has_eq h8.symm
  unfold AtG at C
  rw [← hy, ← hok] at C
  have HR6 := Lib.hid (show R = if (!f8 || !si || !ok) = true then 26 else 0 by rw [HR5.out, hv1, h8, hok, show isS d [73] = si from hsi]; rfl)
  clear hy hok h8
  go_upto_region 23 with fail
  go_wp2_with fail
  refine C.mono ?_
  rintro e wk ⟨he, hkk⟩
  have he : e = .returned (.tuple #[.agg #[.int .i64 y.tag, .string y.text, .int .i64 y.num, .int .i64 y.a, .int .i64 y.b], .bool ok]) := he
  subst he
  have KK := Lib.hid (Kept.trans KJ.out hkk)
  have HXK := Lib.hid (HXJ.out.kept hkk)
  clear hkk C
  go_upto_region 24 with fail
  have hkl : Kept wk (wk.alloc (.cells #[.int .i64 y.tag, .string y.text, .int .i64 y.num, .int .i64 y.a, .int .i64 y.b] 47)) := (Below.refl _ _).alloc (Nat.le_refl _) _
  have KL := Lib.hid (Kept.trans KK.out hkl)
  have HXL := Lib.hid (HXK.out.kept hkl)
  clear hkl
  generalize (wk.alloc (.cells #[.int .i64 y.tag, .string y.text, .int .i64 y.num, .int .i64 y.a, .int .i64 y.b] 47)) = wl at *
  have z0 := HXL.out.cell 0
  have z1 := HXL.out.cell 1
  have z2 := HXL.out.cell 2
  have z3 := HXL.out.cell 3
  simp only [List.getElem?_toArray, List.getElem?_cons_succ, List.getElem?_cons_zero] at z0 z1 z2 z3
  cases ok
  · have HR7 := Lib.hid (show R = 26 by rw [HR6.out]; simp)
    go_wp2_with fail
    go_ret
    exact ⟨by rw [HR7.out]; rfl, KL.out⟩
  cases f8
  · have HR7 := Lib.hid (show R = 26 from HR6.out)
    go_wp2_with fail
    go_ret
    exact ⟨by rw [HR7.out]; rfl, KL.out⟩
  cases si
  · have HR7 := Lib.hid (show R = 26 from HR6.out)
    go_wp2_with fail
    go_ret
    exact ⟨by rw [HR7.out]; rfl, KL.out⟩
  · have HR7 := Lib.hid (show R = 0 from HR6.out)
    go_wp2_with fail
    go_ret
    exact ⟨by rw [HR7.out]; rfl, KL.out⟩
end Go.Proofs.Ytcklmhbcjgiplaa

namespace Go.Proofs.Ytcklmhbcjgiplaa
set_option linter.unusedVariables false
set_option linter.unusedSimpArgs false
open Go.RowKit
open Go.Maps Go.WideMaps
set_option maxRecDepth 100000

/-- What the document's code tells. -/
def codeE (xa : Int) (xh : Bool) (xs xl : Int) (nC : Nat) (pool : List ConstC) (traps : List TrapC) (args : Nat) : Int :=
  if codeQ xa xh xs xl nC traps args = true then 25 else if traps.any (badC pool xh) = true then 20 else 0
theorem any_no {pool : List ConstC} {traps : List TrapC} : traps.any (badC pool false) = false := by
  rw [List.any_eq_false]
  intro t _
  simp [badC]
set_option maxHeartbeats 8000000 in
theorem ref5_code (xa xn xd : Int) (xh : Bool) (xs xl : Int) (aC aT : Option Addr) (nC kC nT kT : Nat) (traps : List TrapC) (pool : List ConstC) (mi ma ac th su : Int) (vP vI vF vM : Value) (N : Nat) (w : World) (hr : Rd w 5 vP pool.length (pool.flatMap encC)) (hn : N ≤ 255) (hl : nC ≤ 4611686018427387904) (ht : Rd w 4 (.slice aT nT kT) traps.length (traps.flatMap encT)) (hnt : nT = traps.length) :
    Calls Try.prog 92 #[.agg #[.int .i64 mi, .int .i64 ma, vP, .int .i64 ac, .int .i64 th, .int .i64 su, vI, vF, vM], .agg #[.int .i64 xa, .int .i64 xn, .int .i64 xd, .bool xh, .int .i64 xs, .int .i64 xl, .slice aC nC kC, .slice aT nT kT], .int .i64 N] w (IntG (codeE xa xh xs xl nC pool traps N) w) := by
  have hk : Kept w ((w.alloc (.cells #[.int .i64 mi, .int .i64 ma, vP, .int .i64 ac, .int .i64 th, .int .i64 su, vI, vF, vM] 27)).alloc (.cells #[.int .i64 xa, .int .i64 xn, .int .i64 xd, .bool xh, .int .i64 xs, .int .i64 xl, .slice aC nC kC, .slice aT nT kT] 52)) := ((Below.refl _ _).alloc (Nat.le_refl _) _).alloc (by simp) _
  have HK := Lib.hid hk
  have HB := Lib.hid ((Blk.new w 27 #[.int .i64 mi, .int .i64 ma, vP, .int .i64 ac, .int .i64 th, .int .i64 su, vI, vF, vM]).alloc (.cells #[.int .i64 xa, .int .i64 xn, .int .i64 xd, .bool xh, .int .i64 xs, .int .i64 xl, .slice aC nC kC, .slice aT nT kT] 52))
  have HX : Hid (Blk ((w.alloc (.cells #[.int .i64 mi, .int .i64 ma, vP, .int .i64 ac, .int .i64 th, .int .i64 su, vI, vF, vM] 27)).alloc (.cells #[.int .i64 xa, .int .i64 xn, .int .i64 xd, .bool xh, .int .i64 xs, .int .i64 xl, .slice aC nC kC, .slice aT nT kT] 52)) (w.heap.size + 1) 52 #[.int .i64 xa, .int .i64 xn, .int .i64 xd, .bool xh, .int .i64 xs, .int .i64 xl, .slice aC nC kC, .slice aT nT kT]) := Lib.hid (heap_new_at' _ _ (by simp))
  obtain ⟨R, hR⟩ : ∃ R, R = codeE xa xh xs xl nC pool traps N := ⟨_, rfl⟩
  rw [← hR]
  have HR0 := Lib.hid hR
  clear hR
  have N1 := Lib.hid hnt
  have HRD := Lib.hid hr
  have htn : Rd w 4 (.slice aT nT kT) nT (traps.flatMap encT) := by rw [hnt] at ht ⊢; exact ht
  have HTN := Lib.hid htn
  have hnb : nT ≤ 9223372036854775807 := by obtain ⟨_, _, _, e, q1, q2, _⟩ := htn; cases e; omega
  have hw1 : IntKind.i64.wrap ((N : Int) + 1) = (N : Int) + 1 := IntWalk.i64_in _ (by omega)
  obtain ⟨gx, hgx⟩ : ∃ g, g = w.heap.size + 1 := ⟨_, rfl⟩
  clear hk ht htn hnt hn hr
  go_enter Try.func92, Try.ntmps92
  go_upto_region 1 with fail
  rw [← hgx] at HX ⊢
  generalize ((w.alloc (.cells #[.int .i64 mi, .int .i64 ma, vP, .int .i64 ac, .int .i64 th, .int .i64 su, vI, vF, vM] 27)).alloc (.cells #[.int .i64 xa, .int .i64 xn, .int .i64 xd, .bool xh, .int .i64 xs, .int .i64 xl, .slice aC nC kC, .slice aT nT kT] 52)) = W at *
  clear hgx
  have c0 := HB.out.cell 0
  have c1 := HB.out.cell 1
  have c2 := HB.out.cell 2
  have c3 := HB.out.cell 3
  have c4 := HB.out.cell 4
  have c5 := HB.out.cell 5
  have c6 := HB.out.cell 6
  have c7 := HB.out.cell 7
  have c8 := HB.out.cell 8
  simp only [List.getElem?_toArray, List.getElem?_cons_succ, List.getElem?_cons_zero] at c0 c1 c2 c3 c4 c5 c6 c7 c8
  have x0 := HX.out.cell 0
  have x1 := HX.out.cell 1
  have x2 := HX.out.cell 2
  have x3 := HX.out.cell 3
  have x4 := HX.out.cell 4
  have x5 := HX.out.cell 5
  have x6 := HX.out.cell 6
  have x7 := HX.out.cell 7
  simp only [List.getElem?_toArray, List.getElem?_cons_succ, List.getElem?_cons_zero] at x0 x1 x2 x3 x4 x5 x6 x7
  cases h1024 : hasF xa 1024
  · cases xh
    · have HR := Lib.hid (show R = 25 by rw [HR0.out]; simp [codeE, codeQ, h1024])
      (go_wp2_with (go_at_call 89; refine (has_q _ _ _).mono ?_; rintro e w9 ⟨rfl, rfl⟩)
       go_ret
       exact ⟨by rw [HR.out]; rfl, HK.out⟩)
    cases h8 : hasF xa 8
    · have e8 := has_eq h8
      by_cases g1 : nC = 0
      · have HR := Lib.hid (show R = 25 by rw [HR0.out]; simp [codeE, codeQ, h1024, h8, g1])
        subst g1
        (go_wp2_with (go_at_call 89; refine (has_q _ _ _).mono ?_; rintro e w9 ⟨rfl, rfl⟩)
         go_ret
         exact ⟨by rw [HR.out]; rfl, HK.out⟩)
      have g1I : ((nC : Int) == 0) = false := by simpa using g1
      by_cases g2 : xs < 0
      · have HR := Lib.hid (show R = 25 by rw [HR0.out]; simp [codeE, codeQ, h1024, h8, g1, g2])
        (go_wp2_with (go_at_call 89; refine (has_q _ _ _).mono ?_; rintro e w9 ⟨rfl, rfl⟩)
         go_ret
         exact ⟨by rw [HR.out]; rfl, HK.out⟩)
      by_cases g3 : 64 < xs
      · have HR := Lib.hid (show R = 25 by rw [HR0.out]; simp [codeE, codeQ, h1024, h8, g1, g2, g3])
        (go_wp2_with (go_at_call 89; refine (has_q _ _ _).mono ?_; rintro e w9 ⟨rfl, rfl⟩)
         go_ret
         exact ⟨by rw [HR.out]; rfl, HK.out⟩)
      by_cases g4 : xl < 0
      · have HR := Lib.hid (show R = 25 by rw [HR0.out]; simp [codeE, codeQ, h1024, h8, g1, g2, g3, g4])
        (go_wp2_with (go_at_call 89; refine (has_q _ _ _).mono ?_; rintro e w9 ⟨rfl, rfl⟩)
         go_ret
         exact ⟨by rw [HR.out]; rfl, HK.out⟩)
      by_cases g5 : 64 < xl
      · have HR := Lib.hid (show R = 25 by rw [HR0.out]; simp [codeE, codeQ, h1024, h8, g1, g2, g3, g4, g5])
        (go_wp2_with (go_at_call 89; refine (has_q _ _ _).mono ?_; rintro e w9 ⟨rfl, rfl⟩)
         go_ret
         exact ⟨by rw [HR.out]; rfl, HK.out⟩)
      by_cases g6 : xl < (N : Int) + 1
      · have HR := Lib.hid (show R = 25 by rw [HR0.out]; simp [codeE, codeQ, h1024, h8, g1, g2, g3, g4, g5, g6])
        (go_wp2_with (go_at_call 89; refine (has_q _ _ _).mono ?_; rintro e w9 ⟨rfl, rfl⟩)
         go_ret
         exact ⟨by rw [HR.out]; rfl, HK.out⟩)
      have HR := Lib.hid (show R = if traps.any (badT nC) = true then 25 else if traps.any (badC pool true) = true then 20 else 0 by rw [HR0.out]; simp [codeE, codeQ, h1024, h8, g1, g2, g3, g4, g5, g6])
      clear g1
      go_wp2_with (go_at_call 89; refine (has_q _ _ _).mono ?_; rintro e w9 ⟨rfl, rfl⟩)
      go_loopw [8] (fun sl wr => ∃ k : Nat, k ≤ nT ∧ sl = .int .i64 k ∧ Kept w wr ∧ Blk wr w.heap.size 27 #[.int .i64 mi, .int .i64 ma, vP, .int .i64 ac, .int .i64 th, .int .i64 su, vI, vF, vM] ∧ Blk wr gx 52 #[.int .i64 xa, .int .i64 xn, .int .i64 xd, .bool true, .int .i64 xs, .int .i64 xl, .slice aC nC kC, .slice aT nT kT] ∧ (traps.take k).any (badT nC) = false) (fun sl _ => nT - (intOf sl).toNat)
      case atStart => exact ⟨0, by omega, rfl, HK.out, HB.out, HX.out, by simp⟩
      case round =>
      obtain ⟨k, hk, rfl, hkw, hbw, hxw, hno⟩ := hrel
      have HNO := Lib.hid hno
      have KW := Lib.hid hkw
      have HBW := Lib.hid hbw
      have HXW := Lib.hid hxw
      clear hno hkw hbw hxw
      have x0 := HXW.out.cell 0
      have x1 := HXW.out.cell 1
      have x2 := HXW.out.cell 2
      have x3 := HXW.out.cell 3
      have x4 := HXW.out.cell 4
      have x5 := HXW.out.cell 5
      have x6 := HXW.out.cell 6
      have x7 := HXW.out.cell 7
      simp only [List.getElem?_toArray, List.getElem?_cons_succ, List.getElem?_cons_zero] at x0 x1 x2 x3 x4 x5 x6 x7
      by_cases hlt : k < nT
      · obtain ⟨⟨fr, tq, at_, ty⟩, hx⟩ : ∃ x, traps[k]? = some x := ⟨_, List.getElem?_eq_getElem (by have := N1.out; omega)⟩
        obtain ⟨b1, o1, d1, hv1, e0, e1, e2, e3⟩ := trap_cell N1.out (HTN.out.kept KW.out) hx
        simp only [Value.slice.injEq] at hv1
        obtain ⟨rfl, -, rfl⟩ := hv1
        dsimp only at e0 e1 e2 e3
        have hkI : (k : Int) < (nT : Int) := by omega
        have h0I : (0 : Int) ≤ (k : Int) := by omega
        have HX := Lib.hid hx
        clear hx
        obtain ⟨gt, hgt⟩ : ∃ g, g = wr.heap.size := ⟨_, rfl⟩
        go_upto_region 14 with fail
        have hkt : Kept wr (wr.alloc (.cells #[.int .i64 fr, .int .i64 tq, .int .i64 at_, .int .i64 ty] 59)) := (Below.refl _ _).alloc (Nat.le_refl _) _
        have HTB := Lib.hid (Blk.new wr 59 #[.int .i64 fr, .int .i64 tq, .int .i64 at_, .int .i64 ty])
        have K1 := Lib.hid (Kept.trans KW.out hkt)
        have HB1 := Lib.hid (HBW.out.kept hkt)
        have HX1 := Lib.hid (HXW.out.kept hkt)
        rw [← hgt] at HTB ⊢
        clear hkt e0 e1 e2 e3
        generalize (wr.alloc (.cells #[.int .i64 fr, .int .i64 tq, .int .i64 at_, .int .i64 ty] 59)) = w1 at *
        clear hgt
        have t0 := HTB.out.cell 0
        have t1 := HTB.out.cell 1
        have t2 := HTB.out.cell 2
        have t3 := HTB.out.cell 3
        simp only [List.getElem?_toArray, List.getElem?_cons_succ, List.getElem?_cons_zero] at t0 t1 t2 t3
        have x0 := HX1.out.cell 0
        have x1 := HX1.out.cell 1
        have x2 := HX1.out.cell 2
        have x3 := HX1.out.cell 3
        have x4 := HX1.out.cell 4
        have x5 := HX1.out.cell 5
        have x6 := HX1.out.cell 6
        have x7 := HX1.out.cell 7
        simp only [List.getElem?_toArray, List.getElem?_cons_succ, List.getElem?_cons_zero] at x0 x1 x2 x3 x4 x5 x6 x7
        have HRH := Lib.hid (show badT nC ⟨fr, tq, at_, ty⟩ = true → R = 25 from fun h => by rw [HR.out, if_pos (any_at HX.out h)])
        by_cases t1x : fr < 0
        · have HR2 := Lib.hid (HRH.out (by unfold badT; dsimp only; simp [t1x]))
          go_wp2_with fail
          go_ret
          exact ⟨by rw [HR2.out]; rfl, K1.out⟩
        by_cases t2x : tq ≤ fr
        · have HR2 := Lib.hid (HRH.out (by unfold badT; dsimp only; simp [t2x]))
          go_wp2_with fail
          go_ret
          exact ⟨by rw [HR2.out]; rfl, K1.out⟩
        by_cases t3x : (nC : Int) < tq
        · have HR2 := Lib.hid (HRH.out (by unfold badT; dsimp only; simp [t3x]))
          go_wp2_with fail
          go_ret
          exact ⟨by rw [HR2.out]; rfl, K1.out⟩
        by_cases t4x : at_ < 0
        · have HR2 := Lib.hid (HRH.out (by unfold badT; dsimp only; simp [t4x]))
          go_wp2_with fail
          go_ret
          exact ⟨by rw [HR2.out]; rfl, K1.out⟩
        by_cases t5x : (nC : Int) ≤ at_
        · have HR2 := Lib.hid (HRH.out (by unfold badT; dsimp only; simp [t5x]))
          go_wp2_with fail
          go_ret
          exact ⟨by rw [HR2.out]; rfl, K1.out⟩
        have HB0 := Lib.hid (show badT nC ⟨fr, tq, at_, ty⟩ = false by unfold badT; dsimp only; simp [t1x, t2x, t3x, t4x, t5x])
        go_wp2_with fail
        go_roundw
        case rel => exact ⟨k + 1, by omega, by go_num, K1.out, HB1.out, HX1.out, any_take HX.out HNO.out HB0.out⟩
        case measure => simp [intOf]; omega
      obtain rfl : k = nT := by omega
      have HRB := Lib.hid (show R = if traps.any (badC pool true) = true then 20 else 0 by
        have h := HNO.out
        rw [List.take_of_length_le (by have := N1.out; omega)] at h
        rw [HR.out, h]
        rfl)
      clear HR HNO
      obtain ⟨wa, hwa⟩ : ∃ x, x = wr := ⟨_, rfl⟩
      subst hwa
      go_wp2_with fail
      go_loopw [10] (fun sl wr => ∃ j : Nat, j ≤ k ∧ sl = .int .i64 j ∧ Kept w wr ∧ Blk wr w.heap.size 27 #[.int .i64 mi, .int .i64 ma, vP, .int .i64 ac, .int .i64 th, .int .i64 su, vI, vF, vM] ∧ Blk wr gx 52 #[.int .i64 xa, .int .i64 xn, .int .i64 xd, .bool true, .int .i64 xs, .int .i64 xl, .slice aC nC kC, .slice aT k kT] ∧ (traps.take j).any (badC pool true) = false) (fun sl _ => k - (intOf sl).toNat)
      case atStart => exact ⟨0, by omega, rfl, KW.out, HBW.out, HXW.out, by simp⟩
      case round =>
      clear KW HBW HXW
      obtain ⟨j, hj, rfl, hkw, hbw, hxw, hno⟩ := hrel
      have HNO := Lib.hid hno
      have KW := Lib.hid hkw
      have HBW := Lib.hid hbw
      have HXW := Lib.hid hxw
      clear hno hkw hbw hxw
      have x0 := HXW.out.cell 0
      have x1 := HXW.out.cell 1
      have x2 := HXW.out.cell 2
      have x3 := HXW.out.cell 3
      have x4 := HXW.out.cell 4
      have x5 := HXW.out.cell 5
      have x6 := HXW.out.cell 6
      have x7 := HXW.out.cell 7
      simp only [List.getElem?_toArray, List.getElem?_cons_succ, List.getElem?_cons_zero] at x0 x1 x2 x3 x4 x5 x6 x7
      by_cases hjt : j < k
      rotate_left
      · obtain rfl : j = k := by omega
        have HR2 := Lib.hid (show R = 0 by
          have h := HNO.out
          rw [List.take_of_length_le (by have := N1.out; omega)] at h
          rw [HRB.out, h]
          rfl)
        go_wp2_with fail
        go_ret
        exact ⟨by rw [HR2.out]; rfl, KW.out⟩
      obtain ⟨⟨fr, tq, at_, ty⟩, hx⟩ : ∃ x, traps[j]? = some x := ⟨_, List.getElem?_eq_getElem (by have := N1.out; omega)⟩
      obtain ⟨b1, o1, d1, hv1, e0, e1, e2, e3⟩ := trap_cell N1.out (HTN.out.kept KW.out) hx
      simp only [Value.slice.injEq] at hv1
      obtain ⟨rfl, -, rfl⟩ := hv1
      dsimp only at e0 e1 e2 e3
      have hkI : (j : Int) < (k : Int) := by omega
      have h0I : (0 : Int) ≤ (j : Int) := by omega
      have HX := Lib.hid hx
      clear hx
      obtain ⟨gt, hgt⟩ : ∃ g, g = wr.heap.size := ⟨_, rfl⟩
      go_upto_region 20 with fail
      have hkt : Kept wr (wr.alloc (.cells #[.int .i64 fr, .int .i64 tq, .int .i64 at_, .int .i64 ty] 59)) := (Below.refl _ _).alloc (Nat.le_refl _) _
      have HTB := Lib.hid (Blk.new wr 59 #[.int .i64 fr, .int .i64 tq, .int .i64 at_, .int .i64 ty])
      have K1 := Lib.hid (Kept.trans KW.out hkt)
      have HB1 := Lib.hid (HBW.out.kept hkt)
      have HX1 := Lib.hid (HXW.out.kept hkt)
      rw [← hgt] at HTB ⊢
      clear hkt e0 e1 e2 e3
      generalize (wr.alloc (.cells #[.int .i64 fr, .int .i64 tq, .int .i64 at_, .int .i64 ty] 59)) = w1 at *
      clear hgt
      have t0 := HTB.out.cell 0
      have t1 := HTB.out.cell 1
      have t2 := HTB.out.cell 2
      have t3 := HTB.out.cell 3
      simp only [List.getElem?_toArray, List.getElem?_cons_succ, List.getElem?_cons_zero] at t0 t1 t2 t3
      have c0 := HB1.out.cell 0
      have c1 := HB1.out.cell 1
      have c2 := HB1.out.cell 2
      have c3 := HB1.out.cell 3
      have c4 := HB1.out.cell 4
      have c5 := HB1.out.cell 5
      have c6 := HB1.out.cell 6
      have c7 := HB1.out.cell 7
      have c8 := HB1.out.cell 8
      simp only [List.getElem?_toArray, List.getElem?_cons_succ, List.getElem?_cons_zero] at c0 c1 c2 c3 c4 c5 c6 c7 c8
      have C := ref5_get pool mi ma ac th su vP vI vF vM ty 7 w1 (HRD.out.kept K1.out)
      obtain ⟨y, hy⟩ : ∃ x, x = (getC pool ty 7).getD zeroK := ⟨_, rfl⟩
      obtain ⟨ok, hok⟩ : ∃ b, b = (getC pool ty 7).isSome := ⟨_, rfl⟩
      unfold AtG at C
      rw [← hy, ← hok] at C
      have HV := Lib.hid (show badC pool true ⟨fr, tq, at_, ty⟩ = (ty != 0 && !ok) by unfold badC; rw [hok]; rfl)
      clear hy hok
      go_wp2_with fail
      refine C.mono ?_
      rintro e w2 ⟨he, hk2⟩
      have he : e = .returned (.tuple #[.agg #[.int .i64 y.tag, .string y.text, .int .i64 y.num, .int .i64 y.a, .int .i64 y.b], .bool ok]) := he
      subst he
      have K2 := Lib.hid (Kept.trans K1.out hk2)
      have HB2 := Lib.hid (HB1.out.kept hk2)
      have HX2 := Lib.hid (HX1.out.kept hk2)
      have HT2 := Lib.hid (HTB.out.kept hk2)
      clear hk2 C
      go_upto_region 21 with fail
      have hk3 : Kept w2 (w2.alloc (.cells #[.int .i64 y.tag, .string y.text, .int .i64 y.num, .int .i64 y.a, .int .i64 y.b] 47)) := (Below.refl _ _).alloc (Nat.le_refl _) _
      have K3 := Lib.hid (Kept.trans K2.out hk3)
      have HB3 := Lib.hid (HB2.out.kept hk3)
      have HX3 := Lib.hid (HX2.out.kept hk3)
      have HT3 := Lib.hid (HT2.out.kept hk3)
      clear hk3
      generalize (w2.alloc (.cells #[.int .i64 y.tag, .string y.text, .int .i64 y.num, .int .i64 y.a, .int .i64 y.b] 47)) = w3 at *
      have u0 := HT3.out.cell 0
      have u1 := HT3.out.cell 1
      have u2 := HT3.out.cell 2
      have u3 := HT3.out.cell 3
      simp only [List.getElem?_toArray, List.getElem?_cons_succ, List.getElem?_cons_zero] at u0 u1 u2 u3
      by_cases hz : ty = 0
      · have hz1 : (ty != 0) = false := by simpa using hz
        have HV2 := Lib.hid (show badC pool true ⟨fr, tq, at_, ty⟩ = false by rw [HV.out, hz1]; rfl)
        clear hz
        go_wp2_with fail
        go_roundw
        case rel => exact ⟨j + 1, by omega, by go_num, K3.out, HB3.out, HX3.out, any_take HX.out HNO.out HV2.out⟩
        case measure => simp [intOf]; omega
      have hz1 : (ty != 0) = true := by simpa using hz
      clear hz
      cases ok
      · have HR2 := Lib.hid (show R = 20 by rw [HRB.out, if_pos (any_at HX.out (by rw [HV.out, hz1]; rfl))])
        go_wp2_with fail
        go_ret
        exact ⟨by rw [HR2.out]; rfl, K3.out⟩
      have HV2 := Lib.hid (show badC pool true ⟨fr, tq, at_, ty⟩ = false by rw [HV.out, hz1]; rfl)
      go_wp2_with fail
      go_roundw
      case rel => exact ⟨j + 1, by omega, by go_num, K3.out, HB3.out, HX3.out, any_take HX.out HNO.out HV2.out⟩
      case measure => simp [intOf]; omega
    · have e8 := has_eq h8
      by_cases g1 : nC = 0
      · have HR := Lib.hid (show R = 25 by rw [HR0.out]; simp [codeE, codeQ, h1024, h8, g1])
        subst g1
        (go_wp2_with (go_at_call 89; refine (has_q _ _ _).mono ?_; rintro e w9 ⟨rfl, rfl⟩)
         go_ret
         exact ⟨by rw [HR.out]; rfl, HK.out⟩)
      have g1I : ((nC : Int) == 0) = false := by simpa using g1
      by_cases g2 : xs < 0
      · have HR := Lib.hid (show R = 25 by rw [HR0.out]; simp [codeE, codeQ, h1024, h8, g1, g2])
        (go_wp2_with (go_at_call 89; refine (has_q _ _ _).mono ?_; rintro e w9 ⟨rfl, rfl⟩)
         go_ret
         exact ⟨by rw [HR.out]; rfl, HK.out⟩)
      by_cases g3 : 64 < xs
      · have HR := Lib.hid (show R = 25 by rw [HR0.out]; simp [codeE, codeQ, h1024, h8, g1, g2, g3])
        (go_wp2_with (go_at_call 89; refine (has_q _ _ _).mono ?_; rintro e w9 ⟨rfl, rfl⟩)
         go_ret
         exact ⟨by rw [HR.out]; rfl, HK.out⟩)
      by_cases g4 : xl < 0
      · have HR := Lib.hid (show R = 25 by rw [HR0.out]; simp [codeE, codeQ, h1024, h8, g1, g2, g3, g4])
        (go_wp2_with (go_at_call 89; refine (has_q _ _ _).mono ?_; rintro e w9 ⟨rfl, rfl⟩)
         go_ret
         exact ⟨by rw [HR.out]; rfl, HK.out⟩)
      by_cases g5 : 64 < xl
      · have HR := Lib.hid (show R = 25 by rw [HR0.out]; simp [codeE, codeQ, h1024, h8, g1, g2, g3, g4, g5])
        (go_wp2_with (go_at_call 89; refine (has_q _ _ _).mono ?_; rintro e w9 ⟨rfl, rfl⟩)
         go_ret
         exact ⟨by rw [HR.out]; rfl, HK.out⟩)
      by_cases g6 : xl < (N : Int)
      · have HR := Lib.hid (show R = 25 by rw [HR0.out]; simp [codeE, codeQ, h1024, h8, g1, g2, g3, g4, g5, g6])
        (go_wp2_with (go_at_call 89; refine (has_q _ _ _).mono ?_; rintro e w9 ⟨rfl, rfl⟩)
         go_ret
         exact ⟨by rw [HR.out]; rfl, HK.out⟩)
      have HR := Lib.hid (show R = if traps.any (badT nC) = true then 25 else if traps.any (badC pool true) = true then 20 else 0 by rw [HR0.out]; simp [codeE, codeQ, h1024, h8, g1, g2, g3, g4, g5, g6])
      clear g1
      go_wp2_with (go_at_call 89; refine (has_q _ _ _).mono ?_; rintro e w9 ⟨rfl, rfl⟩)
      go_loopw [8] (fun sl wr => ∃ k : Nat, k ≤ nT ∧ sl = .int .i64 k ∧ Kept w wr ∧ Blk wr w.heap.size 27 #[.int .i64 mi, .int .i64 ma, vP, .int .i64 ac, .int .i64 th, .int .i64 su, vI, vF, vM] ∧ Blk wr gx 52 #[.int .i64 xa, .int .i64 xn, .int .i64 xd, .bool true, .int .i64 xs, .int .i64 xl, .slice aC nC kC, .slice aT nT kT] ∧ (traps.take k).any (badT nC) = false) (fun sl _ => nT - (intOf sl).toNat)
      case atStart => exact ⟨0, by omega, rfl, HK.out, HB.out, HX.out, by simp⟩
      case round =>
      obtain ⟨k, hk, rfl, hkw, hbw, hxw, hno⟩ := hrel
      have HNO := Lib.hid hno
      have KW := Lib.hid hkw
      have HBW := Lib.hid hbw
      have HXW := Lib.hid hxw
      clear hno hkw hbw hxw
      have x0 := HXW.out.cell 0
      have x1 := HXW.out.cell 1
      have x2 := HXW.out.cell 2
      have x3 := HXW.out.cell 3
      have x4 := HXW.out.cell 4
      have x5 := HXW.out.cell 5
      have x6 := HXW.out.cell 6
      have x7 := HXW.out.cell 7
      simp only [List.getElem?_toArray, List.getElem?_cons_succ, List.getElem?_cons_zero] at x0 x1 x2 x3 x4 x5 x6 x7
      by_cases hlt : k < nT
      · obtain ⟨⟨fr, tq, at_, ty⟩, hx⟩ : ∃ x, traps[k]? = some x := ⟨_, List.getElem?_eq_getElem (by have := N1.out; omega)⟩
        obtain ⟨b1, o1, d1, hv1, e0, e1, e2, e3⟩ := trap_cell N1.out (HTN.out.kept KW.out) hx
        simp only [Value.slice.injEq] at hv1
        obtain ⟨rfl, -, rfl⟩ := hv1
        dsimp only at e0 e1 e2 e3
        have hkI : (k : Int) < (nT : Int) := by omega
        have h0I : (0 : Int) ≤ (k : Int) := by omega
        have HX := Lib.hid hx
        clear hx
        obtain ⟨gt, hgt⟩ : ∃ g, g = wr.heap.size := ⟨_, rfl⟩
        go_upto_region 14 with fail
        have hkt : Kept wr (wr.alloc (.cells #[.int .i64 fr, .int .i64 tq, .int .i64 at_, .int .i64 ty] 59)) := (Below.refl _ _).alloc (Nat.le_refl _) _
        have HTB := Lib.hid (Blk.new wr 59 #[.int .i64 fr, .int .i64 tq, .int .i64 at_, .int .i64 ty])
        have K1 := Lib.hid (Kept.trans KW.out hkt)
        have HB1 := Lib.hid (HBW.out.kept hkt)
        have HX1 := Lib.hid (HXW.out.kept hkt)
        rw [← hgt] at HTB ⊢
        clear hkt e0 e1 e2 e3
        generalize (wr.alloc (.cells #[.int .i64 fr, .int .i64 tq, .int .i64 at_, .int .i64 ty] 59)) = w1 at *
        clear hgt
        have t0 := HTB.out.cell 0
        have t1 := HTB.out.cell 1
        have t2 := HTB.out.cell 2
        have t3 := HTB.out.cell 3
        simp only [List.getElem?_toArray, List.getElem?_cons_succ, List.getElem?_cons_zero] at t0 t1 t2 t3
        have x0 := HX1.out.cell 0
        have x1 := HX1.out.cell 1
        have x2 := HX1.out.cell 2
        have x3 := HX1.out.cell 3
        have x4 := HX1.out.cell 4
        have x5 := HX1.out.cell 5
        have x6 := HX1.out.cell 6
        have x7 := HX1.out.cell 7
        simp only [List.getElem?_toArray, List.getElem?_cons_succ, List.getElem?_cons_zero] at x0 x1 x2 x3 x4 x5 x6 x7
        have HRH := Lib.hid (show badT nC ⟨fr, tq, at_, ty⟩ = true → R = 25 from fun h => by rw [HR.out, if_pos (any_at HX.out h)])
        by_cases t1x : fr < 0
        · have HR2 := Lib.hid (HRH.out (by unfold badT; dsimp only; simp [t1x]))
          go_wp2_with fail
          go_ret
          exact ⟨by rw [HR2.out]; rfl, K1.out⟩
        by_cases t2x : tq ≤ fr
        · have HR2 := Lib.hid (HRH.out (by unfold badT; dsimp only; simp [t2x]))
          go_wp2_with fail
          go_ret
          exact ⟨by rw [HR2.out]; rfl, K1.out⟩
        by_cases t3x : (nC : Int) < tq
        · have HR2 := Lib.hid (HRH.out (by unfold badT; dsimp only; simp [t3x]))
          go_wp2_with fail
          go_ret
          exact ⟨by rw [HR2.out]; rfl, K1.out⟩
        by_cases t4x : at_ < 0
        · have HR2 := Lib.hid (HRH.out (by unfold badT; dsimp only; simp [t4x]))
          go_wp2_with fail
          go_ret
          exact ⟨by rw [HR2.out]; rfl, K1.out⟩
        by_cases t5x : (nC : Int) ≤ at_
        · have HR2 := Lib.hid (HRH.out (by unfold badT; dsimp only; simp [t5x]))
          go_wp2_with fail
          go_ret
          exact ⟨by rw [HR2.out]; rfl, K1.out⟩
        have HB0 := Lib.hid (show badT nC ⟨fr, tq, at_, ty⟩ = false by unfold badT; dsimp only; simp [t1x, t2x, t3x, t4x, t5x])
        go_wp2_with fail
        go_roundw
        case rel => exact ⟨k + 1, by omega, by go_num, K1.out, HB1.out, HX1.out, any_take HX.out HNO.out HB0.out⟩
        case measure => simp [intOf]; omega
      obtain rfl : k = nT := by omega
      have HRB := Lib.hid (show R = if traps.any (badC pool true) = true then 20 else 0 by
        have h := HNO.out
        rw [List.take_of_length_le (by have := N1.out; omega)] at h
        rw [HR.out, h]
        rfl)
      clear HR HNO
      obtain ⟨wa, hwa⟩ : ∃ x, x = wr := ⟨_, rfl⟩
      subst hwa
      go_wp2_with fail
      go_loopw [10] (fun sl wr => ∃ j : Nat, j ≤ k ∧ sl = .int .i64 j ∧ Kept w wr ∧ Blk wr w.heap.size 27 #[.int .i64 mi, .int .i64 ma, vP, .int .i64 ac, .int .i64 th, .int .i64 su, vI, vF, vM] ∧ Blk wr gx 52 #[.int .i64 xa, .int .i64 xn, .int .i64 xd, .bool true, .int .i64 xs, .int .i64 xl, .slice aC nC kC, .slice aT k kT] ∧ (traps.take j).any (badC pool true) = false) (fun sl _ => k - (intOf sl).toNat)
      case atStart => exact ⟨0, by omega, rfl, KW.out, HBW.out, HXW.out, by simp⟩
      case round =>
      clear KW HBW HXW
      obtain ⟨j, hj, rfl, hkw, hbw, hxw, hno⟩ := hrel
      have HNO := Lib.hid hno
      have KW := Lib.hid hkw
      have HBW := Lib.hid hbw
      have HXW := Lib.hid hxw
      clear hno hkw hbw hxw
      have x0 := HXW.out.cell 0
      have x1 := HXW.out.cell 1
      have x2 := HXW.out.cell 2
      have x3 := HXW.out.cell 3
      have x4 := HXW.out.cell 4
      have x5 := HXW.out.cell 5
      have x6 := HXW.out.cell 6
      have x7 := HXW.out.cell 7
      simp only [List.getElem?_toArray, List.getElem?_cons_succ, List.getElem?_cons_zero] at x0 x1 x2 x3 x4 x5 x6 x7
      by_cases hjt : j < k
      rotate_left
      · obtain rfl : j = k := by omega
        have HR2 := Lib.hid (show R = 0 by
          have h := HNO.out
          rw [List.take_of_length_le (by have := N1.out; omega)] at h
          rw [HRB.out, h]
          rfl)
        go_wp2_with fail
        go_ret
        exact ⟨by rw [HR2.out]; rfl, KW.out⟩
      obtain ⟨⟨fr, tq, at_, ty⟩, hx⟩ : ∃ x, traps[j]? = some x := ⟨_, List.getElem?_eq_getElem (by have := N1.out; omega)⟩
      obtain ⟨b1, o1, d1, hv1, e0, e1, e2, e3⟩ := trap_cell N1.out (HTN.out.kept KW.out) hx
      simp only [Value.slice.injEq] at hv1
      obtain ⟨rfl, -, rfl⟩ := hv1
      dsimp only at e0 e1 e2 e3
      have hkI : (j : Int) < (k : Int) := by omega
      have h0I : (0 : Int) ≤ (j : Int) := by omega
      have HX := Lib.hid hx
      clear hx
      obtain ⟨gt, hgt⟩ : ∃ g, g = wr.heap.size := ⟨_, rfl⟩
      go_upto_region 20 with fail
      have hkt : Kept wr (wr.alloc (.cells #[.int .i64 fr, .int .i64 tq, .int .i64 at_, .int .i64 ty] 59)) := (Below.refl _ _).alloc (Nat.le_refl _) _
      have HTB := Lib.hid (Blk.new wr 59 #[.int .i64 fr, .int .i64 tq, .int .i64 at_, .int .i64 ty])
      have K1 := Lib.hid (Kept.trans KW.out hkt)
      have HB1 := Lib.hid (HBW.out.kept hkt)
      have HX1 := Lib.hid (HXW.out.kept hkt)
      rw [← hgt] at HTB ⊢
      clear hkt e0 e1 e2 e3
      generalize (wr.alloc (.cells #[.int .i64 fr, .int .i64 tq, .int .i64 at_, .int .i64 ty] 59)) = w1 at *
      clear hgt
      have t0 := HTB.out.cell 0
      have t1 := HTB.out.cell 1
      have t2 := HTB.out.cell 2
      have t3 := HTB.out.cell 3
      simp only [List.getElem?_toArray, List.getElem?_cons_succ, List.getElem?_cons_zero] at t0 t1 t2 t3
      have c0 := HB1.out.cell 0
      have c1 := HB1.out.cell 1
      have c2 := HB1.out.cell 2
      have c3 := HB1.out.cell 3
      have c4 := HB1.out.cell 4
      have c5 := HB1.out.cell 5
      have c6 := HB1.out.cell 6
      have c7 := HB1.out.cell 7
      have c8 := HB1.out.cell 8
      simp only [List.getElem?_toArray, List.getElem?_cons_succ, List.getElem?_cons_zero] at c0 c1 c2 c3 c4 c5 c6 c7 c8
      have C := ref5_get pool mi ma ac th su vP vI vF vM ty 7 w1 (HRD.out.kept K1.out)
      obtain ⟨y, hy⟩ : ∃ x, x = (getC pool ty 7).getD zeroK := ⟨_, rfl⟩
      obtain ⟨ok, hok⟩ : ∃ b, b = (getC pool ty 7).isSome := ⟨_, rfl⟩
      unfold AtG at C
      rw [← hy, ← hok] at C
      have HV := Lib.hid (show badC pool true ⟨fr, tq, at_, ty⟩ = (ty != 0 && !ok) by unfold badC; rw [hok]; rfl)
      clear hy hok
      go_wp2_with fail
      refine C.mono ?_
      rintro e w2 ⟨he, hk2⟩
      have he : e = .returned (.tuple #[.agg #[.int .i64 y.tag, .string y.text, .int .i64 y.num, .int .i64 y.a, .int .i64 y.b], .bool ok]) := he
      subst he
      have K2 := Lib.hid (Kept.trans K1.out hk2)
      have HB2 := Lib.hid (HB1.out.kept hk2)
      have HX2 := Lib.hid (HX1.out.kept hk2)
      have HT2 := Lib.hid (HTB.out.kept hk2)
      clear hk2 C
      go_upto_region 21 with fail
      have hk3 : Kept w2 (w2.alloc (.cells #[.int .i64 y.tag, .string y.text, .int .i64 y.num, .int .i64 y.a, .int .i64 y.b] 47)) := (Below.refl _ _).alloc (Nat.le_refl _) _
      have K3 := Lib.hid (Kept.trans K2.out hk3)
      have HB3 := Lib.hid (HB2.out.kept hk3)
      have HX3 := Lib.hid (HX2.out.kept hk3)
      have HT3 := Lib.hid (HT2.out.kept hk3)
      clear hk3
      generalize (w2.alloc (.cells #[.int .i64 y.tag, .string y.text, .int .i64 y.num, .int .i64 y.a, .int .i64 y.b] 47)) = w3 at *
      have u0 := HT3.out.cell 0
      have u1 := HT3.out.cell 1
      have u2 := HT3.out.cell 2
      have u3 := HT3.out.cell 3
      simp only [List.getElem?_toArray, List.getElem?_cons_succ, List.getElem?_cons_zero] at u0 u1 u2 u3
      by_cases hz : ty = 0
      · have hz1 : (ty != 0) = false := by simpa using hz
        have HV2 := Lib.hid (show badC pool true ⟨fr, tq, at_, ty⟩ = false by rw [HV.out, hz1]; rfl)
        clear hz
        go_wp2_with fail
        go_roundw
        case rel => exact ⟨j + 1, by omega, by go_num, K3.out, HB3.out, HX3.out, any_take HX.out HNO.out HV2.out⟩
        case measure => simp [intOf]; omega
      have hz1 : (ty != 0) = true := by simpa using hz
      clear hz
      cases ok
      · have HR2 := Lib.hid (show R = 20 by rw [HRB.out, if_pos (any_at HX.out (by rw [HV.out, hz1]; rfl))])
        go_wp2_with fail
        go_ret
        exact ⟨by rw [HR2.out]; rfl, K3.out⟩
      have HV2 := Lib.hid (show badC pool true ⟨fr, tq, at_, ty⟩ = false by rw [HV.out, hz1]; rfl)
      go_wp2_with fail
      go_roundw
      case rel => exact ⟨j + 1, by omega, by go_num, K3.out, HB3.out, HX3.out, any_take HX.out HNO.out HV2.out⟩
      case measure => simp [intOf]; omega
  · cases xh
    · have HR := Lib.hid (show R = 0 by rw [HR0.out]; simp [codeE, codeQ, h1024, any_no])
      (go_wp2_with (go_at_call 89; refine (has_q _ _ _).mono ?_; rintro e w9 ⟨rfl, rfl⟩)
       go_ret
       exact ⟨by rw [HR.out]; rfl, HK.out⟩)
    · have HR := Lib.hid (show R = 25 by rw [HR0.out]; simp [codeE, codeQ, h1024])
      (go_wp2_with (go_at_call 89; refine (has_q _ _ _).mono ?_; rintro e w9 ⟨rfl, rfl⟩)
       go_ret
       exact ⟨by rw [HR.out]; rfl, HK.out⟩)
end Go.Proofs.Ytcklmhbcjgiplaa

namespace Go.Proofs.Ytcklmhbcjgiplaa
set_option linter.unusedVariables false
set_option linter.unusedSimpArgs false
open Go.RowKit
open Go.Maps Go.WideMaps
set_option maxRecDepth 100000

set_option maxHeartbeats 8000000 in
theorem ref5_method (pool : List ConstC) (mi ma ac th su : Int) (vP vI vF vM : Value) (mv : List (MethC × Value × Value)) (i : Nat) (f : MethC × Value × Value) (w : World) (hr : Rd w 5 vP pool.length (pool.flatMap encC)) (hf : Rd w 8 vM mv.length (mv.flatMap encM)) (hs : ∀ k ∈ pool, k.text.size ≤ maxLen) (hi : mv[i]? = some f) (hm : MRd w f.1 f.2.1 f.2.2) (hl : f.1.code.length ≤ 4611686018427387904) :
    Calls Try.prog 81 #[.agg #[.int .i64 mi, .int .i64 ma, vP, .int .i64 ac, .int .i64 th, .int .i64 su, vI, vF, vM], .int .i64 i] w (IntG (methE pool ac ((mv.take i).map (fun g => keyC pool g.1.name g.1.desc)) f.1) w) := by
  obtain ⟨nM, hnf⟩ : ∃ n, n = mv.length := ⟨_, rfl⟩
  have hf0 := hf
  rw [← hnf] at hf0
  have N1 := Lib.hid hnf
  obtain ⟨⟨xa, xn, xd, xh, xs, xl, cod, traps⟩, vC, vT⟩ := f
  obtain ⟨b1, o1, kM, rfl, e0, e1, e2, e3, e4, e5, e6, e7⟩ := meth_cells N1.out hf0 hi
  dsimp only at *
  obtain ⟨nC, hnC⟩ : ∃ n, n = cod.length := ⟨_, rfl⟩
  obtain ⟨nT, hnT⟩ : ∃ n, n = traps.length := ⟨_, rfl⟩
  have hmc := hm.code
  have hmt := hm.traps
  rw [← hnC] at hmc
  rw [← hnT] at hmt
  obtain ⟨_, aC, kC, rfl, -, -, -⟩ := hmc
  obtain ⟨_, aT, kT, rfl, -, -, -⟩ := hmt
  have hmt := hm.traps
  rw [← hnC] at hl
  have HNT := Lib.hid hnT
  have HRD := Lib.hid hr
  have HSZ := Lib.hid hs
  have HI := Lib.hid hi
  have HFD := Lib.hid hf0
  have hlt : i < nM := by have := (List.getElem?_eq_some_iff.1 hi).1; omega
  have hiI : (i : Int) < (nM : Int) := by omega
  have h0I : (0 : Int) ≤ (i : Int) := by omega
  have hnb : nM ≤ 9223372036854775807 := by obtain ⟨_, _, _, e, q1, q2, _⟩ := hf0; cases e; omega
  have hk : Kept w (w.alloc (.cells #[.int .i64 mi, .int .i64 ma, vP, .int .i64 ac, .int .i64 th, .int .i64 su, vI, vF, (.slice (some ⟨b1, o1, none⟩) nM kM)] 27)) := (Below.refl _ _).alloc (Nat.le_refl _) _
  have HK := Lib.hid hk
  have HB := Lib.hid (Blk.new w 27 #[.int .i64 mi, .int .i64 ma, vP, .int .i64 ac, .int .i64 th, .int .i64 su, vI, vF, (.slice (some ⟨b1, o1, none⟩) nM kM)])
  have e0 := Kept.cell hk e0
  have e1 := Kept.cell hk e1
  have e2 := Kept.cell hk e2
  have e3 := Kept.cell hk e3
  have e4 := Kept.cell hk e4
  have e5 := Kept.cell hk e5
  have e6 := Kept.cell hk e6
  have e7 := Kept.cell hk e7
  obtain ⟨R, hR⟩ : ∃ R, R = methE pool ac ((mv.take i).map (fun g => keyC pool g.1.name g.1.desc)) ⟨xa, xn, xd, xh, xs, xl, cod, traps⟩ := ⟨_, rfl⟩
  rw [← hR]
  have zs := textC_size hs xn
  have zd := textC_size hs xd
  obtain ⟨keys, hkeys⟩ : ∃ l, l = (mv.take i).map (fun g => keyC pool g.1.name g.1.desc) := ⟨_, rfl⟩
  rw [← hkeys] at hR
  have HKS := Lib.hid hkeys
  obtain ⟨s, hsv⟩ : ∃ s, s = (textC pool xn).1 := ⟨_, rfl⟩
  obtain ⟨b1', hb1⟩ : ∃ s, s = (textC pool xn).2 := ⟨_, rfl⟩
  obtain ⟨d, hdv⟩ : ∃ s, s = (textC pool xd).1 := ⟨_, rfl⟩
  obtain ⟨b2', hb2⟩ : ∃ s, s = (textC pool xd).2 := ⟨_, rfl⟩
  rw [← hsv] at zs
  rw [← hdv] at zd
  obtain ⟨a, ha⟩ : ∃ a : ByteArray, a = ⟨(argK d).toArray⟩ := ⟨_, rfl⟩
  obtain ⟨q, hq⟩ : ∃ a : ByteArray, a = ⟨(retK d).toArray⟩ := ⟨_, rfl⟩
  have hasz : a.size = (argK d).length := by rw [ha]; simp [ByteArray.size]
  have ha255 : a.size ≤ 255 := by have := argK_le d; omega
  have hR2 : R = (if (b1' && b2') = false then 20 else if metS s = false then 21 else if isK d = false then 22 else if methF ac xa s = true then 23 else if (isS s iniL && !isS q [86] || isS s cliL && !isS d [40, 41, 86]) = true then 22 else if keys.contains (s, d) = true then 24 else if codeQ xa xh xs xl nC traps a.size = true then 25 else if traps.any (badC pool xh) = true then 20 else 0) := by
    rw [hR, hasz, hq, ret_isS, hsv, hb1, hdv, hb2, hnC]
    rfl
  have HR := Lib.hid hR2
  have HZS := Lib.hid zs
  have HZD := Lib.hid zd
  have C1 := fun (W : World) (h : Kept w W) => ref5_Utf pool mi ma ac th su vP vI vF (.slice (some ⟨b1, o1, none⟩) nM kM) xn W (hr.kept h)
  unfold TextG at C1
  rw [← hsv, ← hb1] at C1
  have C2 := fun (W : World) (h : Kept w W) => ref5_Utf pool mi ma ac th su vP vI vF (.slice (some ⟨b1, o1, none⟩) nM kM) xd W (hr.kept h)
  unfold TextG at C2
  rw [← hdv, ← hb2] at C2
  have HC1 := Lib.hid C1
  have HC2 := Lib.hid C2
  have HMT := Lib.hid hmt
  have HHL := Lib.hid hl
  have C0 := fun W => ref2_KindsT d W zd
  unfold KindG at C0
  rw [← ha, ← hq] at C0
  have HCK := Lib.hid C0
  clear hmt hm C0 ha hq hasz hnC hnT
  clear hR hR2 hk hr hf hf0 hs hi hsv hb1 hdv hb2 C1 C2 zs zd hkeys hnf
  go_enter Try.func81, Try.ntmps81
  go_upto_region 1 with fail
  generalize (w.alloc (.cells #[.int .i64 mi, .int .i64 ma, vP, .int .i64 ac, .int .i64 th, .int .i64 su, vI, vF, (.slice (some ⟨b1, o1, none⟩) nM kM)] 27)) = W at *
  have c0 := HB.out.cell 0
  have c1 := HB.out.cell 1
  have c2 := HB.out.cell 2
  have c3 := HB.out.cell 3
  have c4 := HB.out.cell 4
  have c5 := HB.out.cell 5
  have c6 := HB.out.cell 6
  have c7 := HB.out.cell 7
  have c8 := HB.out.cell 8
  simp only [List.getElem?_toArray, List.getElem?_cons_succ, List.getElem?_cons_zero] at c0 c1 c2 c3 c4 c5 c6 c7 c8
  go_upto_region 2 with fail
  obtain ⟨gf, hgf⟩ : ∃ g, g = W.heap.size := ⟨_, rfl⟩
  have hk1 : Kept W (W.alloc (.cells #[.int .i64 xa, .int .i64 xn, .int .i64 xd, .bool xh, .int .i64 xs, .int .i64 xl, .slice aC nC kC, .slice aT nT kT] 52)) := (Below.refl _ _).alloc (Nat.le_refl _) _
  have K1 := Lib.hid (Kept.trans HK.out hk1)
  have HB1 := Lib.hid (HB.out.kept hk1)
  have HX1 := Lib.hid (Blk.new W 52 #[.int .i64 xa, .int .i64 xn, .int .i64 xd, .bool xh, .int .i64 xs, .int .i64 xl, .slice aC nC kC, .slice aT nT kT])
  rw [← hgf] at HX1 ⊢
  clear hk1 e0 e1 e2 e3 e4 e5 e6 e7
  generalize (W.alloc (.cells #[.int .i64 xa, .int .i64 xn, .int .i64 xd, .bool xh, .int .i64 xs, .int .i64 xl, .slice aC nC kC, .slice aT nT kT] 52)) = w1 at *
  clear hgf
  have c0 := HB1.out.cell 0
  have c1 := HB1.out.cell 1
  have c2 := HB1.out.cell 2
  have c3 := HB1.out.cell 3
  have c4 := HB1.out.cell 4
  have c5 := HB1.out.cell 5
  have c6 := HB1.out.cell 6
  have c7 := HB1.out.cell 7
  have c8 := HB1.out.cell 8
  simp only [List.getElem?_toArray, List.getElem?_cons_succ, List.getElem?_cons_zero] at c0 c1 c2 c3 c4 c5 c6 c7 c8
  have x0 := HX1.out.cell 0
  have x1 := HX1.out.cell 1
  have x2 := HX1.out.cell 2
  have x3 := HX1.out.cell 3
  have x4 := HX1.out.cell 4
  have x5 := HX1.out.cell 5
  have x6 := HX1.out.cell 6
  have x7 := HX1.out.cell 7
  simp only [List.getElem?_toArray, List.getElem?_cons_succ, List.getElem?_cons_zero] at x0 x1 x2 x3 x4 x5 x6 x7
  have C := HC1.out w1 K1.out
  go_wp2_with fail
  refine C.mono ?_
  rintro e w2 ⟨rfl, hk2⟩
  have K2 := Lib.hid (Kept.trans K1.out hk2)
  have HB2 := Lib.hid (HB1.out.kept hk2)
  have HX2 := Lib.hid (HX1.out.kept hk2)
  clear hk2 C
  have c0 := HB2.out.cell 0
  have c1 := HB2.out.cell 1
  have c2 := HB2.out.cell 2
  have c3 := HB2.out.cell 3
  have c4 := HB2.out.cell 4
  have c5 := HB2.out.cell 5
  have c6 := HB2.out.cell 6
  have c7 := HB2.out.cell 7
  have c8 := HB2.out.cell 8
  simp only [List.getElem?_toArray, List.getElem?_cons_succ, List.getElem?_cons_zero] at c0 c1 c2 c3 c4 c5 c6 c7 c8
  have x0 := HX2.out.cell 0
  have x1 := HX2.out.cell 1
  have x2 := HX2.out.cell 2
  have x3 := HX2.out.cell 3
  have x4 := HX2.out.cell 4
  have x5 := HX2.out.cell 5
  have x6 := HX2.out.cell 6
  have x7 := HX2.out.cell 7
  simp only [List.getElem?_toArray, List.getElem?_cons_succ, List.getElem?_cons_zero] at x0 x1 x2 x3 x4 x5 x6 x7
  have C := HC2.out w2 K2.out
  go_wp2_with fail
  refine C.mono ?_
  rintro e w3 ⟨rfl, hk3⟩
  have K3 := Lib.hid (Kept.trans K2.out hk3)
  have HB3 := Lib.hid (HB2.out.kept hk3)
  have HX3 := Lib.hid (HX2.out.kept hk3)
  clear hk3 C
  have c0 := HB3.out.cell 0
  have c1 := HB3.out.cell 1
  have c2 := HB3.out.cell 2
  have c3 := HB3.out.cell 3
  have c4 := HB3.out.cell 4
  have c5 := HB3.out.cell 5
  have c6 := HB3.out.cell 6
  have c7 := HB3.out.cell 7
  have c8 := HB3.out.cell 8
  simp only [List.getElem?_toArray, List.getElem?_cons_succ, List.getElem?_cons_zero] at c0 c1 c2 c3 c4 c5 c6 c7 c8
  have x0 := HX3.out.cell 0
  have x1 := HX3.out.cell 1
  have x2 := HX3.out.cell 2
  have x3 := HX3.out.cell 3
  have x4 := HX3.out.cell 4
  have x5 := HX3.out.cell 5
  have x6 := HX3.out.cell 6
  have x7 := HX3.out.cell 7
  simp only [List.getElem?_toArray, List.getElem?_cons_succ, List.getElem?_cons_zero] at x0 x1 x2 x3 x4 x5 x6 x7
  cases b1' <;> cases b2' <;>
  first
    | (go_wp2_with fail
       go_ret
       exact ⟨by rw [HR.out]; rfl, K3.out⟩)
    | skip
  have C := ref2_Method s w3 HZS.out
  obtain ⟨mb, hmb⟩ : ∃ b, b = metS s := ⟨_, rfl⟩
  rw [show metB s.data.toList = mb from hmb.symm] at C
  have HMB := Lib.hid hmb
  clear hmb
  go_wp2_with fail
  refine C.mono ?_
  rintro e w4 ⟨rfl, hk4⟩
  have K4 := Lib.hid (Kept.trans K3.out hk4)
  have HB4 := Lib.hid (HB3.out.kept hk4)
  have HX4 := Lib.hid (HX3.out.kept hk4)
  clear hk4 C
  have c0 := HB4.out.cell 0
  have c1 := HB4.out.cell 1
  have c2 := HB4.out.cell 2
  have c3 := HB4.out.cell 3
  have c4 := HB4.out.cell 4
  have c5 := HB4.out.cell 5
  have c6 := HB4.out.cell 6
  have c7 := HB4.out.cell 7
  have c8 := HB4.out.cell 8
  simp only [List.getElem?_toArray, List.getElem?_cons_succ, List.getElem?_cons_zero] at c0 c1 c2 c3 c4 c5 c6 c7 c8
  have x0 := HX4.out.cell 0
  have x1 := HX4.out.cell 1
  have x2 := HX4.out.cell 2
  have x3 := HX4.out.cell 3
  have x4 := HX4.out.cell 4
  have x5 := HX4.out.cell 5
  have x6 := HX4.out.cell 6
  have x7 := HX4.out.cell 7
  simp only [List.getElem?_toArray, List.getElem?_cons_succ, List.getElem?_cons_zero] at x0 x1 x2 x3 x4 x5 x6 x7
  cases mb
  · have HR1 := Lib.hid (show R = 21 by rw [HR.out, ← HMB.out]; rfl)
    go_wp2_with fail
    go_ret
    exact ⟨by rw [HR1.out]; rfl, K4.out⟩
  obtain ⟨kb, hkb⟩ : ∃ b, b = isK d := ⟨_, rfl⟩
  have C := HCK.out w4
  rw [← hkb] at C
  have HKB := Lib.hid hkb
  clear hkb
  go_wp2_with fail
  refine C.mono ?_
  rintro e w5 ⟨rfl, hk5⟩
  have K5 := Lib.hid (Kept.trans K4.out hk5)
  have HB5 := Lib.hid (HB4.out.kept hk5)
  have HX5 := Lib.hid (HX4.out.kept hk5)
  clear hk5 C
  have c0 := HB5.out.cell 0
  have c1 := HB5.out.cell 1
  have c2 := HB5.out.cell 2
  have c3 := HB5.out.cell 3
  have c4 := HB5.out.cell 4
  have c5 := HB5.out.cell 5
  have c6 := HB5.out.cell 6
  have c7 := HB5.out.cell 7
  have c8 := HB5.out.cell 8
  simp only [List.getElem?_toArray, List.getElem?_cons_succ, List.getElem?_cons_zero] at c0 c1 c2 c3 c4 c5 c6 c7 c8
  have x0 := HX5.out.cell 0
  have x1 := HX5.out.cell 1
  have x2 := HX5.out.cell 2
  have x3 := HX5.out.cell 3
  have x4 := HX5.out.cell 4
  have x5 := HX5.out.cell 5
  have x6 := HX5.out.cell 6
  have x7 := HX5.out.cell 7
  simp only [List.getElem?_toArray, List.getElem?_cons_succ, List.getElem?_cons_zero] at x0 x1 x2 x3 x4 x5 x6 x7
  cases kb
  · have HR1 := Lib.hid (show R = 22 by rw [HR.out, ← HMB.out, ← HKB.out]; rfl)
    go_wp2_with fail
    go_ret
    exact ⟨by rw [HR1.out]; rfl, K5.out⟩
  have HR2 := Lib.hid (show R = (if methF ac xa s = true then 23 else if (isS s iniL && !isS q [86] || isS s cliL && !isS d [40, 41, 86]) = true then 22 else if keys.contains (s, d) = true then 24 else if codeQ xa xh xs xl nC traps a.size = true then 25 else if traps.any (badC pool xh) = true then 20 else 0) by rw [HR.out, ← HMB.out, ← HKB.out]; rfl)
  have C := ref5_flags mi ma ac th su xa vP vI vF (.slice (some ⟨b1, o1, none⟩) nM kM) s w5
  obtain ⟨ff, hff⟩ : ∃ b, b = methF ac xa s := ⟨_, rfl⟩
  rw [← hff] at C
  have HFF := Lib.hid hff
  clear hff HR
  go_wp2_with fail
  refine C.mono ?_
  rintro e w6 ⟨rfl, hk6⟩
  have K6 := Lib.hid (Kept.trans K5.out hk6)
  have HB6 := Lib.hid (HB5.out.kept hk6)
  have HX6 := Lib.hid (HX5.out.kept hk6)
  clear hk6 C
  have c0 := HB6.out.cell 0
  have c1 := HB6.out.cell 1
  have c2 := HB6.out.cell 2
  have c3 := HB6.out.cell 3
  have c4 := HB6.out.cell 4
  have c5 := HB6.out.cell 5
  have c6 := HB6.out.cell 6
  have c7 := HB6.out.cell 7
  have c8 := HB6.out.cell 8
  simp only [List.getElem?_toArray, List.getElem?_cons_succ, List.getElem?_cons_zero] at c0 c1 c2 c3 c4 c5 c6 c7 c8
  have x0 := HX6.out.cell 0
  have x1 := HX6.out.cell 1
  have x2 := HX6.out.cell 2
  have x3 := HX6.out.cell 3
  have x4 := HX6.out.cell 4
  have x5 := HX6.out.cell 5
  have x6 := HX6.out.cell 6
  have x7 := HX6.out.cell 7
  simp only [List.getElem?_toArray, List.getElem?_cons_succ, List.getElem?_cons_zero] at x0 x1 x2 x3 x4 x5 x6 x7
  cases ff
  rotate_left
  · have HR1 := Lib.hid (show R = 23 by rw [HR2.out, ← HFF.out]; rfl)
    go_wp2_with fail
    go_ret
    exact ⟨by rw [HR1.out]; rfl, K6.out⟩
  have HR3 := Lib.hid (show R = (if (isS s iniL && !isS q [86] || isS s cliL && !isS d [40, 41, 86]) = true then 22 else if keys.contains (s, d) = true then 24 else if codeQ xa xh xs xl nC traps a.size = true then 25 else if traps.any (badC pool xh) = true then 20 else 0) by rw [HR2.out, ← HFF.out]; rfl)
  clear HR2
  obtain ⟨bi, hbi⟩ : ∃ b, (s.toList == [60, 105, 110, 105, 116, 62]) = b := ⟨_, rfl⟩
  obtain ⟨bc, hbc⟩ : ∃ b, (s.toList == [60, 99, 108, 105, 110, 105, 116, 62]) = b := ⟨_, rfl⟩
  obtain ⟨bq, hbq⟩ : ∃ b, (q.toList == [86]) = b := ⟨_, rfl⟩
  obtain ⟨bd, hbd⟩ : ∃ b, (d.toList == [40, 41, 86]) = b := ⟨_, rfl⟩
  have hqn : (q.toList != [86]) = !bq := by rw [← hbq]; rfl
  have hdn : (d.toList != [40, 41, 86]) = !bd := by rw [← hbd]; rfl
  obtain ⟨bb, hbb⟩ : ∃ b, b = (bi && !bq || bc && !bd) := ⟨_, rfl⟩
  have HBB := Lib.hid hbb
  have HR5 := Lib.hid (show R = (if bb = true then 22 else if keys.contains (s, d) = true then 24 else if codeQ xa xh xs xl nC traps a.size = true then 25 else if traps.any (badC pool xh) = true then 20 else 0) by
    rw [HR3.out, show isS s iniL = bi from hbi, show isS s cliL = bc from hbc, show isS q [86] = bq from hbq, show isS d [40, 41, 86] = bd from hbd, ← hbb])
  clear hbb HR3
  go_upto_region 15 with fail
  go_cut [77] from 64 to 77 (fun sl wx => sl = .bool bb ∧ w6 = wx)
  case first =>
    cases bi <;> cases bq <;> cases bc <;> cases bd <;>
    (have HBX := Lib.hid HBB.out
     go_wp2_with fail
     go_meet
     exact ⟨by rw [HBX.out] <;> rfl, rfl⟩)
  case rest =>
  obtain ⟨rfl, rfl⟩ := hcut
  cases bb
  rotate_left
  · have HR1 := Lib.hid (show R = 22 from HR5.out)
    go_wp2_with fail
    go_ret
    exact ⟨by rw [HR1.out]; rfl, K6.out⟩
  have HR4 := Lib.hid (show R = (if keys.contains (s, d) = true then 24 else if codeQ xa xh xs xl nC traps a.size = true then 25 else if traps.any (badC pool xh) = true then 20 else 0) from HR5.out)
  clear HR5 HBB hbi hbc hbq hbd hqn hdn
  go_wp2_with fail
  go_loopw [15] (fun sl wr => ∃ k : Nat, k ≤ i ∧ sl = .int .i64 k ∧ Kept w wr ∧ Blk wr w.heap.size 27 #[.int .i64 mi, .int .i64 ma, vP, .int .i64 ac, .int .i64 th, .int .i64 su, vI, vF, (.slice (some ⟨b1, o1, none⟩) nM kM)] ∧ Blk wr gf 52 #[.int .i64 xa, .int .i64 xn, .int .i64 xd, .bool xh, .int .i64 xs, .int .i64 xl, .slice aC nC kC, .slice aT nT kT] ∧ (keys.take k).contains (s, d) = false) (fun sl _ => i - (intOf sl).toNat)
  case atStart => exact ⟨0, by omega, rfl, K6.out, HB6.out, HX6.out, by simp⟩
  case round =>
  obtain ⟨k, hk, rfl, hkw, hbw, hxw, hno⟩ := hrel
  have KJ := Lib.hid hkw
  have HBJ := Lib.hid hbw
  have HXJ := Lib.hid hxw
  have HNO := Lib.hid hno
  clear hkw hbw hxw hno
  obtain ⟨wj, hwj⟩ : ∃ x, x = wr := ⟨_, rfl⟩
  subst hwj
  by_cases hki : k < i
  · obtain ⟨⟨⟨xa2, xn2, xd2, xh2, xs2, xl2, cod2, traps2⟩, vC2, vT2⟩, hx⟩ : ∃ x, mv[k]? = some x := ⟨_, List.getElem?_eq_getElem (by have := N1.out; omega)⟩
    obtain ⟨b2, o2, d2, hv2, j0, j1, j2, j3, j4, j5, j6, j7⟩ := meth_cells N1.out (HFD.out.kept KJ.out) hx
    simp only [Value.slice.injEq, Option.some.injEq, Addr.mk.injEq] at hv2
    obtain ⟨⟨rfl, rfl, -⟩, -, -⟩ := hv2
    dsimp only at j0 j1 j2 j3 j4 j5 j6 j7
    have hkI : (k : Int) < (nM : Int) := by omega
    have hkiI : (k : Int) < (i : Int) := by omega
    have hk0 : (0 : Int) ≤ (k : Int) := by omega
    obtain ⟨s1, hs1⟩ : ∃ s, s = (textC pool xn2).1 := ⟨_, rfl⟩
    obtain ⟨p1, hp1⟩ : ∃ s, s = (textC pool xn2).2 := ⟨_, rfl⟩
    obtain ⟨s2, hs2⟩ : ∃ s, s = (textC pool xd2).1 := ⟨_, rfl⟩
    obtain ⟨p2, hp2⟩ : ∃ s, s = (textC pool xd2).2 := ⟨_, rfl⟩
    have HNK := Lib.hid (show keys[k]? = some (s1, s2) by rw [HKS.out, List.getElem?_map, List.getElem?_take_of_lt hki, hx, hs1, hs2]; rfl)
    have HS1 := Lib.hid hs1
    have HP1 := Lib.hid hp1
    have HS2 := Lib.hid hs2
    have HP2 := Lib.hid hp2
    clear hs1 hp1 hs2 hp2 hx
    have c0 := HBJ.out.cell 0
    have c1 := HBJ.out.cell 1
    have c2 := HBJ.out.cell 2
    have c3 := HBJ.out.cell 3
    have c4 := HBJ.out.cell 4
    have c5 := HBJ.out.cell 5
    have c6 := HBJ.out.cell 6
    have c7 := HBJ.out.cell 7
    have c8 := HBJ.out.cell 8
    simp only [List.getElem?_toArray, List.getElem?_cons_succ, List.getElem?_cons_zero] at c0 c1 c2 c3 c4 c5 c6 c7 c8
    go_upto_region 20 with fail
    go_region_held2 (fun w' => w'.cell? ⟨w.heap.size, 0, none⟩ = some (.int .i64 mi) ∧ w'.cell? ⟨w.heap.size, 1, none⟩ = some (.int .i64 ma) ∧ w'.cell? ⟨w.heap.size, 2, none⟩ = some (vP) ∧ w'.cell? ⟨w.heap.size, 3, none⟩ = some (.int .i64 ac) ∧ w'.cell? ⟨w.heap.size, 4, none⟩ = some (.int .i64 th) ∧ w'.cell? ⟨w.heap.size, 5, none⟩ = some (.int .i64 su) ∧ w'.cell? ⟨w.heap.size, 6, none⟩ = some (vI) ∧ w'.cell? ⟨w.heap.size, 7, none⟩ = some (vF) ∧ w'.cell? ⟨w.heap.size, 8, none⟩ = some (.slice (some ⟨b1, o1, none⟩) nM kM) ∧ w'.cell? ⟨b1, o1 + k * 8 + 1, none⟩ = some (.int .i64 xn2)) (go_keep) (first
      | (go_at_call 39
         have kk : Kept wj wj.drew := kept_drewN (Below.refl _ wj) 1
         refine (ref5_Utf pool mi ma ac th su vP vI vF (.slice (some ⟨b1, o1, none⟩) nM kM) xn2 wj.drew (HRD.out.kept (Kept.trans KJ.out kk))).mono ?_
         rintro e wa ⟨he, hkq⟩
         rw [← HS1.out, ← HP1.out] at he
         subst he
         have kq := Kept.trans kk hkq
         have Kwa := Lib.hid (Kept.trans KJ.out kq)
         have HBwa := Lib.hid (HBJ.out.kept kq)
         have HXwa := Lib.hid (HXJ.out.kept kq)
         have j1 := Kept.cell kq j1
         have j2 := Kept.cell kq j2
         have c0 := HBwa.out.cell 0
         have c1 := HBwa.out.cell 1
         have c2 := HBwa.out.cell 2
         have c3 := HBwa.out.cell 3
         have c4 := HBwa.out.cell 4
         have c5 := HBwa.out.cell 5
         have c6 := HBwa.out.cell 6
         have c7 := HBwa.out.cell 7
         have c8 := HBwa.out.cell 8
         simp only [List.getElem?_toArray, List.getElem?_cons_succ, List.getElem?_cons_zero] at c0 c1 c2 c3 c4 c5 c6 c7 c8
         clear hkq kk kq))
    go_upto_region 21 with fail
    go_region_held2 (fun w' => w'.cell? ⟨w.heap.size, 0, none⟩ = some (.int .i64 mi) ∧ w'.cell? ⟨w.heap.size, 1, none⟩ = some (.int .i64 ma) ∧ w'.cell? ⟨w.heap.size, 2, none⟩ = some (vP) ∧ w'.cell? ⟨w.heap.size, 3, none⟩ = some (.int .i64 ac) ∧ w'.cell? ⟨w.heap.size, 4, none⟩ = some (.int .i64 th) ∧ w'.cell? ⟨w.heap.size, 5, none⟩ = some (.int .i64 su) ∧ w'.cell? ⟨w.heap.size, 6, none⟩ = some (vI) ∧ w'.cell? ⟨w.heap.size, 7, none⟩ = some (vF) ∧ w'.cell? ⟨w.heap.size, 8, none⟩ = some (.slice (some ⟨b1, o1, none⟩) nM kM) ∧ w'.cell? ⟨b1, o1 + k * 8 + 2, none⟩ = some (.int .i64 xd2)) (go_keep) (first
      | (go_at_call 39
         have kk : Kept wa wa.drew := kept_drewN (Below.refl _ wa) 1
         refine (ref5_Utf pool mi ma ac th su vP vI vF (.slice (some ⟨b1, o1, none⟩) nM kM) xd2 wa.drew (HRD.out.kept (Kept.trans Kwa.out kk))).mono ?_
         rintro e wb ⟨he, hkq⟩
         rw [← HS2.out, ← HP2.out] at he
         subst he
         have kq := Kept.trans kk hkq
         have Kwb := Lib.hid (Kept.trans Kwa.out kq)
         have HBwb := Lib.hid (HBwa.out.kept kq)
         have HXwb := Lib.hid (HXwa.out.kept kq)
         have j1 := Kept.cell kq j1
         have j2 := Kept.cell kq j2
         have c0 := HBwb.out.cell 0
         have c1 := HBwb.out.cell 1
         have c2 := HBwb.out.cell 2
         have c3 := HBwb.out.cell 3
         have c4 := HBwb.out.cell 4
         have c5 := HBwb.out.cell 5
         have c6 := HBwb.out.cell 6
         have c7 := HBwb.out.cell 7
         have c8 := HBwb.out.cell 8
         simp only [List.getElem?_toArray, List.getElem?_cons_succ, List.getElem?_cons_zero] at c0 c1 c2 c3 c4 c5 c6 c7 c8
         clear hkq kk kq))

    by_cases heq : (s1, s2) = (s, d)
    · have HR6 := Lib.hid (show R = 24 by
        rw [HR4.out, if_pos]
        rw [List.contains_iff_mem, ← heq]
        exact List.mem_of_getElem? HNK.out)
      obtain ⟨e1, e2⟩ := Prod.mk.inj heq
      have hq1 : (s1.toList == s.toList) = true := by rw [e1]; simp
      have hq2 : (s2.toList == d.toList) = true := by rw [e2]; simp
      clear heq e1 e2
      go_wp2_with fail
      go_ret
      exact ⟨by rw [HR6.out]; rfl, Kwb.out⟩
    · have HN2 := Lib.hid (show (keys.take (k + 1)).contains (s, d) = false by
        have h := HNO.out
        rw [List.take_add_one, HNK.out]
        simp only [List.contains_eq_mem, List.mem_append, Option.toList, List.mem_singleton] at h ⊢
        simp only [decide_eq_false_iff_not] at h ⊢
        rintro (h' | h')
        · exact h h'
        · exact heq h'.symm)
      by_cases e1 : s1 = s
      · have hq1 : (s1.toList == s.toList) = true := by rw [e1]; simp
        have hq2 : (s2.toList == d.toList) = false := by
          rw [beq_eq_false_iff_ne]
          intro e
          rw [ByteArray.toList_eq, ByteArray.toList_eq] at e
          exact heq (by rw [e1, ByteArray.ext (Array.toList_inj.1 e)])
        clear heq e1
        go_wp2_with fail
        go_roundw
        case rel => exact ⟨k + 1, by omega, by go_num, Kwb.out, HBwb.out, HXwb.out, HN2.out⟩
        case measure => simp [intOf]; omega
      · have hq1 : (s1.toList == s.toList) = false := by
          rw [beq_eq_false_iff_ne]
          intro e
          rw [ByteArray.toList_eq, ByteArray.toList_eq] at e
          exact e1 (ByteArray.ext (Array.toList_inj.1 e))
        clear heq e1
        go_wp2_with fail
        go_roundw
        case rel => exact ⟨k + 1, by omega, by go_num, Kwb.out, HBwb.out, HXwb.out, HN2.out⟩
        case measure => simp [intOf]; omega
  obtain rfl : k = i := by omega
  have HNO2 := Lib.hid (show keys.contains (s, d) = false by
    have h := HNO.out
    rw [List.take_of_length_le (by rw [HKS.out, List.length_map, List.length_take]; omega)] at h
    exact h)
  have HRC := Lib.hid (show R = codeE xa xh xs xl nC pool traps a.size by
    rw [HR4.out, if_neg]
    · rfl
    · rw [HNO2.out]
      decide)
  have c0 := HBJ.out.cell 0
  have c1 := HBJ.out.cell 1
  have c2 := HBJ.out.cell 2
  have c3 := HBJ.out.cell 3
  have c4 := HBJ.out.cell 4
  have c5 := HBJ.out.cell 5
  have c6 := HBJ.out.cell 6
  have c7 := HBJ.out.cell 7
  have c8 := HBJ.out.cell 8
  simp only [List.getElem?_toArray, List.getElem?_cons_succ, List.getElem?_cons_zero] at c0 c1 c2 c3 c4 c5 c6 c7 c8
  have x0 := HXJ.out.cell 0
  have x1 := HXJ.out.cell 1
  have x2 := HXJ.out.cell 2
  have x3 := HXJ.out.cell 3
  have x4 := HXJ.out.cell 4
  have x5 := HXJ.out.cell 5
  have x6 := HXJ.out.cell 6
  have x7 := HXJ.out.cell 7
  simp only [List.getElem?_toArray, List.getElem?_cons_succ, List.getElem?_cons_zero] at x0 x1 x2 x3 x4 x5 x6 x7
  have C := ref5_code xa xn xd xh xs xl aC aT nC kC nT kT traps pool mi ma ac th su vP vI vF (.slice (some ⟨b1, o1, none⟩) nM kM) a.size wj (HRD.out.kept KJ.out) ha255 hl (HMT.out.kept KJ.out) HNT.out
  rw [← HRC.out] at C
  go_upto_region 24 with fail
  go_wp2_with fail
  refine C.mono ?_
  rintro e wk ⟨rfl, hkk⟩
  have KK := Lib.hid (Kept.trans KJ.out hkk)
  clear hkk C
  go_wp2_with fail
  go_ret
  exact ⟨rfl, KK.out⟩
end Go.Proofs.Ytcklmhbcjgiplaa

namespace Go.Proofs.Ytcklmhbcjgiplaa
set_option linter.unusedVariables false
set_option linter.unusedSimpArgs false
open Go.RowKit
set_option maxRecDepth 100000

theorem headE_PU (c : ClassC) : headE c = headP c.pool c.access c.this c.super c.ifaces := rfl
theorem poolE_consU (pool : List ConstC) (x : ConstC) (l : List ConstC) : poolE pool (x :: l) = if constE pool x = 0 then poolE pool l else constE pool x := rfl
theorem fieldsE_consU (pool : List ConstC) (ac : Int) (seen : List (ByteArray × ByteArray)) (f : FieldC) (l : List FieldC) : fieldsE pool ac seen (f :: l) = if fieldE pool ac seen f = 0 then fieldsE pool ac (seen ++ [keyC pool f.name f.desc]) l else fieldE pool ac seen f := rfl
theorem methsE_consU (pool : List ConstC) (ac : Int) (seen : List (ByteArray × ByteArray)) (f : MethC) (l : List MethC) : methsE pool ac seen (f :: l) = if methE pool ac seen f = 0 then methsE pool ac (seen ++ [keyC pool f.name f.desc]) l else methE pool ac seen f := rfl
theorem drop_atU {α : Type} {l : List α} {k : Nat} {x : α} (h : l[k]? = some x) : l.drop k = x :: l.drop (k + 1) := by
  obtain ⟨hl, rfl⟩ := List.getElem?_eq_some_iff.1 h
  exact List.drop_eq_getElem_cons hl
/-- What is known at the head of the fields' loop, of the methods' loop. -/
def LoopF (R E : Int) (pool : List ConstC) (ac : Int) (fs : List FieldC) (i : Nat) (M : Int) : Prop :=
  (E ≠ 0 ∧ R = E) ∨ (E = 0 ∧ R = if fieldsE pool ac ((fs.take i).map fun g => keyC pool g.name g.desc) (fs.drop i) ≠ 0 then fieldsE pool ac ((fs.take i).map fun g => keyC pool g.name g.desc) (fs.drop i) else M)
def LoopM (R E : Int) (pool : List ConstC) (ac : Int) (ms : List (MethC × Value × Value)) (i : Nat) : Prop :=
  (E ≠ 0 ∧ R = E) ∨ (E = 0 ∧ R = methsE pool ac ((ms.take i).map fun g => keyC pool g.1.name g.1.desc) ((ms.drop i).map fun x => x.1))
theorem LoopF.step {R M ac : Int} {pool : List ConstC} {fs : List FieldC} {i : Nat} {f : FieldC} (h : LoopF R 0 pool ac fs i M) (hf : fs[i]? = some f) : LoopF R (fieldE pool ac ((fs.take i).map fun g => keyC pool g.name g.desc) f) pool ac fs (i + 1) M := by
  rcases h with ⟨h, _⟩ | ⟨_, h⟩
  · exact absurd rfl h
  · rw [drop_atU hf, fieldsE_consU] at h
    by_cases h0 : fieldE pool ac ((fs.take i).map fun g => keyC pool g.name g.desc) f = 0
    · right
      refine ⟨h0, ?_⟩
      rw [if_pos h0] at h
      rw [List.take_add_one, hf, List.map_append]
      exact h
    · left
      refine ⟨h0, ?_⟩
      rw [if_neg h0, if_pos h0] at h
      exact h
theorem LoopM.step {R ac : Int} {pool : List ConstC} {ms : List (MethC × Value × Value)} {i : Nat} {f : MethC × Value × Value} (h : LoopM R 0 pool ac ms i) (hf : ms[i]? = some f) : LoopM R (methE pool ac ((ms.take i).map fun g => keyC pool g.1.name g.1.desc) f.1) pool ac ms (i + 1) := by
  rcases h with ⟨h, _⟩ | ⟨_, h⟩
  · exact absurd rfl h
  · rw [drop_atU hf, List.map_cons, methsE_consU] at h
    by_cases h0 : methE pool ac ((ms.take i).map fun g => keyC pool g.1.name g.1.desc) f.1 = 0
    · right
      refine ⟨h0, ?_⟩
      rw [if_pos h0] at h
      rw [List.take_add_one, hf, List.map_append]
      exact h
    · left
      refine ⟨h0, ?_⟩
      rw [if_neg h0] at h
      exact h
theorem LoopF.end_ {R E M ac : Int} {pool : List ConstC} {fs : List FieldC} {i : Nat} (h : LoopF R E pool ac fs i M) (hi : fs.length ≤ i ∨ E ≠ 0) : (E ≠ 0 ∧ R = E) ∨ (E = 0 ∧ R = M) := by
  rcases h with h | ⟨h, hr⟩
  · exact .inl h
  · rcases hi with hi | hi
    · right
      rw [List.drop_of_length_le hi] at hr
      exact ⟨h, hr⟩
    · exact absurd h hi
theorem LoopM.end_ {R E ac : Int} {pool : List ConstC} {ms : List (MethC × Value × Value)} {i : Nat} (h : LoopM R E pool ac ms i) (hi : ms.length ≤ i ∨ E ≠ 0) : E = R := by
  rcases h with h | ⟨h, hr⟩
  · exact h.2.symm
  · rcases hi with hi | hi
    · rw [List.drop_of_length_le hi] at hr
      rw [h, hr]
      rfl
    · exact absurd h hi
set_option maxHeartbeats 16000000 in
theorem ref5_Check (c : ClassC) (mv : List (MethC × Value × Value)) (vP vI vF vM : Value) (w : World) (h : CRd w c mv vP vI vF vM) (hs : ∀ k ∈ c.pool, k.text.size ≤ maxLen) :
    Calls Try.prog 38 #[.agg (classV c vP vI vF vM).toArray] w (IntG (checkE c) w) := by
  have HC := Lib.hid h
  have HTX := Lib.hid hs
  clear hs
  obtain ⟨aP, kP, aI, kI, aF, kF, aM, kM, rfl, rfl, rfl, rfl⟩ := h.forms
  obtain ⟨nP, hnP⟩ : ∃ n, n = c.pool.length := ⟨_, rfl⟩
  obtain ⟨nI, hnI⟩ : ∃ n, n = c.ifaces.length := ⟨_, rfl⟩
  obtain ⟨nF, hnF⟩ : ∃ n, n = c.fields.length := ⟨_, rfl⟩
  obtain ⟨nM, hnM⟩ : ∃ n, n = mv.length := ⟨_, rfl⟩
  change Calls Try.prog 38 #[.agg #[.int .i64 c.minor, .int .i64 c.major, .slice aP c.pool.length kP, .int .i64 c.access, .int .i64 c.this, .int .i64 c.super, .slice aI c.ifaces.length kI, .slice aF c.fields.length kF, .slice aM mv.length kM]] w _
  have HMS := Lib.hid h.ms
  rw [← hnP, ← hnI, ← hnF, ← hnM] at h ⊢
  have r1 := h.p
  have r2 := h.i
  have r3 := h.f
  have r4 := h.m
  rw [← hnP] at r1
  rw [← hnI] at r2
  rw [← hnF] at r3
  rw [← hnM] at r4
  have m1 : nP ≤ 9223372036854775807 := by obtain ⟨_, _, _, e, q1, q2, _⟩ := r1; cases e; omega
  have m2 : nI ≤ 9223372036854775807 := by obtain ⟨_, _, _, e, q1, q2, _⟩ := r2; cases e; omega
  have m3 : nF ≤ 9223372036854775807 := by obtain ⟨_, _, _, e, q1, q2, _⟩ := r3; cases e; omega
  have m4 : nM ≤ 9223372036854775807 := by obtain ⟨_, _, _, e, q1, q2, _⟩ := r4; cases e; omega
  have N1 := Lib.hid hnP
  have N2 := Lib.hid hnI
  have N3 := Lib.hid hnF
  have N4 := Lib.hid hnM
  clear hnP hnI hnF hnM
  have hk : Kept w (w.alloc (.cells #[.int .i64 c.minor, .int .i64 c.major, .slice aP nP kP, .int .i64 c.access, .int .i64 c.this, .int .i64 c.super, .slice aI nI kI, .slice aF nF kF, .slice aM nM kM] 27)) := (Below.refl _ _).alloc (Nat.le_refl _) _
  have HK := Lib.hid hk
  have HPP := Lib.hid (r1.kept hk)
  have HII := Lib.hid (r2.kept hk)
  have HFF := Lib.hid (r3.kept hk)
  have HMM := Lib.hid (r4.kept hk)
  have HRR := Lib.hid (fun x hx => (h.r x hx).kept hk)
  clear r1 r2 r3 r4
  have HB := Lib.hid (Blk.new w 27 #[.int .i64 c.minor, .int .i64 c.major, .slice aP nP kP, .int .i64 c.access, .int .i64 c.this, .int .i64 c.super, .slice aI nI kI, .slice aF nF kF, .slice aM nM kM])
  have HH := Lib.hid (show w.heap.size < (w.alloc (.cells #[.int .i64 c.minor, .int .i64 c.major, .slice aP nP kP, .int .i64 c.access, .int .i64 c.this, .int .i64 c.super, .slice aI nI kI, .slice aF nF kF, .slice aM nM kM] 27)).heap.size by simp)
  clear hk h
  have HPL := Lib.hid (show Rd w 5 (.slice aP nP kP) c.pool.length (c.pool.flatMap encC) by have := HC.out.p; rw [← N1.out] at this ⊢; exact this)
  obtain ⟨R, hR⟩ : ∃ r, r = checkE c := ⟨_, rfl⟩
  rw [← hR]
  unfold checkE at hR
  have HR0 := Lib.hid hR
  clear hR
  go_enter Try.func38, Try.ntmps38
  go_upto_region 1 with fail
  generalize (w.alloc (.cells #[.int .i64 c.minor, .int .i64 c.major, .slice aP nP kP, .int .i64 c.access, .int .i64 c.this, .int .i64 c.super, .slice aI nI kI, .slice aF nF kF, .slice aM nM kM] 27)) = W at *
  have c0 := HB.out.cell 0
  have c1 := HB.out.cell 1
  have c2 := HB.out.cell 2
  have c3 := HB.out.cell 3
  have c4 := HB.out.cell 4
  have c5 := HB.out.cell 5
  have c6 := HB.out.cell 6
  have c7 := HB.out.cell 7
  have c8 := HB.out.cell 8
  simp only [List.getElem?_toArray, List.getElem?_cons_succ, List.getElem?_cons_zero] at c0 c1 c2 c3 c4 c5 c6 c7 c8
  have C := ref5_long c mv _ _ _ _ W (HC.out.kept HK.out)
  rw [← N1.out, ← N2.out, ← N3.out, ← N4.out] at C
  unfold BoolG at C
  obtain ⟨mb, hmb⟩ : ∃ b, b = muchB c := ⟨_, rfl⟩
  rw [← hmb] at C
  have HMB := Lib.hid hmb
  clear hmb
  go_wp2_with fail
  refine C.mono ?_
  rintro e w1 ⟨rfl, hk1⟩
  have K1 := Lib.hid (Kept.trans HK.out hk1)
  have HB1 := Lib.hid (HB.out.kept hk1)
  clear hk1 C c0 c1 c2 c3 c4 c5 c6 c7 c8 HPP HII HFF HMM HRR HH
  cases mb
  rotate_left
  · have HR1 := Lib.hid (show R = 2 by rw [HR0.out, ← HMB.out, if_pos rfl])
    go_wp2_with fail
    go_ret
    exact ⟨by rw [HR1.out]; rfl, K1.out⟩
  have HR1 := Lib.hid (show R = if c.major < 45 ∨ 52 < c.major then 12 else if poolE c.pool c.pool ≠ 0 then poolE c.pool c.pool else if headE c ≠ 0 then headE c else if fieldsE c.pool c.access [] c.fields ≠ 0 then fieldsE c.pool c.access [] c.fields else methsE c.pool c.access [] c.methods by rw [HR0.out, ← HMB.out, if_neg (by decide)])
  have d1 := HB1.out.cell 1
  simp only [List.getElem?_toArray, List.getElem?_cons_succ, List.getElem?_cons_zero] at d1
  by_cases v1 : c.major < 45
  · have HR2 := Lib.hid (show R = 12 by rw [HR1.out, if_pos (.inl v1)])
    go_wp2_with fail
    go_ret
    exact ⟨by rw [HR2.out]; rfl, K1.out⟩
  by_cases v2 : 52 < c.major
  · have HR2 := Lib.hid (show R = 12 by rw [HR1.out, if_pos (.inr v2)])
    go_wp2_with fail
    go_ret
    exact ⟨by rw [HR2.out]; rfl, K1.out⟩
  have HR2 := Lib.hid (show R = if poolE c.pool c.pool ≠ 0 then poolE c.pool c.pool else if headE c ≠ 0 then headE c else if fieldsE c.pool c.access [] c.fields ≠ 0 then fieldsE c.pool c.access [] c.fields else methsE c.pool c.access [] c.methods by rw [HR1.out, if_neg (by omega)])
  have HN64 := Lib.hid (show nP ≤ 1024 ∧ nI ≤ 64 ∧ nF ≤ 64 ∧ nM ≤ 64 ∧ ∀ x ∈ mv, x.1.code.length ≤ 4096 by
    have hm := HMB.out.symm
    rw [muchB_mv HMS.out] at hm
    simp only [Bool.or_eq_false_iff, decide_eq_false_iff_not] at hm
    have := N1.out; have := N2.out; have := N3.out; have := N4.out
    refine ⟨by omega, by omega, by omega, by omega, fun x hx => ?_⟩
    have h := List.any_eq_false.1 hm.2 x hx
    simp only [muchM, Bool.or_eq_true, decide_eq_true_eq, not_or] at h
    omega)
  go_upto_region 6 with fail
  clear v1 v2 d1
  go_wp2_with fail
  go_loopw [4] (fun s wr => ∃ k : Nat, k ≤ nP ∧ s = .int .i64 k ∧ Kept w wr ∧ Blk wr w.heap.size 27 #[.int .i64 c.minor, .int .i64 c.major, .slice aP nP kP, .int .i64 c.access, .int .i64 c.this, .int .i64 c.super, .slice aI nI kI, .slice aF nF kF, .slice aM nM kM] ∧ poolE c.pool c.pool = poolE c.pool (c.pool.drop k)) (fun s _ => nP - (intOf s).toNat)
  case atStart => exact ⟨0, Nat.zero_le _, rfl, K1.out, HB1.out, rfl⟩
  case round =>
  obtain ⟨k, hk, rfl, hkw, hbw, hpe⟩ := hrel
  have KW := Lib.hid hkw
  have HBW := Lib.hid hbw
  have HPE := Lib.hid hpe
  clear hkw hbw hpe
  by_cases hlt : k < nP
  · have HPX := Lib.hid (show Rd wr 5 (.slice aP nP kP) nP (c.pool.flatMap encC) by have := HPL.out.kept KW.out; rw [← N1.out] at this; exact this)
    obtain ⟨x, hx⟩ : ∃ x, c.pool[k]? = some x := ⟨_, List.getElem?_eq_getElem (by have := N1.out; omega)⟩
    obtain ⟨b1, o1, d1, hv1, e0, e1, e2, e3, e4⟩ := const_cells N1.out HPX.out hx
    simp only [Value.slice.injEq] at hv1
    obtain ⟨rfl, -, rfl⟩ := hv1
    have hkI : (k : Int) < (nP : Int) := by omega
    have h0I : (0 : Int) ≤ (k : Int) := by omega
    have HX := Lib.hid hx
    have hdr := drop_atU hx
    have HPD := Lib.hid (show poolE c.pool c.pool = if constE c.pool x = 0 then poolE c.pool (c.pool.drop (k + 1)) else constE c.pool x by rw [HPE.out, hdr, poolE_consU])
    clear hx hdr
    have c0 := HBW.out.cell 0
    have c1 := HBW.out.cell 1
    have c2 := HBW.out.cell 2
    have c3 := HBW.out.cell 3
    have c4 := HBW.out.cell 4
    have c5 := HBW.out.cell 5
    have c6 := HBW.out.cell 6
    have c7 := HBW.out.cell 7
    have c8 := HBW.out.cell 8
    simp only [List.getElem?_toArray, List.getElem?_cons_succ, List.getElem?_cons_zero] at c0 c1 c2 c3 c4 c5 c6 c7 c8
    obtain ⟨q, hq⟩ : ∃ q, q = constE c.pool x := ⟨_, rfl⟩
    rw [← hq] at HPD
    have HQ := Lib.hid hq
    clear hq
    go_upto_region 9 with fail
    go_region_held2 (fun w' => w'.cell? ⟨w.heap.size, 0, none⟩ = some (.int .i64 c.minor) ∧ w'.cell? ⟨w.heap.size, 1, none⟩ = some (.int .i64 c.major) ∧ w'.cell? ⟨w.heap.size, 2, none⟩ = some (.slice (some ⟨b1, o1, none⟩) nP kP) ∧ w'.cell? ⟨w.heap.size, 3, none⟩ = some (.int .i64 c.access) ∧ w'.cell? ⟨w.heap.size, 4, none⟩ = some (.int .i64 c.this) ∧ w'.cell? ⟨w.heap.size, 5, none⟩ = some (.int .i64 c.super) ∧ w'.cell? ⟨w.heap.size, 6, none⟩ = some (.slice aI nI kI) ∧ w'.cell? ⟨w.heap.size, 7, none⟩ = some (.slice aF nF kF) ∧ w'.cell? ⟨w.heap.size, 8, none⟩ = some (.slice aM nM kM) ∧ w'.cell? ⟨b1, o1 + k * 5, none⟩ = some (.int .i64 x.tag) ∧ w'.cell? ⟨b1, o1 + k * 5 + 1, none⟩ = some (.string x.text) ∧ w'.cell? ⟨b1, o1 + k * 5 + 2, none⟩ = some (.int .i64 x.num) ∧ w'.cell? ⟨b1, o1 + k * 5 + 3, none⟩ = some (.int .i64 x.a) ∧ w'.cell? ⟨b1, o1 + k * 5 + 4, none⟩ = some (.int .i64 x.b)) (go_keep) (first
      | (go_at_call 78
         have kk : Kept wr wr.drew := kept_drewN (Below.refl _ wr) 1
         refine (ref5_constant c.pool c.minor c.major c.access c.this c.super _ (.slice aI nI kI) (.slice aF nF kF) (.slice aM nM kM) x wr.drew (HPL.out.kept (Kept.trans KW.out kk)) HTX.out).mono ?_
         rintro e w9 ⟨he, hk9⟩
         rw [← HQ.out] at he
         subst he
         have kq := Kept.trans kk hk9
         have K9 := Lib.hid (Kept.trans KW.out kq)
         have HB9 := Lib.hid (HBW.out.kept kq)
         have e0 := Kept.cell kq e0
         have e1 := Kept.cell kq e1
         have e2 := Kept.cell kq e2
         have e3 := Kept.cell kq e3
         have e4 := Kept.cell kq e4
         have f0 := HB9.out.cell 0
         have f1 := HB9.out.cell 1
         have f2 := HB9.out.cell 2
         have f3 := HB9.out.cell 3
         have f4 := HB9.out.cell 4
         have f5 := HB9.out.cell 5
         have f6 := HB9.out.cell 6
         have f7 := HB9.out.cell 7
         have f8 := HB9.out.cell 8
         simp only [List.getElem?_toArray, List.getElem?_cons_succ, List.getElem?_cons_zero] at f0 f1 f2 f3 f4 f5 f6 f7 f8
         clear hk9 kk kq))
    by_cases hz : q = 0
    · subst hz
      have HPN := Lib.hid (show poolE c.pool c.pool = poolE c.pool (c.pool.drop (k + 1)) by rw [HPD.out, if_pos rfl])
      go_wp2_with fail
      go_roundw
      case rel => exact ⟨k + 1, by omega, by go_num, K9.out, HB9.out, HPN.out⟩
      case measure => simp [intOf]; omega
    · have hqn : (q != 0) = true := by simpa using hz
      have HPN := Lib.hid (show R = q by rw [HR2.out, HPD.out, if_neg hz, if_pos hz])
      clear hz
      go_wp2_with fail
      go_ret
      exact ⟨by rw [HPN.out]; rfl, K9.out⟩
  obtain rfl : k = nP := by omega
  have HP0 := Lib.hid (show poolE c.pool c.pool = 0 by rw [HPE.out, List.drop_of_length_le (by have := N1.out; omega)]; rfl)
  have HR3 := Lib.hid (show R = if headE c ≠ 0 then headE c else if fieldsE c.pool c.access [] c.fields ≠ 0 then fieldsE c.pool c.access [] c.fields else methsE c.pool c.access [] c.methods by rw [HR2.out, if_neg (fun h => h HP0.out)])
  have c0 := HBW.out.cell 0
  have c1 := HBW.out.cell 1
  have c2 := HBW.out.cell 2
  have c3 := HBW.out.cell 3
  have c4 := HBW.out.cell 4
  have c5 := HBW.out.cell 5
  have c6 := HBW.out.cell 6
  have c7 := HBW.out.cell 7
  have c8 := HBW.out.cell 8
  simp only [List.getElem?_toArray, List.getElem?_cons_succ, List.getElem?_cons_zero] at c0 c1 c2 c3 c4 c5 c6 c7 c8
  have hIr : Rd wr 1 (.slice aI nI kI) c.ifaces.length (c.ifaces.flatMap encI) := by
    have := HC.out.i.kept KW.out
    rw [← N2.out] at this ⊢
    exact this
  have C := ref5_head c.pool c.minor c.major c.access c.this c.super (.slice aP k kP) (.slice aI nI kI) (.slice aF nF kF) (.slice aM nM kM) c.ifaces wr (HPL.out.kept KW.out) hIr HTX.out (by rw [← N2.out]; exact HN64.out.2.1) HP0.out
  rw [← headE_PU] at C
  clear hIr
  unfold IntG at C
  obtain ⟨q, hq⟩ : ∃ q, q = headE c := ⟨_, rfl⟩
  rw [← hq] at C
  have HQ := Lib.hid hq
  clear hq
  go_upto_region 12 with fail
  go_wp2_with fail
  refine C.mono ?_
  rintro e w9 ⟨rfl, hk9⟩
  have K9 := Lib.hid (Kept.trans KW.out hk9)
  have HB9 := Lib.hid (HBW.out.kept hk9)
  obtain ⟨M, hM⟩ : ∃ M, M = methsE c.pool c.access [] c.methods := ⟨_, rfl⟩
  have HM := Lib.hid hM
  have HLF := Lib.hid (show LoopF R q c.pool c.access c.fields 0 M by
    have h := HR3.out
    rw [← HQ.out, ← hM] at h
    by_cases hq : q = 0
    · right
      rw [if_neg (fun hn => hn hq)] at h
      exact ⟨hq, h⟩
    · left
      rw [if_pos hq] at h
      exact ⟨hq, h⟩)
  clear hk9 C hM c0 c1 c2 c3 c4 c5 c6 c7 c8
  go_wp2_with fail
  go_loopw [6, 7] (fun s6 s7 wr => ∃ (i : Nat) (E : Int), i ≤ nF ∧ s7 = .int .i64 i ∧ s6 = .int .i64 E ∧ Kept w wr ∧ Blk wr w.heap.size 27 #[.int .i64 c.minor, .int .i64 c.major, .slice aP k kP, .int .i64 c.access, .int .i64 c.this, .int .i64 c.super, .slice aI nI kI, .slice aF nF kF, .slice aM nM kM] ∧ LoopF R E c.pool c.access c.fields i M) (fun _ s7 _ => nF - (intOf s7).toNat)
  case atStart => exact ⟨0, q, Nat.zero_le _, rfl, rfl, K9.out, HB9.out, HLF.out⟩
  case round =>
  rename World => wr
  obtain ⟨i, E, hi, rfl, rfl, hkw, hbw, hlf⟩ := hrel
  have KW2 := Lib.hid hkw
  have HBW2 := Lib.hid hbw
  have HLF2 := Lib.hid hlf
  clear hkw hbw hlf
  have c0 := HBW2.out.cell 0
  have c1 := HBW2.out.cell 1
  have c2 := HBW2.out.cell 2
  have c3 := HBW2.out.cell 3
  have c4 := HBW2.out.cell 4
  have c5 := HBW2.out.cell 5
  have c6 := HBW2.out.cell 6
  have c7 := HBW2.out.cell 7
  have c8 := HBW2.out.cell 8
  simp only [List.getElem?_toArray, List.getElem?_cons_succ, List.getElem?_cons_zero] at c0 c1 c2 c3 c4 c5 c6 c7 c8
  go_upto_region 14 with fail
  go_cut [47] from 39 to 47 (fun s wx => s = .bool (decide (i < nF ∧ E = 0)) ∧ wr = wx)
  case first =>
    by_cases hlt2 : i < nF
    · have hltI : (i : Int) < (nF : Int) := by omega
      cases hz : (E == 0)
      · have hz0 : ¬ E = 0 := by simpa using hz
        go_wp2_with fail
        go_meet
        exact ⟨by simp [hlt2, hz0], rfl⟩
      · have hz0 : E = 0 := by simpa using hz
        go_wp2_with fail
        go_meet
        exact ⟨by simp [hlt2, hz0], rfl⟩
    · have hltI : ¬ (i : Int) < (nF : Int) := by omega
      go_wp2_with fail
      go_meet
      exact ⟨by simp [hlt2], rfl⟩
  case rest =>
  obtain ⟨rfl, rfl⟩ := hcut
  obtain ⟨bb, hbb⟩ : ∃ b, b = decide (i < nF ∧ E = 0) := ⟨_, rfl⟩
  rw [← hbb]
  have HBB := Lib.hid hbb
  clear hbb
  cases bb
  rotate_left
  · have hb := of_decide_eq_true HBB.out.symm
    obtain ⟨hlt2, rfl⟩ := hb
    obtain ⟨f, hf⟩ : ∃ x, c.fields[i]? = some x := ⟨_, List.getElem?_eq_getElem (by have := N3.out; omega)⟩
    have hFr : Rd wr 4 (.slice aF nF kF) c.fields.length (c.fields.flatMap encF) := by
      have := HC.out.f.kept KW2.out
      rw [← N3.out] at this ⊢
      exact this
    have C := ref5_field c.pool c.minor c.major c.access c.this c.super (.slice aP k kP) (.slice aI nI kI) (.slice aF nF kF) (.slice aM nM kM) c.fields i f wr (HPL.out.kept KW2.out) hFr HTX.out hf
    have hst := LoopF.step HLF2.out hf
    unfold IntG at C
    obtain ⟨q2, hq2⟩ : ∃ q, q = fieldE c.pool c.access ((c.fields.take i).map fun g => keyC c.pool g.name g.desc) f := ⟨_, rfl⟩
    rw [← hq2] at C hst
    have HST := Lib.hid hst
    clear hst hq2 hFr hf
    go_wp2_with fail
    refine C.mono ?_
    rintro e w10 ⟨rfl, hk10⟩
    have K10 := Lib.hid (Kept.trans KW2.out hk10)
    have HB10 := Lib.hid (HBW2.out.kept hk10)
    clear hk10 C
    go_wp2_with fail
    go_roundw
    case rel => exact ⟨i + 1, q2, by omega, by go_num, rfl, K10.out, HB10.out, HST.out⟩
    case measure => simp [intOf]; omega
  have hb := of_decide_eq_false HBB.out.symm
  have HEF := Lib.hid (LoopF.end_ HLF2.out (by rw [← N3.out]; by_cases hE : E = 0; exact .inl (by omega); exact .inr hE))
  have HLM := Lib.hid (show LoopM R E c.pool c.access mv 0 by
    rcases HEF.out with h | ⟨h, hr⟩
    · exact .inl h
    · refine .inr ⟨h, ?_⟩
      rw [hr, HM.out, HMS.out]
      rfl)
  clear hb
  go_wp2_with fail
  go_loopw [6, 8] (fun s6 s8 wr => ∃ (j : Nat) (E : Int), j ≤ nM ∧ s8 = .int .i64 j ∧ s6 = .int .i64 E ∧ Kept w wr ∧ Blk wr w.heap.size 27 #[.int .i64 c.minor, .int .i64 c.major, .slice aP k kP, .int .i64 c.access, .int .i64 c.this, .int .i64 c.super, .slice aI nI kI, .slice aF nF kF, .slice aM nM kM] ∧ LoopM R E c.pool c.access mv j) (fun _ s8 _ => nM - (intOf s8).toNat)
  case atStart => exact ⟨0, E, Nat.zero_le _, rfl, rfl, KW2.out, HBW2.out, HLM.out⟩
  case round =>
  rename World => wr
  obtain ⟨j, E, hj, rfl, rfl, hkw, hbw, hlf⟩ := hrel
  have KW3 := Lib.hid hkw
  have HBW3 := Lib.hid hbw
  have HLM3 := Lib.hid hlf
  clear hkw hbw hlf c0 c1 c2 c3 c4 c5 c6 c7 c8
  have c0 := HBW3.out.cell 0
  have c1 := HBW3.out.cell 1
  have c2 := HBW3.out.cell 2
  have c3 := HBW3.out.cell 3
  have c4 := HBW3.out.cell 4
  have c5 := HBW3.out.cell 5
  have c6 := HBW3.out.cell 6
  have c7 := HBW3.out.cell 7
  have c8 := HBW3.out.cell 8
  simp only [List.getElem?_toArray, List.getElem?_cons_succ, List.getElem?_cons_zero] at c0 c1 c2 c3 c4 c5 c6 c7 c8
  go_upto_region 18 with fail
  go_cut [61] from 53 to 61 (fun s wx => s = .bool (decide (j < nM ∧ E = 0)) ∧ wr = wx)
  case first =>
    by_cases hlt2 : j < nM
    · have hltI : (j : Int) < (nM : Int) := by omega
      cases hz : (E == 0)
      · have hz0 : ¬ E = 0 := by simpa using hz
        go_wp2_with fail
        go_meet
        exact ⟨by simp [hlt2, hz0], rfl⟩
      · have hz0 : E = 0 := by simpa using hz
        go_wp2_with fail
        go_meet
        exact ⟨by simp [hlt2, hz0], rfl⟩
    · have hltI : ¬ (j : Int) < (nM : Int) := by omega
      go_wp2_with fail
      go_meet
      exact ⟨by simp [hlt2], rfl⟩
  case rest =>
  obtain ⟨rfl, rfl⟩ := hcut
  obtain ⟨bb, hbb⟩ : ∃ b, b = decide (j < nM ∧ E = 0) := ⟨_, rfl⟩
  rw [← hbb]
  have HBB2 := Lib.hid hbb
  clear hbb
  cases bb
  rotate_left
  · have hb := of_decide_eq_true HBB2.out.symm
    obtain ⟨hlt2, rfl⟩ := hb
    obtain ⟨f, hf⟩ : ∃ x, mv[j]? = some x := ⟨_, List.getElem?_eq_getElem (by have := N4.out; omega)⟩
    have hMr : Rd wr 8 (.slice aM nM kM) mv.length (mv.flatMap encM) := by
      have := HC.out.m.kept KW3.out
      rw [← N4.out] at this ⊢
      exact this
    have C := ref5_method c.pool c.minor c.major c.access c.this c.super (.slice aP k kP) (.slice aI nI kI) (.slice aF nF kF) (.slice aM nM kM) mv j f wr (HPL.out.kept KW3.out) hMr HTX.out hf ((HC.out.r f (List.mem_of_getElem? hf)).kept KW3.out) (Nat.le_trans (HN64.out.2.2.2.2 f (List.mem_of_getElem? hf)) (by omega))
    have hst := LoopM.step HLM3.out hf
    unfold IntG at C
    obtain ⟨q2, hq2⟩ : ∃ q, q = methE c.pool c.access ((mv.take j).map fun g => keyC c.pool g.1.name g.1.desc) f.1 := ⟨_, rfl⟩
    rw [← hq2] at C hst
    have HST := Lib.hid hst
    clear hst hq2 hMr hf
    go_wp2_with fail
    refine C.mono ?_
    rintro e w10 ⟨rfl, hk10⟩
    have K10 := Lib.hid (Kept.trans KW3.out hk10)
    have HB10 := Lib.hid (HBW3.out.kept hk10)
    clear hk10 C
    go_wp2_with fail
    go_roundw
    case rel => exact ⟨j + 1, q2, by omega, by go_num, rfl, K10.out, HB10.out, HST.out⟩
    case measure => simp [intOf]; omega
  have hb := of_decide_eq_false HBB2.out.symm
  have HE2 := Lib.hid (LoopM.end_ HLM3.out (by rw [← N4.out]; by_cases hE : E = 0; exact .inl (by omega); exact .inr hE))
  clear hb
  go_wp2_with fail
  go_ret
  exact ⟨by rw [HE2.out]; rfl, KW3.out⟩
end Go.Proofs.Ytcklmhbcjgiplaa
