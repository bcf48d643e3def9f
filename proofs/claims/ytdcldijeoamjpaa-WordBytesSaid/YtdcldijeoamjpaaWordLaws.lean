/-
  The laws of chapter 1 on sums and shifts, walked: they return true and write nothing.
-/
import Derived.Test.YtdcldijeoamjpaaWordRef
namespace Go.Proofs.Ytdcldijeoamjpaa
open Go.RowKit

theorem alive1 (w : World) : Calls Try.prog 8 #[] w fun e w' => e = .returned (.bool true) ∧ w = w' := by
  have e1 : d32 Int.tdiv (-7) 2 = (-3, true) := by decide +kernel
  have e2 : wrap32 2147483648 = -2147483648 := by decide +kernel
  have e3 : wUshr (-8) 28 = 15 := by decide +kernel
  go_enter Try.func8, Try.ntmps8
  go_wp2_with (first
    | (go_at_call 20; ((with_reducible refine (word_Div _ _ _).mono ?_); rintro e w' ⟨rfl, rfl⟩))
    | (go_at_call 24; ((with_reducible refine (word_Wrap _ _).mono ?_); rintro e w' ⟨rfl, rfl⟩))
    | (go_at_call 13; ((with_reducible refine (word_Ushr _ _ _).mono ?_); rintro e w' ⟨rfl, rfl⟩)))
  go_ret
  exact ⟨rfl, rfl⟩

theorem walk_WordShifts (a n : Int) (w : World) (_ : (Lit.int .i64 a).wf = true) (_ : (Lit.int .i64 n).wf = true) :
    Calls Try.prog 3 #[.int .i64 a, .int .i64 n] w fun e w' => e = .returned (.bool true) ∧ Below w.heap.size w w' := by
  have hb := i64_and_65535 a
  go_enter Try.func3, Try.ntmps3
  go_wp2_with (first
    | (go_at_call 8; ((with_reducible refine (alive1 _).mono ?_); rintro e w' ⟨rfl, rfl⟩))
    | (go_at_call 9; ((with_reducible refine (word_Shl _ _ _).mono ?_); rintro e w' ⟨rfl, rfl⟩))
    | (go_at_call 10; ((with_reducible refine (ref1_Shl _ _ _).mono ?_); rintro e w' ⟨rfl, rfl⟩))
    | (go_at_call 11; ((with_reducible refine (word_Shr _ _ _).mono ?_); rintro e w' ⟨rfl, rfl⟩))
    | (go_at_call 12; ((with_reducible refine (ref1_Shr _ _ _).mono ?_); rintro e w' ⟨rfl, rfl⟩))
    | (go_at_call 13; ((with_reducible refine (word_Ushr _ _ _).mono ?_); rintro e w' ⟨rfl, rfl⟩))
    | (go_at_call 14; ((with_reducible refine (ref1_Ushr _ _ _).mono ?_); rintro e w' ⟨rfl, rfl⟩))
    | (go_at_call 15; ((with_reducible refine (word_Byte _ _).mono ?_); rintro e w' ⟨rfl, rfl⟩))
    | (go_at_call 17; ((with_reducible refine (word_Short _ _).mono ?_); rintro e w' ⟨rfl, rfl⟩))
    | (go_at_call 18; ((with_reducible refine (word_Char _ _).mono ?_); rintro e w' ⟨rfl, rfl⟩))
    | (go_at_call 16; ((with_reducible refine (ref1_Signed8 _ _).mono ?_); rintro e w' ⟨rfl, rfl⟩))
    | (go_at_call 16; ((with_reducible refine (ref1_Signed16 _ _).mono ?_); rintro e w' ⟨rfl, rfl⟩)))
  go_ret
  exact ⟨rfl, Below.refl _ _⟩

theorem walk_WordSums (a b : Int) (w : World) (_ : (Lit.int .i64 a).wf = true) (_ : (Lit.int .i64 b).wf = true) :
    Calls Try.prog 4 #[.int .i64 a, .int .i64 b] w fun e w' => e = .returned (.bool true) ∧ Below w.heap.size w w' := by
  have h1 := sum_law a b
  have h2 := dif_law a b
  have h3 := neg_law a
  have h4 := and_law a b
  have h5 := or_law a b
  have h6 := xor_law a b
  go_enter Try.func4, Try.ntmps4
  go_wp2_with (first
    | (go_at_call 8; ((with_reducible refine (alive1 _).mono ?_); rintro e w' ⟨rfl, rfl⟩))
    | (go_at_call 24; ((with_reducible refine (word_Wrap _ _).mono ?_); rintro e w' ⟨rfl, rfl⟩))
    | (go_at_call 19; ((with_reducible refine (ref1_Wrap _ _).mono ?_); rintro e w' ⟨rfl, rfl⟩))
    | (go_at_call 25; ((with_reducible refine (word_Add _ _ _).mono ?_); rintro e w' ⟨rfl, rfl⟩))
    | (go_at_call 26; ((with_reducible refine (word_Sub _ _ _).mono ?_); rintro e w' ⟨rfl, rfl⟩))
    | (go_at_call 27; ((with_reducible refine (word_Mul _ _ _).mono ?_); rintro e w' ⟨rfl, rfl⟩))
    | (go_at_call 28; ((with_reducible refine (ref1_Mul _ _ _).mono ?_); rintro e w' ⟨rfl, rfl⟩))
    | (go_at_call 29; ((with_reducible refine (word_Neg _ _).mono ?_); rintro e w' ⟨rfl, rfl⟩))
    | (go_at_call 30; ((with_reducible refine (word_And _ _ _).mono ?_); rintro e w' ⟨rfl, rfl⟩))
    | (go_at_call 31; ((with_reducible refine (word_Or _ _ _).mono ?_); rintro e w' ⟨rfl, rfl⟩))
    | (go_at_call 32; ((with_reducible refine (word_Xor _ _ _).mono ?_); rintro e w' ⟨rfl, rfl⟩))
    | (go_at_call 20; ((with_reducible refine (word_Div _ _ _).mono ?_); rintro e w' ⟨rfl, rfl⟩))
    | (go_at_call 21; ((with_reducible refine (word_Rem _ _ _).mono ?_); rintro e w' ⟨rfl, rfl⟩))
    | (go_at_call 22; ((with_reducible refine (ref1_Div _ _ _).mono ?_); rintro e w' ⟨rfl, rfl⟩))
    | (go_at_call 23; ((with_reducible refine (ref1_Rem _ _ _).mono ?_); rintro e w' ⟨rfl, rfl⟩)))
  go_ret
  exact ⟨rfl, Below.refl _ _⟩

set_option maxHeartbeats 1000000 in
theorem walk_WordLaws (a b n : Int) (w : World) (_ : (Lit.int .i64 a).wf = true) (_ : (Lit.int .i64 b).wf = true) (_ : (Lit.int .i64 n).wf = true) :
    Calls Try.prog 5 #[.int .i64 a, .int .i64 b, .int .i64 n] w fun e w' => e = .returned (.bool true) ∧ Below w.heap.size w w' := by
  have hb := i64_and_31 n
  have g1 := sub_back a b
  have g2 : wUshr (wrap32 (a * 2 ^ sh n)) n = b32 .and a (wUshr (-1) n) := by rw [← wShl_pow]; exact low_law a n
  have g3 := xor_back a b
  have g4 := wShl_pow a n
  have g5 : (wrap32 (a + b) == wrap32 (b + a)) = true := by rw [Int.add_comm]; simp
  have g6 : (wrap32 (-a) == wrap32 (0 - a)) = true := by simp
  by_cases hz : wrap32 b = 0
  · have h1 : d32 Int.tdiv a b = (0, false) := by simp [d32, hz]
    have h2 : d32 Int.tmod a b = (0, false) := by simp [d32, hz]
    clear hz
    go_enter Try.func5, Try.ntmps5
    go_wp2_with (first
    | (go_at_call 8; ((with_reducible refine (alive1 _).mono ?_); rintro e w' ⟨rfl, rfl⟩))
    | (go_at_call 24; ((with_reducible refine (word_Wrap _ _).mono ?_); rintro e w' ⟨rfl, rfl⟩))
    | (go_at_call 25; ((with_reducible refine (word_Add _ _ _).mono ?_); rintro e w' ⟨rfl, rfl⟩))
    | (go_at_call 26; ((with_reducible refine (word_Sub _ _ _).mono ?_); rintro e w' ⟨rfl, rfl⟩))
    | (go_at_call 27; ((with_reducible refine (word_Mul _ _ _).mono ?_); rintro e w' ⟨rfl, rfl⟩))
    | (go_at_call 29; ((with_reducible refine (word_Neg _ _).mono ?_); rintro e w' ⟨rfl, rfl⟩))
    | (go_at_call 30; ((with_reducible refine (word_And _ _ _).mono ?_); rintro e w' ⟨rfl, rfl⟩))
    | (go_at_call 32; ((with_reducible refine (word_Xor _ _ _).mono ?_); rintro e w' ⟨rfl, rfl⟩))
    | (go_at_call 20; ((with_reducible refine (word_Div _ _ _).mono ?_); rintro e w' ⟨rfl, rfl⟩))
    | (go_at_call 21; ((with_reducible refine (word_Rem _ _ _).mono ?_); rintro e w' ⟨rfl, rfl⟩))
    | (go_at_call 9; ((with_reducible refine (word_Shl _ _ _).mono ?_); rintro e w' ⟨rfl, rfl⟩))
    | (go_at_call 13; ((with_reducible refine (word_Ushr _ _ _).mono ?_); rintro e w' ⟨rfl, rfl⟩)))
    go_loop [12, 13] (fun d i => ∃ j : Nat, j ≤ sh n ∧ i = .int .i64 j ∧ d = .int .i64 (wrap32 (a * 2 ^ j))) (fun _ i => sh n - (intOf i).toNat)
    case atStart => exact ⟨0, Nat.zero_le _, rfl, val_int (by simp)⟩
    case round =>
      obtain ⟨j, hj, rfl, rfl⟩ := hrel
      have hs := sh_le n
      by_cases hlt : j < sh n
      · have ht := twice_law a j
        go_wp2_with (first
    | (go_at_call 8; ((with_reducible refine (alive1 _).mono ?_); rintro e w' ⟨rfl, rfl⟩))
    | (go_at_call 24; ((with_reducible refine (word_Wrap _ _).mono ?_); rintro e w' ⟨rfl, rfl⟩))
    | (go_at_call 25; ((with_reducible refine (word_Add _ _ _).mono ?_); rintro e w' ⟨rfl, rfl⟩))
    | (go_at_call 26; ((with_reducible refine (word_Sub _ _ _).mono ?_); rintro e w' ⟨rfl, rfl⟩))
    | (go_at_call 27; ((with_reducible refine (word_Mul _ _ _).mono ?_); rintro e w' ⟨rfl, rfl⟩))
    | (go_at_call 29; ((with_reducible refine (word_Neg _ _).mono ?_); rintro e w' ⟨rfl, rfl⟩))
    | (go_at_call 30; ((with_reducible refine (word_And _ _ _).mono ?_); rintro e w' ⟨rfl, rfl⟩))
    | (go_at_call 32; ((with_reducible refine (word_Xor _ _ _).mono ?_); rintro e w' ⟨rfl, rfl⟩))
    | (go_at_call 20; ((with_reducible refine (word_Div _ _ _).mono ?_); rintro e w' ⟨rfl, rfl⟩))
    | (go_at_call 21; ((with_reducible refine (word_Rem _ _ _).mono ?_); rintro e w' ⟨rfl, rfl⟩))
    | (go_at_call 9; ((with_reducible refine (word_Shl _ _ _).mono ?_); rintro e w' ⟨rfl, rfl⟩))
    | (go_at_call 13; ((with_reducible refine (word_Ushr _ _ _).mono ?_); rintro e w' ⟨rfl, rfl⟩)))
        go_round
        case rel => exact ⟨j + 1, by omega, by go_num, rfl⟩
        case measure => simp [intOf]; omega
      · obtain rfl : j = sh n := by omega
        clear hj hlt
        go_wp2_with (first
    | (go_at_call 8; ((with_reducible refine (alive1 _).mono ?_); rintro e w' ⟨rfl, rfl⟩))
    | (go_at_call 24; ((with_reducible refine (word_Wrap _ _).mono ?_); rintro e w' ⟨rfl, rfl⟩))
    | (go_at_call 25; ((with_reducible refine (word_Add _ _ _).mono ?_); rintro e w' ⟨rfl, rfl⟩))
    | (go_at_call 26; ((with_reducible refine (word_Sub _ _ _).mono ?_); rintro e w' ⟨rfl, rfl⟩))
    | (go_at_call 27; ((with_reducible refine (word_Mul _ _ _).mono ?_); rintro e w' ⟨rfl, rfl⟩))
    | (go_at_call 29; ((with_reducible refine (word_Neg _ _).mono ?_); rintro e w' ⟨rfl, rfl⟩))
    | (go_at_call 30; ((with_reducible refine (word_And _ _ _).mono ?_); rintro e w' ⟨rfl, rfl⟩))
    | (go_at_call 32; ((with_reducible refine (word_Xor _ _ _).mono ?_); rintro e w' ⟨rfl, rfl⟩))
    | (go_at_call 20; ((with_reducible refine (word_Div _ _ _).mono ?_); rintro e w' ⟨rfl, rfl⟩))
    | (go_at_call 21; ((with_reducible refine (word_Rem _ _ _).mono ?_); rintro e w' ⟨rfl, rfl⟩))
    | (go_at_call 9; ((with_reducible refine (word_Shl _ _ _).mono ?_); rintro e w' ⟨rfl, rfl⟩))
    | (go_at_call 13; ((with_reducible refine (word_Ushr _ _ _).mono ?_); rintro e w' ⟨rfl, rfl⟩)))
        go_ret
        exact ⟨rfl, Below.refl _ _⟩
  · have h1 : d32 Int.tdiv a b = (wrap32 ((wrap32 a).tdiv (wrap32 b)), true) := by simp [d32, hz]
    have h2 : d32 Int.tmod a b = (wrap32 ((wrap32 a).tmod (wrap32 b)), true) := by simp [d32, hz]
    have h3 := div_law a b hz
    go_enter Try.func5, Try.ntmps5
    go_wp2_with (first
    | (go_at_call 8; ((with_reducible refine (alive1 _).mono ?_); rintro e w' ⟨rfl, rfl⟩))
    | (go_at_call 24; ((with_reducible refine (word_Wrap _ _).mono ?_); rintro e w' ⟨rfl, rfl⟩))
    | (go_at_call 25; ((with_reducible refine (word_Add _ _ _).mono ?_); rintro e w' ⟨rfl, rfl⟩))
    | (go_at_call 26; ((with_reducible refine (word_Sub _ _ _).mono ?_); rintro e w' ⟨rfl, rfl⟩))
    | (go_at_call 27; ((with_reducible refine (word_Mul _ _ _).mono ?_); rintro e w' ⟨rfl, rfl⟩))
    | (go_at_call 29; ((with_reducible refine (word_Neg _ _).mono ?_); rintro e w' ⟨rfl, rfl⟩))
    | (go_at_call 30; ((with_reducible refine (word_And _ _ _).mono ?_); rintro e w' ⟨rfl, rfl⟩))
    | (go_at_call 32; ((with_reducible refine (word_Xor _ _ _).mono ?_); rintro e w' ⟨rfl, rfl⟩))
    | (go_at_call 20; ((with_reducible refine (word_Div _ _ _).mono ?_); rintro e w' ⟨rfl, rfl⟩))
    | (go_at_call 21; ((with_reducible refine (word_Rem _ _ _).mono ?_); rintro e w' ⟨rfl, rfl⟩))
    | (go_at_call 9; ((with_reducible refine (word_Shl _ _ _).mono ?_); rintro e w' ⟨rfl, rfl⟩))
    | (go_at_call 13; ((with_reducible refine (word_Ushr _ _ _).mono ?_); rintro e w' ⟨rfl, rfl⟩)))
    go_loop [12, 13] (fun d i => ∃ j : Nat, j ≤ sh n ∧ i = .int .i64 j ∧ d = .int .i64 (wrap32 (a * 2 ^ j))) (fun _ i => sh n - (intOf i).toNat)
    case atStart => exact ⟨0, Nat.zero_le _, rfl, val_int (by simp)⟩
    case round =>
      obtain ⟨j, hj, rfl, rfl⟩ := hrel
      have hs := sh_le n
      by_cases hlt : j < sh n
      · have ht := twice_law a j
        go_wp2_with (first
    | (go_at_call 8; ((with_reducible refine (alive1 _).mono ?_); rintro e w' ⟨rfl, rfl⟩))
    | (go_at_call 24; ((with_reducible refine (word_Wrap _ _).mono ?_); rintro e w' ⟨rfl, rfl⟩))
    | (go_at_call 25; ((with_reducible refine (word_Add _ _ _).mono ?_); rintro e w' ⟨rfl, rfl⟩))
    | (go_at_call 26; ((with_reducible refine (word_Sub _ _ _).mono ?_); rintro e w' ⟨rfl, rfl⟩))
    | (go_at_call 27; ((with_reducible refine (word_Mul _ _ _).mono ?_); rintro e w' ⟨rfl, rfl⟩))
    | (go_at_call 29; ((with_reducible refine (word_Neg _ _).mono ?_); rintro e w' ⟨rfl, rfl⟩))
    | (go_at_call 30; ((with_reducible refine (word_And _ _ _).mono ?_); rintro e w' ⟨rfl, rfl⟩))
    | (go_at_call 32; ((with_reducible refine (word_Xor _ _ _).mono ?_); rintro e w' ⟨rfl, rfl⟩))
    | (go_at_call 20; ((with_reducible refine (word_Div _ _ _).mono ?_); rintro e w' ⟨rfl, rfl⟩))
    | (go_at_call 21; ((with_reducible refine (word_Rem _ _ _).mono ?_); rintro e w' ⟨rfl, rfl⟩))
    | (go_at_call 9; ((with_reducible refine (word_Shl _ _ _).mono ?_); rintro e w' ⟨rfl, rfl⟩))
    | (go_at_call 13; ((with_reducible refine (word_Ushr _ _ _).mono ?_); rintro e w' ⟨rfl, rfl⟩)))
        go_round
        case rel => exact ⟨j + 1, by omega, by go_num, rfl⟩
        case measure => simp [intOf]; omega
      · obtain rfl : j = sh n := by omega
        clear hj hlt
        go_wp2_with (first
    | (go_at_call 8; ((with_reducible refine (alive1 _).mono ?_); rintro e w' ⟨rfl, rfl⟩))
    | (go_at_call 24; ((with_reducible refine (word_Wrap _ _).mono ?_); rintro e w' ⟨rfl, rfl⟩))
    | (go_at_call 25; ((with_reducible refine (word_Add _ _ _).mono ?_); rintro e w' ⟨rfl, rfl⟩))
    | (go_at_call 26; ((with_reducible refine (word_Sub _ _ _).mono ?_); rintro e w' ⟨rfl, rfl⟩))
    | (go_at_call 27; ((with_reducible refine (word_Mul _ _ _).mono ?_); rintro e w' ⟨rfl, rfl⟩))
    | (go_at_call 29; ((with_reducible refine (word_Neg _ _).mono ?_); rintro e w' ⟨rfl, rfl⟩))
    | (go_at_call 30; ((with_reducible refine (word_And _ _ _).mono ?_); rintro e w' ⟨rfl, rfl⟩))
    | (go_at_call 32; ((with_reducible refine (word_Xor _ _ _).mono ?_); rintro e w' ⟨rfl, rfl⟩))
    | (go_at_call 20; ((with_reducible refine (word_Div _ _ _).mono ?_); rintro e w' ⟨rfl, rfl⟩))
    | (go_at_call 21; ((with_reducible refine (word_Rem _ _ _).mono ?_); rintro e w' ⟨rfl, rfl⟩))
    | (go_at_call 9; ((with_reducible refine (word_Shl _ _ _).mono ?_); rintro e w' ⟨rfl, rfl⟩))
    | (go_at_call 13; ((with_reducible refine (word_Ushr _ _ _).mono ?_); rintro e w' ⟨rfl, rfl⟩)))
        go_ret
        exact ⟨rfl, Below.refl _ _⟩

end Go.Proofs.Ytdcldijeoamjpaa
