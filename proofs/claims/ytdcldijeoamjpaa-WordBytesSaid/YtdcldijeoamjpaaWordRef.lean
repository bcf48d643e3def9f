/-
  The functions of the document's own answer for chapter 1 that only reckon, by contract.
-/
import Derived.Test.YtdcldijeoamjpaaWord
namespace Go.Proofs.Ytdcldijeoamjpaa
open Go.RowKit

theorem ref1_power (k : Nat) (w : World) (hk : k ≤ 32) :
    Calls Try.prog 38 #[.int .i64 k] w fun e w' => e = .returned (.int .i64 (2 ^ k)) ∧ w = w' := by
  go_enter Try.func38, Try.ntmps38
  go_wp2
  go_loop [3, 4] (fun p i => ∃ j : Nat, j ≤ k ∧ i = .int .i64 j ∧ p = .int .i64 (2 ^ j)) (fun _ i => k - (intOf i).toNat)
  case atStart => exact ⟨0, Nat.zero_le _, rfl, rfl⟩
  case round =>
    obtain ⟨j, hj, rfl, rfl⟩ := hrel
    have hp := pow_le32 j (by omega)
    have hp1 := pow_ge1 j
    go_wp2
    · go_round
      case rel => exact ⟨j + 1, by omega, by go_num, val_int (by rw [Int.pow_succ]; omega)⟩
      case measure => simp [intOf]; omega
    · go_ret
      exact ⟨ret_int (by rw [show j = k from by omega]), rfl⟩

theorem ref1_Mul (a b : Int) (w : World) :
    Calls Try.prog 28 #[.int .i64 a, .int .i64 b] w fun e w' => e = .returned (.int .i64 (wrap32 (a * b))) ∧ w = w' := by
  go_enter Try.func28, Try.ntmps28
  go_wp2_with (go_at_call 19; refine (ref1_Wrap _ _).mono ?_; rintro e w' ⟨rfl, rfl⟩)
  go_ret
  exact ⟨ret_int (by rw [wrap32_64]; exact wrap32_mul a b), rfl⟩

theorem ref1_floor (x : Int) (s : Nat) (w : World) (h : -2147483648 ≤ x) (h' : x ≤ 2147483647) (hs : s ≤ 31) :
    Calls Try.prog 39 #[.int .i64 x, .int .i64 (2 ^ s)] w fun e w' => e = .returned (.int .i64 (x / 2 ^ s)) ∧ w = w' := by
  have hp := pow_le31 s hs
  have hp1 := pow_ge1 s
  have hd := ediv_bd x s h h'
  have ht := floor_tdiv x (2 ^ s) hp1
  generalize (2 : Int) ^ s = p at *
  have hz : (p == 0) = false := by simp; omega
  by_cases hm : x.tmod p < 0
  · go_enter Try.func39, Try.ntmps39
    go_wp2
    go_ret
    exact ⟨ret_int (by omega), rfl⟩
  · go_enter Try.func39, Try.ntmps39
    go_wp2
    go_ret
    exact ⟨ret_int (by omega), rfl⟩

theorem ref1_Shl (a n : Int) (w : World) :
    Calls Try.prog 10 #[.int .i64 a, .int .i64 n] w fun e w' => e = .returned (.int .i64 (wShl a n)) ∧ w = w' := by
  have hb := i64_and_31 n
  go_enter Try.func10, Try.ntmps10
  go_wp2_with (first | (go_at_call 19; refine (ref1_Wrap _ _).mono ?_; rintro e w' ⟨rfl, rfl⟩) | (go_at_call 38; refine (ref1_power _ _ (sh_le32 _)).mono ?_; rintro e w' ⟨rfl, rfl⟩))
  go_ret
  exact ⟨ret_int (by rw [wrap32_64]; rfl), rfl⟩

theorem ref1_Shr (a n : Int) (w : World) :
    Calls Try.prog 12 #[.int .i64 a, .int .i64 n] w fun e w' => e = .returned (.int .i64 (wShr a n)) ∧ w = w' := by
  have hb := i64_and_31 n
  go_enter Try.func12, Try.ntmps12
  go_wp2_with (first | (go_at_call 19; refine (ref1_Wrap _ _).mono ?_; rintro e w' ⟨rfl, rfl⟩) | (go_at_call 38; refine (ref1_power _ _ (sh_le32 _)).mono ?_; rintro e w' ⟨rfl, rfl⟩) | (go_at_call 39; refine (ref1_floor _ _ _ (wrap32_bd _).1 (wrap32_bd _).2 (sh_le _)).mono ?_; rintro e w' ⟨rfl, rfl⟩))
  go_ret
  exact ⟨rfl, rfl⟩

theorem ref1_Ushr (a n : Int) (w : World) :
    Calls Try.prog 14 #[.int .i64 a, .int .i64 n] w fun e w' => e = .returned (.int .i64 (wUshr a n)) ∧ w = w' := by
  have hb := i64_and_31 n
  have hm := i64_and_m32 a
  have hz : ¬ (2 : Int) ^ sh n = 0 := by have := pow_ge1 (sh n); omega
  have h1 := pow_ge1 (sh n)
  have h2 := pow_le31 (sh n) (sh_le n)
  have h3 : 0 ≤ a % 4294967296 := by omega
  have h4 : a % 4294967296 ≤ 4294967295 := by omega
  go_enter Try.func14, Try.ntmps14
  go_wp2_with (first | (go_at_call 19; refine (ref1_Wrap _ _).mono ?_; rintro e w' ⟨rfl, rfl⟩) | (go_at_call 38; refine (ref1_power _ _ (sh_le32 _)).mono ?_; rintro e w' ⟨rfl, rfl⟩))
  go_ret
  exact ⟨rfl, rfl⟩

theorem ref1_Div (a b : Int) (w : World) :
    Calls Try.prog 22 #[.int .i64 a, .int .i64 b] w fun e w' => e = .returned (.tuple #[.int .i64 (d32 Int.tdiv a b).1, .bool (d32 Int.tdiv a b).2]) ∧ w = w' := by
  by_cases hz : wrap32 b = 0
  · have h1 : (wrap32 b == 0) = true := by simp [hz]
    have e : d32 Int.tdiv a b = (0, false) := by simp [d32, hz]
    rw [e]
    clear e hz
    go_enter Try.func22, Try.ntmps22
    go_wp2_with (go_at_call 19; refine (ref1_Wrap _ _).mono ?_; rintro e w' ⟨rfl, rfl⟩)
    go_ret2
    exact ⟨rfl, rfl⟩
  · have h1 : (wrap32 b == 0) = false := by simp [hz]
    have e : d32 Int.tdiv a b = (wrap32 ((wrap32 a).tdiv (wrap32 b)), true) := by simp [d32, hz]
    rw [e]
    clear e
    go_enter Try.func22, Try.ntmps22
    go_wp2_with (go_at_call 19; refine (ref1_Wrap _ _).mono ?_; rintro e w' ⟨rfl, rfl⟩)
    go_ret2
    exact ⟨ret2 (val_int (by first | rfl | rw [wrap32_64])) rfl, rfl⟩

theorem ref1_Rem (a b : Int) (w : World) :
    Calls Try.prog 23 #[.int .i64 a, .int .i64 b] w fun e w' => e = .returned (.tuple #[.int .i64 (d32 Int.tmod a b).1, .bool (d32 Int.tmod a b).2]) ∧ w = w' := by
  by_cases hz : wrap32 b = 0
  · have h1 : (wrap32 b == 0) = true := by simp [hz]
    have e : d32 Int.tmod a b = (0, false) := by simp [d32, hz]
    rw [e]
    clear e hz
    go_enter Try.func23, Try.ntmps23
    go_wp2_with (go_at_call 19; refine (ref1_Wrap _ _).mono ?_; rintro e w' ⟨rfl, rfl⟩)
    go_ret2
    exact ⟨rfl, rfl⟩
  · have h1 : (wrap32 b == 0) = false := by simp [hz]
    have e : d32 Int.tmod a b = (wrap32 ((wrap32 a).tmod (wrap32 b)), true) := by simp [d32, hz]
    rw [e]
    clear e
    go_enter Try.func23, Try.ntmps23
    go_wp2_with (go_at_call 19; refine (ref1_Wrap _ _).mono ?_; rintro e w' ⟨rfl, rfl⟩)
    go_ret2
    exact ⟨ret2 (val_int (by first | rfl | rw [wrap32_64])) rfl, rfl⟩

theorem ref1_Signed8 (n : Int) (w : World) :
    Calls Try.prog 16 #[.int .i64 n, .int .i64 8] w fun e w' => e = .returned (.int .i64 (wrap8 n)) ∧ w = w' := by
  have hb := i64_and_255 n
  have h0 : 0 ≤ n % 256 := by omega
  have h9 : n % 256 ≤ 255 := by omega
  by_cases h : 128 ≤ n % 256
  · go_enter Try.func16, Try.ntmps16
    go_wp2_with (go_at_call 38; refine (ref1_power 8 _ (by omega)).mono ?_; rintro e w' ⟨rfl, rfl⟩)
    go_ret
    exact ⟨ret_int (by unfold wrap8; omega), rfl⟩
  · go_enter Try.func16, Try.ntmps16
    go_wp2_with (go_at_call 38; refine (ref1_power 8 _ (by omega)).mono ?_; rintro e w' ⟨rfl, rfl⟩)
    go_ret
    exact ⟨ret_int (by unfold wrap8; omega), rfl⟩

theorem ref1_Signed16 (n : Int) (w : World) :
    Calls Try.prog 16 #[.int .i64 n, .int .i64 16] w fun e w' => e = .returned (.int .i64 (wrap16 n)) ∧ w = w' := by
  have hb := i64_and_65535 n
  have h0 : 0 ≤ n % 65536 := by omega
  have h9 : n % 65536 ≤ 65535 := by omega
  by_cases h : 32768 ≤ n % 65536
  · go_enter Try.func16, Try.ntmps16
    go_wp2_with (go_at_call 38; refine (ref1_power 16 _ (by omega)).mono ?_; rintro e w' ⟨rfl, rfl⟩)
    go_ret
    exact ⟨ret_int (by unfold wrap16; omega), rfl⟩
  · go_enter Try.func16, Try.ntmps16
    go_wp2_with (go_at_call 38; refine (ref1_power 16 _ (by omega)).mono ?_; rintro e w' ⟨rfl, rfl⟩)
    go_ret
    exact ⟨ret_int (by unfold wrap16; omega), rfl⟩

theorem ref1_Signed32 (n : Int) (w : World) :
    Calls Try.prog 16 #[.int .i64 n, .int .i64 32] w fun e w' => e = .returned (.int .i64 (wrap32 n)) ∧ w = w' := by
  have hb := i64_and_m32 n
  have h0 : 0 ≤ n % 4294967296 := by omega
  have h9 : n % 4294967296 ≤ 4294967295 := by omega
  by_cases h : 2147483648 ≤ n % 4294967296
  · go_enter Try.func16, Try.ntmps16
    go_wp2_with (go_at_call 38; refine (ref1_power 32 _ (by omega)).mono ?_; rintro e w' ⟨rfl, rfl⟩)
    go_ret
    exact ⟨ret_int (by unfold wrap32; omega), rfl⟩
  · go_enter Try.func16, Try.ntmps16
    go_wp2_with (go_at_call 38; refine (ref1_power 32 _ (by omega)).mono ?_; rintro e w' ⟨rfl, rfl⟩)
    go_ret
    exact ⟨ret_int (by unfold wrap32; omega), rfl⟩

end Go.Proofs.Ytdcldijeoamjpaa
