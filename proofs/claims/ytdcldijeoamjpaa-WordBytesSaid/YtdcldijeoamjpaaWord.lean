/-
  The functions of package word that only reckon, by contract: each answers a number of 32 bits, and writes nothing.
-/
import Derived.Test.YtdcldijeoamjpaaProg
import Derived.Test.YtdcldijeoamjpaaWordMath
namespace Go.Proofs.Ytdcldijeoamjpaa
open Go.RowKit

theorem word_Wrap (a : Int) (w : World) :
    Calls Try.prog 24 #[.int .i64 a] w fun e w' => e = .returned (.int .i64 (wrap32 a)) ∧ w = w' := by
  go_enter Try.func24, Try.ntmps24
  go_wp2
  go_ret
  exact ⟨ret_int (wrap64_32 _), rfl⟩

theorem word_Add (a b : Int) (w : World) :
    Calls Try.prog 25 #[.int .i64 a, .int .i64 b] w fun e w' => e = .returned (.int .i64 (wrap32 (a + b))) ∧ w = w' := by
  go_enter Try.func25, Try.ntmps25
  go_wp2
  go_ret
  exact ⟨ret_int (by rw [wrap64_32]; exact wrap32_congr (by have := wrap32_mod a; have := wrap32_mod b; omega)), rfl⟩

theorem word_Sub (a b : Int) (w : World) :
    Calls Try.prog 26 #[.int .i64 a, .int .i64 b] w fun e w' => e = .returned (.int .i64 (wrap32 (a - b))) ∧ w = w' := by
  go_enter Try.func26, Try.ntmps26
  go_wp2
  go_ret
  exact ⟨ret_int (by rw [wrap64_32]; exact wrap32_congr (by have := wrap32_mod a; have := wrap32_mod b; omega)), rfl⟩

theorem word_Neg (a : Int) (w : World) :
    Calls Try.prog 29 #[.int .i64 a] w fun e w' => e = .returned (.int .i64 (wrap32 (-a))) ∧ w = w' := by
  go_enter Try.func29, Try.ntmps29
  go_wp2
  go_ret
  exact ⟨ret_int (by rw [wrap64_32]; exact wrap32_congr (by have := wrap32_mod a; omega)), rfl⟩

theorem word_Mul (a b : Int) (w : World) :
    Calls Try.prog 27 #[.int .i64 a, .int .i64 b] w fun e w' => e = .returned (.int .i64 (wrap32 (a * b))) ∧ w = w' := by
  go_enter Try.func27, Try.ntmps27
  go_wp2
  go_ret
  exact ⟨ret_int (by rw [wrap64_32]; exact wrap32_mul a b), rfl⟩

theorem word_And (a b : Int) (w : World) :
    Calls Try.prog 30 #[.int .i64 a, .int .i64 b] w fun e w' => e = .returned (.int .i64 (b32 .and a b)) ∧ w = w' := by
  go_enter Try.func30, Try.ntmps30
  go_wp2
  go_ret
  exact ⟨ret_int (bits32_eq_and a b), rfl⟩

theorem word_Or (a b : Int) (w : World) :
    Calls Try.prog 31 #[.int .i64 a, .int .i64 b] w fun e w' => e = .returned (.int .i64 (b32 .or a b)) ∧ w = w' := by
  go_enter Try.func31, Try.ntmps31
  go_wp2
  go_ret
  exact ⟨ret_int (bits32_eq_or a b), rfl⟩

theorem word_Xor (a b : Int) (w : World) :
    Calls Try.prog 32 #[.int .i64 a, .int .i64 b] w fun e w' => e = .returned (.int .i64 (b32 .xor a b)) ∧ w = w' := by
  go_enter Try.func32, Try.ntmps32
  go_wp2
  go_ret
  exact ⟨ret_int (bits32_eq_xor a b), rfl⟩

theorem word_Shl (a n : Int) (w : World) :
    Calls Try.prog 9 #[.int .i64 a, .int .i64 n] w fun e w' => e = .returned (.int .i64 (wShl a n)) ∧ w = w' := by
  have hb := u32_and31 n
  have hs := fun w => run_shl32 (P := Try.prog) (wrap32 a) (sh n) (sh_le n) w
  go_enter Try.func9, Try.ntmps9
  go_wp2
  go_ret
  exact ⟨ret_int (by rw [wrap64_32, min_sh]; rfl), rfl⟩

theorem word_Shr (a n : Int) (w : World) :
    Calls Try.prog 11 #[.int .i64 a, .int .i64 n] w fun e w' => e = .returned (.int .i64 (wShr a n)) ∧ w = w' := by
  have hb := u32_and31 n
  have hs := fun w => run_shr32 (P := Try.prog) (wrap32 a) (sh n) (sh_le n) w
  go_enter Try.func11, Try.ntmps11
  go_wp2
  go_ret
  exact ⟨ret_int (by rw [min_sh]; exact wrap64_wShr a n), rfl⟩

theorem word_Ushr (a n : Int) (w : World) :
    Calls Try.prog 13 #[.int .i64 a, .int .i64 n] w fun e w' => e = .returned (.int .i64 (wUshr a n)) ∧ w = w' := by
  have hb := u32_and31 n
  have hs := fun w => run_ushr32 (P := Try.prog) (a % 4294967296) (sh n) (sh_le n) w
  go_enter Try.func13, Try.ntmps13
  go_wp2
  go_ret
  exact ⟨ret_int (by rw [wrap64_32, min_sh]; rfl), rfl⟩

theorem word_Byte (a : Int) (w : World) :
    Calls Try.prog 15 #[.int .i64 a] w fun e w' => e = .returned (.int .i64 (wrap8 a)) ∧ w = w' := by
  go_enter Try.func15, Try.ntmps15
  go_wp2
  go_ret
  exact ⟨ret_int (i8_wrap8 a), rfl⟩

theorem word_Short (a : Int) (w : World) :
    Calls Try.prog 17 #[.int .i64 a] w fun e w' => e = .returned (.int .i64 (wrap16 a)) ∧ w = w' := by
  go_enter Try.func17, Try.ntmps17
  go_wp2
  go_ret
  exact ⟨ret_int (i16_wrap16 a), rfl⟩

theorem word_Char (a : Int) (w : World) :
    Calls Try.prog 18 #[.int .i64 a] w fun e w' => e = .returned (.int .i64 (a % 65536)) ∧ w = w' := by
  go_enter Try.func18, Try.ntmps18
  go_wp2
  go_ret
  exact ⟨ret_int (u16_mod a), rfl⟩

theorem word_Div (a b : Int) (w : World) :
    Calls Try.prog 20 #[.int .i64 a, .int .i64 b] w fun e w' => e = .returned (.tuple #[.int .i64 (d32 Int.tdiv a b).1, .bool (d32 Int.tdiv a b).2]) ∧ w = w' := by
  by_cases hz : wrap32 b = 0
  · have h1 : (wrap32 b == 0) = true := by simp [hz]
    have e : d32 Int.tdiv a b = (0, false) := by simp [d32, hz]
    rw [e]
    have hz' := Lib.hid hz
    clear e hz
    go_enter Try.func20, Try.ntmps20
    go_wp2
    go_ret2
    exact ⟨rfl, rfl⟩
  · have h1 : (wrap32 b == 0) = false := by simp [hz]
    have e : d32 Int.tdiv a b = (wrap32 ((wrap32 a).tdiv (wrap32 b)), true) := by simp [d32, hz]
    rw [e]
    clear e
    go_enter Try.func20, Try.ntmps20
    go_wp2
    go_ret2
    exact ⟨ret2 (val_int (wrap64_32 _)) rfl, rfl⟩

theorem word_Rem (a b : Int) (w : World) :
    Calls Try.prog 21 #[.int .i64 a, .int .i64 b] w fun e w' => e = .returned (.tuple #[.int .i64 (d32 Int.tmod a b).1, .bool (d32 Int.tmod a b).2]) ∧ w = w' := by
  by_cases hz : wrap32 b = 0
  · have h1 : (wrap32 b == 0) = true := by simp [hz]
    have e : d32 Int.tmod a b = (0, false) := by simp [d32, hz]
    rw [e]
    have hz' := Lib.hid hz
    clear e hz
    go_enter Try.func21, Try.ntmps21
    go_wp2
    go_ret2
    exact ⟨rfl, rfl⟩
  · have h1 : (wrap32 b == 0) = false := by simp [hz]
    have e : d32 Int.tmod a b = (wrap32 ((wrap32 a).tmod (wrap32 b)), true) := by simp [d32, hz]
    rw [e]
    clear e
    go_enter Try.func21, Try.ntmps21
    go_wp2
    go_ret2
    exact ⟨ret2 (val_int (wrap64_tmod a b)) rfl, rfl⟩

theorem ref1_Wrap (n : Int) (w : World) :
    Calls Try.prog 19 #[.int .i64 n] w fun e w' => e = .returned (.int .i64 (wrap32 n)) ∧ w = w' := by
  have hb := i64_and_m32 n
  have h0 : 0 ≤ n % 4294967296 := by omega
  have h9 : n % 4294967296 ≤ 4294967295 := by omega
  by_cases h : 2147483648 ≤ n % 4294967296
  · go_enter Try.func19, Try.ntmps19
    go_wp2
    go_ret
    exact ⟨ret_int (by unfold wrap32; omega), rfl⟩
  · go_enter Try.func19, Try.ntmps19
    go_wp2
    go_ret
    exact ⟨ret_int (by unfold wrap32; omega), rfl⟩

end Go.Proofs.Ytdcldijeoamjpaa
