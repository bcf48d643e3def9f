/-
  Flags that are tested two at a time: plain, without a program in sight.
-/
import Derived.Test.YtcklmhbcjgiplaaCkP
namespace Go.Proofs.Ytcklmhbcjgiplaa
set_option linter.unusedVariables false
set_option linter.unusedSimpArgs false
open Go.RowKit
set_option maxRecDepth 100000

theorem wrap_toInt (v : BitVec 64) : IntKind.i64.wrap (v.toNat : Int) = v.toInt := by
  have h := v.isLt
  rw [BitVec.toInt_eq_toNat_cond]
  have hw : ∀ n : Int, IntKind.i64.wrap n = if n % 18446744073709551616 ≥ 9223372036854775808 then n % 18446744073709551616 - 18446744073709551616 else n % 18446744073709551616 := by
    intro n
    simp [IntKind.wrap, IntKind.bits, IntKind.signed]
  rw [hw]
  have h' : v.toNat < 18446744073709551616 := h
  have e : (v.toNat : Int) % 18446744073709551616 = v.toNat := Int.emod_eq_of_lt (by omega) (by omega)
  rw [e]
  by_cases h2 : 2 * v.toNat < 2 ^ 64
  · rw [if_pos h2, if_neg (by omega)]
  · rw [if_neg h2, if_pos (by omega)]
    omega
theorem and_i64 (a f : Int) : bits .and .i64 a f = (BitVec.ofInt 64 a &&& BitVec.ofInt 64 f).toInt := wrap_toInt _
theorem toInt_zero (v : BitVec 64) : (v.toInt != 0) = !(v == 0#64) := by
  by_cases h : v = 0#64
  · subst h; decide
  · have h1 : v.toInt ≠ 0 := fun e => h (BitVec.toInt_inj.1 (e.trans (show (0 : Int) = (0#64).toInt by decide)))
    have e1 : (v.toInt != 0) = true := by simpa using h1
    have e2 : (v == 0#64) = false := by simpa using h
    rw [e1, e2]
    rfl
theorem hasF_bit (a : Int) (k : Nat) (f : Int) (hf : BitVec.ofInt 64 f = BitVec.twoPow 64 k) (h0 : BitVec.twoPow 64 k ≠ 0#64) : hasF a f = (BitVec.ofInt 64 a).getLsbD k := by
  unfold hasF
  rw [and_i64, toInt_zero, hf, BitVec.and_twoPow]
  cases (BitVec.ofInt 64 a).getLsbD k with
  | true => simp [h0]
  | false => simp
theorem has8 (a : Int) : hasF a 8 = (BitVec.ofInt 64 a).getLsbD 3 := hasF_bit a 3 8 (by decide) (by decide)
theorem has16 (a : Int) : hasF a 16 = (BitVec.ofInt 64 a).getLsbD 4 := hasF_bit a 4 16 (by decide) (by decide)
theorem has1024 (a : Int) : hasF a 1024 = (BitVec.ofInt 64 a).getLsbD 10 := hasF_bit a 10 1024 (by decide) (by decide)
theorem has_or (a : Int) : hasF a 1032 = (hasF a 8 || hasF a 1024) := by
  rw [has8, has1024]
  unfold hasF
  rw [and_i64, toInt_zero, show BitVec.ofInt 64 1032 = BitVec.twoPow 64 3 ||| BitVec.twoPow 64 10 by decide, BitVec.and_or_distrib_left, BitVec.and_twoPow, BitVec.and_twoPow]
  cases (BitVec.ofInt 64 a).getLsbD 3 <;> cases (BitVec.ofInt 64 a).getLsbD 10 <;> decide
theorem toInt_lit (v : BitVec 64) (f : Int) (F : BitVec 64) (hF : F.toInt = f) : (v.toInt == f) = (v == F) := by
  subst hF
  by_cases h : v = F
  · subst h; simp
  · have h1 : v.toInt ≠ F.toInt := fun e => h (BitVec.toInt_inj.1 e)
    have e1 : (v.toInt == F.toInt) = false := by simpa using h1
    have e2 : (v == F) = false := by simpa using h
    rw [e1, e2]
theorem all_and (a : Int) : allF a 1040 = (hasF a 16 && hasF a 1024) := by
  rw [has16, has1024]
  unfold allF
  rw [and_i64, toInt_lit _ 1040 1040#64 (by decide), show BitVec.ofInt 64 1040 = BitVec.twoPow 64 4 ||| BitVec.twoPow 64 10 by decide, BitVec.and_or_distrib_left, BitVec.and_twoPow, BitVec.and_twoPow]
  cases (BitVec.ofInt 64 a).getLsbD 4 <;> cases (BitVec.ofInt 64 a).getLsbD 10 <;> decide
end Go.Proofs.Ytcklmhbcjgiplaa
