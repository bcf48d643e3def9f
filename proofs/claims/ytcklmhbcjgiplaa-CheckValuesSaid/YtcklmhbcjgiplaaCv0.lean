/-
  Plain facts for CheckValues.
-/
import Derived.Test.YtcklmhbcjgiplaaCm0
import Derived.Test.YtcklmhbcjgiplaaCo0
import Derived.IntWalk
namespace Go.Proofs.Ytcklmhbcjgiplaa
set_option linter.unusedVariables false
set_option linter.unusedSimpArgs false
open Go.RowKit
set_option maxRecDepth 100000

theorem bits_natV (a : Int) (c : Nat) (hc : c < 4294967296) : bits .and .i64 a (c : Int) = (((BitVec.ofInt 64 a).toNat &&& c : Nat) : Int) := by
  show IntKind.i64.wrap ((BitVec.ofInt 64 a &&& BitVec.ofInt 64 (c : Int)).toNat : Nat) = _
  have h1 : (BitVec.ofInt 64 (c : Int)).toNat = c := by rw [BitVec.toNat_ofInt]; omega
  rw [BitVec.toNat_and, h1]
  have h2 : ((BitVec.ofInt 64 a).toNat &&& c) ≤ c := Nat.and_le_right
  exact IntWalk.i64_in _ (by omega)
theorem bits_1 (a : Int) : bits .and .i64 a 1 = a % 2 := by
  rw [show bits .and .i64 a 1 = _ from bits_natV a 1 (by omega), show (1 : Nat) = 2 ^ 1 - 1 from rfl, Nat.and_two_pow_sub_one_eq_mod, BitVec.toNat_ofInt]
  omega
theorem bits_31 (a : Int) : bits .and .i64 a 31 = a % 32 := by
  rw [show bits .and .i64 a 31 = _ from bits_natV a 31 (by omega), show (31 : Nat) = 2 ^ 5 - 1 from rfl, Nat.and_two_pow_sub_one_eq_mod, BitVec.toNat_ofInt]
  omega
theorem bits_8 (a : Int) : (bits .and .i64 a 8 == 0) = (a / 8 % 2 == 0) := by
  rw [show bits .and .i64 a 8 = _ from bits_natV a 8 (by omega)]
  have h : (BitVec.ofInt 64 a).toNat &&& 8 = 8 * ((BitVec.ofInt 64 a).toNat / 8 % 2) := by
    apply Nat.eq_of_testBit_eq
    intro i
    rw [Nat.testBit_and, show (8 : Nat) = 2 ^ 3 from rfl, Nat.testBit_two_pow, Nat.testBit_two_pow_mul, ← Nat.shiftRight_eq_div_pow]
    by_cases h3 : 3 = i
    · subst h3
      rw [show (2 : Nat) = 2 ^ 1 from rfl, Nat.testBit_mod_two_pow, Nat.testBit_shiftRight]
      simp
    · rw [show (2 : Nat) = 2 ^ 1 from rfl, Nat.testBit_mod_two_pow]
      by_cases h4 : 3 ≤ i
      · have : ¬ i - 3 < 1 := by omega
        simp [h3, this]
      · simp [h3, h4]
  rw [h, BitVec.toNat_ofInt, Bool.eq_iff_iff, beq_iff_eq, beq_iff_eq]
  omega
theorem shr_1 (x : Int) : Op.shift .shr .i64 x .u64 1 = pure (.int .i64 (x / 2)) := by
  rw [shift_shr _ _ _ _ (by decide) (by decide)]; simp
theorem shr_2 (x : Int) : Op.shift .shr .i64 x .u64 2 = pure (.int .i64 (x / 4)) := by
  rw [shift_shr _ _ _ _ (by decide) (by decide)]; simp
/-- The views, the flag static, of the low bits. -/
theorem low_views : ∀ m : Fin 32, viewsI (m.val : Int) = ((m.val % 2 + m.val / 2 % 2 + m.val / 4 % 2 : Nat) : Int) ∧ hasF (m.val : Int) 8 = !(m.val / 8 % 2 == 0) := by decide +kernel
theorem views_low (a : Int) : viewsI (a % 32) = a % 2 + a / 2 % 2 + a / 4 % 2 ∧ hasF (a % 32) 8 = !(a / 8 % 2 == 0) := by
  obtain ⟨m, hm⟩ : ∃ m : Fin 32, a % 32 = (m.val : Int) := ⟨⟨(a % 32).toNat, by omega⟩, by dsimp only; omega⟩
  obtain ⟨h1, h2⟩ := low_views m
  rw [hm, h1, h2]
  refine ⟨by omega, ?_⟩
  congr 1
  rw [Bool.eq_iff_iff, beq_iff_eq, beq_iff_eq]
  omega
def valPool : List ConstC := smallK.pool ++ [⟨1, ⟨#[120]⟩, 0, 0, 0⟩, ⟨1, ⟨#[73]⟩, 0, 0, 0⟩, ⟨1, ⟨#[76, 65, 59]⟩, 0, 0, 0⟩, ⟨3, ⟨#[]⟩, 9, 0, 0⟩]
theorem valPool_text : ∀ k ∈ valPool, k.text.size ≤ maxLen := by
  intro k hk
  have h : k.text.size ≤ 16 := by
    simp only [valPool, smallK, List.mem_cons, List.mem_append, List.not_mem_nil, or_false] at hk
    rcases hk with (rfl | rfl | rfl | rfl) | rfl | rfl | rfl | rfl <;> decide
  exact Nat.le_trans h (by unfold maxLen; omega)
def valF (a v : Int) (ref : Bool) : FieldC := ⟨a % 32, 5, if ref = true then 7 else 6, v⟩
def valK (a v : Int) (ref : Bool) : ClassC := ⟨0, 52, valPool, 33, 2, 4, [], [valF a v ref], []⟩
theorem val_at (n : Int) : (getC valPool n 3).isSome = decide (n = 8) := by
  by_cases h : 1 ≤ n ∧ n ≤ 8
  · rcases (show n = 1 ∨ n = 2 ∨ n = 3 ∨ n = 4 ∨ n = 5 ∨ n = 6 ∨ n = 7 ∨ n = 8 by omega) with rfl | rfl | rfl | rfl | rfl | rfl | rfl | rfl <;> decide +kernel
  · unfold getC
    rw [if_neg (by rw [show valPool.length = 8 from rfl]; exact h), show decide (n = 8) = false by simp; omega]
    rfl
def viewsA (a : Int) : Int := a % 2 + a / 2 % 2 + a / 4 % 2
/-- A value that cannot be. -/
def badV (a v : Int) (ref : Bool) : Bool := v != 0 && (v != 8 || a / 8 % 2 == 0 || ref)
def wantV (a v : Int) (ref : Bool) : Int := if 1 < viewsA a then 23 else if badV a v ref = true then 26 else 0
theorem val_check (a v : Int) (ref : Bool) : checkE (valK a v ref) = wantV a v ref := by
  have m0 : muchB (valK a v ref) = false := (show muchB (valK 0 0 false) = false by decide +kernel)
  have p0 : poolE valPool valPool = 0 := by decide +kernel
  have h0 : headE (valK a v ref) = 0 := (show headE (valK 0 0 false) = 0 by decide +kernel)
  have t1 : (textC valPool 5).2 = true := by decide +kernel
  have t2 : (textC valPool 6).2 = true ∧ (textC valPool 7).2 = true := by decide +kernel
  have t3 : memS (textC valPool 5).1 = true := by decide +kernel
  have t4 : fldS (textC valPool 6).1 = true ∧ fldS (textC valPool 7).1 = true := by decide +kernel
  have t5 : isS (textC valPool 6).1 [73] = true ∧ isS (textC valPool 7).1 [73] = false := by decide +kernel
  have t6 : hasF 33 512 = false := by decide +kernel
  obtain ⟨v1, v2⟩ := views_low a
  have f0 : fieldE valPool 33 [] (valF a v ref) = wantV a v ref := by
    unfold fieldE valF
    dsimp only
    rw [t1, t3, v1, v2, t6, val_at]
    unfold wantV badV viewsA
    cases ref
    · rw [if_neg (show ¬ (false = true) by decide), t2.1, t4.1, t5.1]
      by_cases h1 : 1 < a % 2 + a / 2 % 2 + a / 4 % 2
      · simp [h1]
      · by_cases h8 : v = 8
        · subst h8; simp [h1]
        · by_cases h0 : v = 0
          · subst h0; simp [h1]
          · simp [h1, h8, h0]
    · rw [if_pos rfl, t2.2, t4.2, t5.2]
      by_cases h1 : 1 < a % 2 + a / 2 % 2 + a / 4 % 2
      · simp [h1]
      · simp [h1]
  unfold checkE
  rw [m0, if_neg (by decide), if_neg (show ¬ ((valK a v ref).major < 45 ∨ 52 < (valK a v ref).major) from (show ¬ ((52 : Int) < 45 ∨ (52 : Int) < 52) by decide)), if_neg (show ¬ poolE (valK a v ref).pool (valK a v ref).pool ≠ 0 from fun h => h p0), h0, if_neg (by decide)]
  show (if (if fieldE valPool 33 [] (valF a v ref) = 0 then 0 else fieldE valPool 33 [] (valF a v ref)) ≠ 0 then (if fieldE valPool 33 [] (valF a v ref) = 0 then 0 else fieldE valPool 33 [] (valF a v ref)) else 0) = _
  rw [f0]
  by_cases hw : wantV a v ref = 0 <;> simp [hw]
end Go.Proofs.Ytcklmhbcjgiplaa
