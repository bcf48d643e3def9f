/-
  Flags, bit by bit: the lowest four.
-/
import Derived.Test.YtccbdnlknijcbaaBase
namespace Go.Proofs.Ytccbdnlknijcbaa
set_option maxRecDepth 100000

theorem and16 (a c : Nat) (hc : c < 16) : a &&& c = (a % 16) &&& c := by
  apply Nat.eq_of_testBit_eq
  intro i
  rw [Nat.testBit_and, Nat.testBit_and, show (16 : Nat) = 2 ^ 4 from rfl, Nat.testBit_mod_two_pow]
  by_cases hi : i < 4
  · simp [hi]
  · have : c.testBit i = false := Nat.testBit_lt_two_pow (Nat.lt_of_lt_of_le hc (show 2 ^ 4 ≤ 2 ^ i from Nat.pow_le_pow_right (by omega) (by omega)))
    simp [this]
theorem bits_low (a : Int) : ∃ m : Nat, m < 16 ∧ ∀ c : Nat, c < 16 → bits .and .i64 a (c : Int) = ((m &&& c : Nat) : Int) := by
  refine ⟨(BitVec.ofInt 64 a).toNat % 16, Nat.mod_lt _ (by omega), fun c hc => ?_⟩
  show IntKind.i64.wrap ((BitVec.ofInt 64 a &&& BitVec.ofInt 64 (c : Int)).toNat : Nat) = _
  have h1 : (BitVec.ofInt 64 (c : Int)).toNat = c := by rw [BitVec.toNat_ofInt]; omega
  rw [BitVec.toNat_and, h1, and16 _ c hc]
  have h2 : ((BitVec.ofInt 64 a).toNat % 16 &&& c) ≤ c := Nat.and_le_right
  exact IntWalk.i64_in _ (by omega)
/-- Public and not static. -/
theorem flags_9 (a : Int) : bits .and .i64 a 9 = 1 ↔ bits .and .i64 a 1 ≠ 0 ∧ bits .and .i64 a 8 = 0 := by
  obtain ⟨m, hm, h⟩ := bits_low a
  have h9 : bits .and .i64 a 9 = ((m &&& 9 : Nat) : Int) := h 9 (by omega)
  have h1 : bits .and .i64 a 1 = ((m &&& 1 : Nat) : Int) := h 1 (by omega)
  have h8 : bits .and .i64 a 8 = ((m &&& 8 : Nat) : Int) := h 8 (by omega)
  rw [h9, h1, h8]
  clear h h9 h1 h8
  revert m
  decide
/-- Neither private nor static. -/
theorem flags_10 (a : Int) : bits .and .i64 a 10 = 0 ↔ bits .and .i64 a 8 = 0 ∧ bits .and .i64 a 2 = 0 := by
  obtain ⟨m, hm, h⟩ := bits_low a
  have h9 : bits .and .i64 a 10 = ((m &&& 10 : Nat) : Int) := h 10 (by omega)
  have h1 : bits .and .i64 a 8 = ((m &&& 8 : Nat) : Int) := h 8 (by omega)
  have h8 : bits .and .i64 a 2 = ((m &&& 2 : Nat) : Int) := h 2 (by omega)
  rw [h9, h1, h8]
  clear h h9 h1 h8
  revert m
  decide
end Go.Proofs.Ytccbdnlknijcbaa
