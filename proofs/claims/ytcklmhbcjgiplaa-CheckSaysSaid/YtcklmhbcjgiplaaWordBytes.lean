/-
  Numbers in bytes, by contract: word.Get, Signed, the document's own Get. They read, and write nothing.
-/
import Derived.Test.YtcklmhbcjgiplaaWordRef
namespace Go.Proofs.Ytcklmhbcjgiplaa
set_option linter.unusedVariables false
set_option linter.unusedSimpArgs false
open Go.RowKit

def byteV (c : UInt8) : Value := .int .u8 c.toNat
/-- The number that bytes write, the highest first. -/
def be (l : List UInt8) : Nat := l.foldl (fun v x => v * 256 + x.toNat) 0
def okAt (l : List UInt8) (at_ n : Int) : Bool := decide ((n = 1 ∨ n = 2 ∨ n = 4) ∧ 0 ≤ at_ ∧ at_ + n ≤ l.length)
def getU (l : List UInt8) (at_ n : Int) : Int := if okAt l at_ n then (be ((l.drop at_.toNat).take n.toNat) : Int) else 0
def sgn (n u : Int) : Int := if n = 1 then wrap8 u else if n = 2 then wrap16 u else wrap32 u
def getS (l : List UInt8) (at_ n : Int) : Int := if okAt l at_ n then sgn n (be ((l.drop at_.toNat).take n.toNat) : Int) else 0

theorem u8_lt (x : UInt8) : x.toNat < 256 := x.toNat_lt
theorem or_join (v y : Nat) (hv : v < 1099511627776) (hy : y < 256) : bits .or .u64 ((v : Int) * 256) (y : Int) = (v : Int) * 256 + y := by
  have h := bits_or_u64_nat (v * 256) y (by omega) (by omega)
  rw [show ((v : Int) * 256) = ((v * 256 : Nat) : Int) by simp, h, nat_join 8 (v * 256) y (by omega) (by omega)]
  simp
theorem be_snoc (l : List UInt8) (x : UInt8) : be (l ++ [x]) = be l * 256 + x.toNat := by simp [be]
theorem be_bd (l : List UInt8) (k : Nat) (h : l.length ≤ k) : be l < 256 ^ k := by
  induction k generalizing l with
  | zero => have : l = [] := List.eq_nil_of_length_eq_zero (by omega); subst this; simp [be]
  | succ k ih =>
    rcases List.eq_nil_or_concat l with rfl | ⟨l', x, rfl⟩
    · have : 0 < 256 ^ (k + 1) := Nat.pow_pos (by omega)
      simpa [be] using this
    · rw [List.concat_eq_append, be_snoc]
      have h1 := ih l' (by simp at h; omega)
      have h2 := u8_lt x
      rw [Nat.pow_succ]
      omega

end Go.Proofs.Ytcklmhbcjgiplaa
