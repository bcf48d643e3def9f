/-
  A class's package, by contract: desc.Package and the document's.
-/
import Derived.Test.YtccbdnlknijcbaaKin1
namespace Go.Proofs.Ytccbdnlknijcbaa
open Go.RowKit
set_option maxRecDepth 100000

/-- The place of the last slash ahead of place k. -/
def lastIx (s : ByteArray) : Nat → Option Nat
  | 0 => none
  | k + 1 => if (s.data.toList[k]?.map (fun c => decide ((c.toNat : Int) = 47))) = some true then some k else lastIx s k
def pkgOf (s : ByteArray) : ByteArray := s.extract 0 ((lastIx s s.size).getD 0)
theorem lastIx_lt {s : ByteArray} : ∀ {n k : Nat}, lastIx s n = some k → k < n
  | 0, k, h => by cases h
  | n + 1, k, h => by
    unfold lastIx at h
    split at h
    · obtain rfl : n = k := by simpa using h
      omega
    · have := lastIx_lt h
      omega
theorem lastIx_yes {s : ByteArray} {k : Nat} (hk : k < s.size) (h : ((s[k].toNat : Int) = 47)) : lastIx s (k + 1) = some k := by
  unfold lastIx
  rw [if_pos]
  rw [List.getElem?_eq_getElem (by simpa using hk)]
  have : s.data.toList[k]'(by simpa using hk) = s[k] := rfl
  simp [this, h]
theorem lastIx_no {s : ByteArray} {k : Nat} (hk : k < s.size) (h : ¬ ((s[k].toNat : Int) = 47)) : lastIx s (k + 1) = lastIx s k := by
  rw [lastIx, if_neg]
  rw [List.getElem?_eq_getElem (by simpa using hk)]
  have : s.data.toList[k]'(by simpa using hk) = s[k] := rfl
  simp [this, h]
theorem ext00 (s : ByteArray) : s.extract 0 0 = ByteArray.empty := ByteArray.ext (by simp)
def lastI (s : ByteArray) : Int := match lastIx s s.size with
  | some k => k
  | none => -1

end Go.Proofs.Ytccbdnlknijcbaa
