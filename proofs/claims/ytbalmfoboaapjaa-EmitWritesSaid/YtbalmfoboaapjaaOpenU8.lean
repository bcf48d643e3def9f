/-
  A byte of an argument, as the walks want it.
-/
import Derived.Test.YtbalmfoboaapjaaOpenReach
import Derived.Test.YtbalmfoboaapjaaWordBytes
import Derived.ProofKit
import Derived.OpenShut
namespace Go.Proofs.Ytbalmfoboaapjaa
set_option linter.unusedVariables false
set_option linter.unusedSimpArgs false
open Go.RowKit Go.ChangeShapes Go.WideShapes Go.Deep
theorem byte_of_wf' {n : Int} (h : (Lit.int .u8 n).wf = true) : Value.int .u8 n = byteV (UInt8.ofNat n.toNat) := by
  have hb := bounds_u8 h
  unfold byteV
  congr 1
  rw [UInt8.toNat_ofNat']
  omega
theorem elem_u8_ {H : Type} {enc : TypeId × Value → H} {P : Program} {w : World} {base : Nat} {spare : Nat → Bool} {held : Bool} {t : TypeId} (ht : P.underlying t = some (.int .u8)) (n : Nat) (cs : List Value) (x : DataW H × List MemPlace) (hl : cs.length = 1) (h : DataW.trod enc P w base spare held n t cs = some x) :
    ∃ k : UInt8, cs = [byteV k] ∧ True := by
  match cs, hl with
  | [c], _ =>
    obtain ⟨k, hk, _, hw⟩ := DataW.trod_int ht h
    simp at hk
    exact ⟨UInt8.ofNat k.toNat, by rw [hk, byte_of_wf' hw], trivial⟩
end Go.Proofs.Ytbalmfoboaapjaa
