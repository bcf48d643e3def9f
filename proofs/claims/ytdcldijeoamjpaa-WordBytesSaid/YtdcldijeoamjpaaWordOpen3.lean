/-
  The arguments of the law WordBytes.
-/
import Derived.Test.YtdcldijeoamjpaaOpenBytes
import Derived.Test.YtdcldijeoamjpaaWordLaw3
namespace Go.Proofs.Ytdcldijeoamjpaa
open Go.RowKit Go.ChangeShapes Go.WideShapes
theorem open_bytesT {H : Type} {enc : TypeId × Value → H} {w : World} {base b0 : Nat} {spare : Nat → Bool} {held : Bool} {r : Reach} {v : Value} {d : DataW H} {p : List MemPlace}
    (hval : Value.okWide Try.prog w r b0 29 v) (h : DataW.Trod enc Try.prog w base spare held 29 v d p) : ∃ l : List UInt8, Rd w 1 v l.length (l.map byteV) :=
  open_bytes Try.underlying29 Try.underlying5 (by kernel_rfl) hval h
end Go.Proofs.Ytdcldijeoamjpaa
