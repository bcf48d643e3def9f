/-
  The functions of the document's own answer for chapter 1 that only reckon, by contract.
-/
import Derived.Test.YtlipdifhdaaknaaWord
namespace Go.Proofs.Ytlipdifhdaaknaa
open Go.RowKit

end Go.Proofs.Ytlipdifhdaaknaa
