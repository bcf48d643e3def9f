/-
  The functions of the document's own answer for chapter 1 that only reckon, by contract.
-/
import Derived.Test.YtcklmhbcjgiplaaWord
namespace Go.Proofs.Ytcklmhbcjgiplaa
set_option linter.unusedVariables false
set_option linter.unusedSimpArgs false
open Go.RowKit

end Go.Proofs.Ytcklmhbcjgiplaa
