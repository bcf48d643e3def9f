/-
  The functions of package word that only reckon, by contract: each answers a number of 32 bits, and writes nothing.
-/
import Derived.Test.YtcklmhbcjgiplaaProg
import Derived.Test.YtcklmhbcjgiplaaWordMath
namespace Go.Proofs.Ytcklmhbcjgiplaa
set_option linter.unusedVariables false
set_option linter.unusedSimpArgs false
open Go.RowKit

end Go.Proofs.Ytcklmhbcjgiplaa
