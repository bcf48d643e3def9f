/-
  Package find by contract: Method, Face.
-/
import Derived.Test.YtpggibohfdamjaaFind5
import Derived.Test.YtpggibohfdamjaaFind6
namespace Go.Proofs.Ytpggibohfdamjaa
open Go.RowKit
set_option maxRecDepth 100000

end Go.Proofs.Ytpggibohfdamjaa
