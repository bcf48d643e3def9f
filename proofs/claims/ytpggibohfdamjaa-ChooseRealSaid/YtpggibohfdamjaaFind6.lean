/-
  Package find by contract: try, Method, Face.
-/
import Derived.Test.YtpggibohfdamjaaFind5
import Derived.Laws.EntriesVeiled
namespace Go.Proofs.Ytpggibohfdamjaa
open Go.RowKit
set_option maxRecDepth 100000

end Go.Proofs.Ytpggibohfdamjaa
