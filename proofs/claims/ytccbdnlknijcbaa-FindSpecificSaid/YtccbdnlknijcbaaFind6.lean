/-
  Package find by contract: try, Method, Face.
-/
import Derived.Test.YtccbdnlknijcbaaFind5
import Derived.Laws.EntriesVeiled
namespace Go.Proofs.Ytccbdnlknijcbaa
open Go.RowKit
set_option maxRecDepth 100000

end Go.Proofs.Ytccbdnlknijcbaa
