/-
  The document's search by contract: Most.
-/
import Derived.Test.YtccbdnlknijcbaaFindR1
namespace Go.Proofs.Ytccbdnlknijcbaa
open Go.RowKit
set_option maxRecDepth 100000

end Go.Proofs.Ytccbdnlknijcbaa
