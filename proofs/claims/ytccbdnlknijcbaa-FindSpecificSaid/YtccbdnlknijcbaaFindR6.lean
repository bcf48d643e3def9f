/-
  The document's search by contract: Field, faces, Method, Face.
-/
import Derived.Test.YtccbdnlknijcbaaFindR5
import Derived.Test.YtccbdnlknijcbaaFindG
namespace Go.Proofs.Ytccbdnlknijcbaa
open Go.RowKit
set_option maxRecDepth 100000


end Go.Proofs.Ytccbdnlknijcbaa
