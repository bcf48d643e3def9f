/-
  Package find by contract: Method, Face.
-/
import Derived.Test.YteblpdcedlaedaaFind5
import Derived.Test.YteblpdcedlaedaaFind6
namespace Go.Proofs.Yteblpdcedlaedaa
open Go.RowKit
set_option maxRecDepth 100000

end Go.Proofs.Yteblpdcedlaedaa
