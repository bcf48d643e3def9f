/-
  Package find by contract: try, Method, Face.
-/
import Derived.Test.YteblpdcedlaedaaFind5
import Derived.Laws.EntriesVeiled
namespace Go.Proofs.Yteblpdcedlaedaa
open Go.RowKit
set_option maxRecDepth 100000

end Go.Proofs.Yteblpdcedlaedaa
