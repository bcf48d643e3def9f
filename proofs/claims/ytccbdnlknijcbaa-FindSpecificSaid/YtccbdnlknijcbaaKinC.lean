/-
  Package kin and the document by contract: Sees, Allows of both.
-/
import Derived.Test.YtccbdnlknijcbaaKinB
namespace Go.Proofs.Ytccbdnlknijcbaa
open Go.RowKit
set_option maxRecDepth 100000

def near (a b : ByteArray) : Bool := (pkgOf a).toList == (pkgOf b).toList
def seesB (D : List TD) (f t : ByteArray) : Bool := match atO D t with
  | some k => (!decide (bits .and .i64 ((D[k]?.map (·.access)).getD 0) 1 = 0)) || near f t
  | none => false
theorem seesB_none {D : List TD} {f t : ByteArray} (h : atO D t = none) : seesB D f t = false := by simp [seesB, h]
theorem seesB_some {D : List TD} {f t : ByteArray} {k : Nat} {x : TD} (h : atO D t = some k) (hx : D[k]? = some x) : seesB D f t = ((!decide (bits .and .i64 x.access 1 = 0)) || near f t) := by simp [seesB, h, hx]

def allowsB (D : List TD) (f o : ByteArray) (acc : Int) : Bool :=
  if bits .and .i64 acc 1 = 0 then (if bits .and .i64 acc 4 = 0 then (if bits .and .i64 acc 2 = 0 then near f o else f.toList == o.toList) else near f o || decide (subB D f o)) else true

end Go.Proofs.Ytccbdnlknijcbaa
