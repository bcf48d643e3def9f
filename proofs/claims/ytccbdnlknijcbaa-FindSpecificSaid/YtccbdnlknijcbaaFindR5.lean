/-
  The document's search by contract: over (fields), gone over.
-/
import Derived.Test.YtccbdnlknijcbaaFindR3
import Derived.Test.YtccbdnlknijcbaaFindR4
namespace Go.Proofs.Ytccbdnlknijcbaa
open Go.RowKit
set_option maxRecDepth 100000

theorem nmsL_of {D : List TD} {n d : ByteArray} {f : Nat} {x : ByteArray} {s : List ByteArray} {m : Nat} (hn : Nms D s) (hm : m ≤ s.length) : Nms D (ovF D n d f x s).2 ∧ m ≤ (ovF D n d f x s).2.length := by
  have h := ovF_nms (n := n) (d := d) (f := f) (s := x) (NmsL.mk hn hm)
  exact ⟨h.nms, h.le⟩

def OvIs (cl : ByteArray) (ix : Int) (b : Bool) (l : List ByteArray) (w : World) (e : Ending) (w' : World) : Prop := ∃ vs', e = .returned (.tuple #[.agg #[.string cl, .int .i64 ix], .bool b, vs']) ∧ Row w' 0 9 1 vs' l.length (l.flatMap encS) ∧ Kept w w'
theorem ov_none {w w' : World} {r : Option FV × List ByteArray} {e : Ending} (h : r.1 = none) (hp : OvPost w r e w') : OvIs ⟨#[]⟩ 0 false r.2 w e w' := by
  obtain ⟨vs, he, hr, hk⟩ := hp
  rw [h] at he
  exact ⟨vs, he, hr, hk⟩
theorem ov_some {w w' : World} {r : Option FV × List ByteArray} {e : Ending} {f : FV} (h : r.1 = some f) (hp : OvPost w r e w') : OvIs f.1 f.2 true r.2 w e w' := by
  obtain ⟨vs, he, hr, hk⟩ := hp
  rw [h] at he
  exact ⟨vs, he, hr, hk⟩

theorem ov_any {w w' : World} {r : Option FV × List ByteArray} {e : Ending} (hp : OvPost w r e w') : OvIs (r.1.getD f0).1 (r.1.getD f0).2 r.1.isSome r.2 w e w' := hp
theorem ov_back {w w' : World} {r : Option FV × List ByteArray} {p : ByteArray} {q : Int} {b : Bool} {vs : Value} (hp : p = (r.1.getD f0).1) (hq : q = ((r.1.getD f0).2 : Nat)) (hb : b = r.1.isSome) (hr : Row w' 0 9 1 vs r.2.length (r.2.flatMap encS)) (hk : Kept w w') : OvPost w r (.returned (.tuple #[.agg #[.string p, .int .i64 q], .bool b, vs])) w' := by
  subst hp hq hb
  exact ⟨vs, rfl, hr, hk⟩

end Go.Proofs.Ytccbdnlknijcbaa
