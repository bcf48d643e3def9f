/-
  Package kin and the document by contract: the document's Sub; Defaults, Sees, Allows of both.
-/
import Derived.Test.YtccbdnlknijcbaaSub
import Derived.Test.YtccbdnlknijcbaaRef9b
import Derived.Test.YtccbdnlknijcbaaPkg
namespace Go.Proofs.Ytccbdnlknijcbaa
open Go.RowKit
set_option maxRecDepth 100000

theorem RowS.has {B : Nat} {l : List ByteArray} {w : World} {v : Value} (h : RowS B l w v) : Rd w 1 v l.length (l.flatMap encS) := Row.rd h

/-- Has a type a method that is neither abstract nor static? -/
def dfl (m : MemberV) : Bool := decide (bits .and .i64 m.access 1032 = 0)
def dflL (D : List TD) (s : ByteArray) : Bool := match atO D s with
  | some k => ((D[k]?).map fun t => t.methods.any dfl).getD false
  | none => false
theorem dflL_at {D : List TD} {s : ByteArray} {k : Nat} {t : TD} (h : atO D s = some k) (ht : D[k]? = some t) : dflL D s = t.methods.any dfl := by simp [dflL, h, ht]

theorem mem_row {w : World} {l : List MemberV} {v : Value} {n : Nat} (hn : n = l.length) (hr : Rd w 5 v n (l.flatMap encMemberV)) {i : Nat} {m : MemberV} (hm : l[i]? = some m) :
    ∃ b off c, v = .slice (some ⟨b, off, none⟩) n c ∧ w.cell? ⟨b, off + i * 5, none⟩ = some (.int .i64 m.access) ∧ w.cell? ⟨b, off + i * 5 + 1, none⟩ = some (.string m.name) ∧ w.cell? ⟨b, off + i * 5 + 2, none⟩ = some (.string m.desc) ∧ w.cell? ⟨b, off + i * 5 + 3, none⟩ = some (.bool m.has) ∧ w.cell? ⟨b, off + i * 5 + 4, none⟩ = some (.int .i64 m.value) := by
  have hl := (List.getElem?_eq_some_iff.1 hm).1
  rcases hr.parts with ⟨h0, _⟩ | ⟨b, off, c, rfl, h0, h1, h2, hc⟩
  · omega
  · have hg : ∀ f u, (encMemberV m)[f]? = some u → f < 5 → w.cell? ⟨b, off + (i * 5 + f), none⟩ = some u := fun f u hu hf => hc _ _ (by rw [flat_get encMemberV 5 (fun _ => rfl) l i f m hm hf]; exact hu)
    exact ⟨b, off, c, rfl, hg 0 _ rfl (by omega), hg 1 _ rfl (by omega), hg 2 _ rfl (by omega), hg 3 _ rfl (by omega), hg 4 _ rfl (by omega)⟩

end Go.Proofs.Ytccbdnlknijcbaa
