/-
  turnstilelaw9.Big: a list of types that is not too much has short lists.
-/
import Derived.Test.YtccbdnlknijcbaaTouch
import Derived.Test.YtccbdnlknijcbaaOpenType
namespace Go.Proofs.Ytccbdnlknijcbaa
open Go.RowKit
set_option maxRecDepth 100000

/-- How many there are in a type. -/
def TypeV.count (y : TypeV) : Nat := y.interfaces.length + y.fields.length + y.methods.length

theorem type_cells {w : World} {l : List TypeV} {v : Value} (hr : Rd w 6 v l.length (l.flatMap encTypeV)) {i : Nat} {m : TypeV} (hm : l[i]? = some m) :
    ∃ b off c, v = .slice (some ⟨b, off, none⟩) l.length c ∧ c ≤ 9223372036854775807 ∧ w.cell? ⟨b, off + i * 6, none⟩ = some (.string m.name) ∧ w.cell? ⟨b, off + i * 6 + 1, none⟩ = some (.string m.super) ∧ w.cell? ⟨b, off + i * 6 + 2, none⟩ = some (.int .i64 m.access) ∧ w.cell? ⟨b, off + i * 6 + 3, none⟩ = some m.interfacesV ∧ w.cell? ⟨b, off + i * 6 + 4, none⟩ = some m.fieldsV ∧ w.cell? ⟨b, off + i * 6 + 5, none⟩ = some m.methodsV := by
  have hl := (List.getElem?_eq_some_iff.1 hm).1
  rcases hr.parts with ⟨h0, _⟩ | ⟨b, off, c, rfl, h0, h1, h2, hc⟩
  · omega
  · have hg : ∀ f u, (encTypeV m)[f]? = some u → f < 6 → w.cell? ⟨b, off + (i * 6 + f), none⟩ = some u := fun f u hu hf => hc _ _ (by rw [flat_get encTypeV 6 (fun _ => rfl) l i f m hm hf]; exact hu)
    exact ⟨b, off, c, rfl, h2, hg 0 _ rfl (by omega), hg 1 _ rfl (by omega), hg 2 _ rfl (by omega), hg 3 _ rfl (by omega), hg 4 _ rfl (by omega), hg 5 _ rfl (by omega)⟩

end Go.Proofs.Ytccbdnlknijcbaa
