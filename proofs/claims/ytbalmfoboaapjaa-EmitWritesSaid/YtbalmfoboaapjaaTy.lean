/-
  What a block's cells are of. No function of the program in sight.
-/
import Derived.Test.YtbalmfoboaapjaaVal
import Derived.Test.YtbalmfoboaapjaaDict
namespace Go.Proofs.Ytbalmfoboaapjaa
set_option linter.unusedVariables false
set_option linter.unusedSimpArgs false
open Go.RowKit

/-- The type of a block of cells. -/
def TyAt (w : World) (k : Nat) (e : TypeId) : Prop := ∃ cur, w.heap[k]? = some (.cells cur e (0, 0))
theorem TyAt.uniq {w : World} {k : Nat} {e e' : TypeId} (h : TyAt w k e) (h' : TyAt w k e') : e = e' := by
  obtain ⟨c, h⟩ := h
  obtain ⟨c', h'⟩ := h'
  rw [h] at h'
  injection h' with h'
  injection h'
theorem Blk.ty {w : World} {g : Nat} {t : TypeId} {cs : Array Value} (h : Blk w g t cs) : TyAt w g t := ⟨cs, h⟩
theorem own_ty {w : World} {B : Nat} {e : TypeId} {sz n : Nat} {v : Value} {xs : List Value} (h : w.ownsRow B e sz v n xs) : ∀ k, v.ownBlock = some k → TyAt w k e := by
  intro k hk
  rcases h.2 with ⟨rfl, _⟩ | ⟨g, cap, cur, rfl, _, hh, _⟩
  · cases hk
  · obtain rfl : g = k := by simpa [Value.ownBlock] using hk
    exact ⟨cur, hh⟩
theorem Row.ty {w : World} {B : Nat} {e : TypeId} {sz n : Nat} {v : Value} {xs : List Value} (h : Row w B e sz v n xs) : ∀ k, v.ownBlock = some k → TyAt w k e := by
  intro k hk
  rcases h.2 with ⟨rfl, _⟩ | ⟨g, cap, cur, rfl, _, hh, _⟩
  · cases hk
  · obtain rfl : g = k := by simpa [Value.ownBlock] using hk
    exact ⟨cur, hh⟩
theorem TyAt.ne {w : World} {k k' : Nat} {e e' : TypeId} (h : TyAt w k e) (h' : TyAt w k' e') (hn : e ≠ e') : k ≠ k' := by
  rintro rfl
  exact hn (h.uniq h')
theorem Row.base {w : World} {B B' : Nat} {e : TypeId} {sz n : Nat} {v : Value} {xs : List Value} (h : Row w B' e sz v n xs) (hB : B ≤ B') : Row w B e sz v n xs := by
  refine ⟨h.1, ?_⟩
  rcases h.2 with h0 | ⟨g, cap, cur, hv, hg, r⟩
  · exact .inl h0
  · exact .inr ⟨g, cap, cur, hv, Nat.le_trans hB hg, r⟩
theorem Dict.ty {α : Type} {P : Program} {k : TypeId} {enc : α → Value} {w : World} {b n : Nat} {f : α → Option Value} {g : Nat} {e : TypeId} (h : Dict P k enc w b n f) (hg : TyAt w g e) : g ≠ b := by
  obtain ⟨cur, hg⟩ := hg
  exact fun e' => h.blk (g := g) (t := e) (cs := cur) hg e'.symm
end Go.Proofs.Ytbalmfoboaapjaa
