/-
  The document's own answer for chapter 9, by contract: Above, All, Sub.
-/
import Derived.Test.YtccbdnlknijcbaaRef9
namespace Go.Proofs.Ytccbdnlknijcbaa
open Go.RowKit Go.Maps Go.WideMaps
set_option maxRecDepth 100000

theorem rd_far {w w' : World} {S : Nat → Prop} {sz n : Nat} {v : Value} {xs : List Value} (h : Rd w sz v n xs) (ht : Touch S w w') (hn : ∀ k, v.ownBlock = some k → ¬ S k) : Rd w' sz v n xs := by
  obtain ⟨hl, a, c, rfl, h1, h2, h3⟩ := h
  refine ⟨hl, a, c, rfl, h1, h2, fun h0 => ?_⟩
  obtain ⟨b, off, rfl, hc⟩ := h3 h0
  exact ⟨b, off, rfl, fun j u hu => ht.cell (hc j u hu) (hn b rfl)⟩

end Go.Proofs.Ytccbdnlknijcbaa
