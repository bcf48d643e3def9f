/-
  Values as data: rows of them. Rows that are read and stored into, and never appended to.
-/
import Derived.Test.YtbalmfoboaapjaaProg
import Derived.Test.YtbalmfoboaapjaaTouch
import Derived.Deep.AppendLies
import Derived.Deep.RegionLaw
import Derived.BigRegion
namespace Go.Proofs.Ytbalmfoboaapjaa
set_option linter.unusedVariables false
set_option linter.unusedSimpArgs false
open Go.RowKit
set_option maxRecDepth 100000

/-- A value as data. -/
structure ValV where
  ref : Bool
  n : Int
def encVal (x : ValV) : List Value := [.bool x.ref, .int .i64 x.n]
theorem encVal_len (x : ValV) : (encVal x).length = 2 := rfl
theorem encVal_one (x : ValV) : ∀ u ∈ encVal x, u.oneCell' = true := by intro u hu; simp [encVal] at hu; rcases hu with rfl | rfl <;> rfl
def zeroV : ValV := ⟨false, 0⟩
theorem vals_one (l : List ValV) : ∀ u ∈ l.flatMap encVal, u.oneCell' = true := by
  intro u hu
  obtain ⟨y, _, hy⟩ := List.mem_flatMap.1 hu
  exact encVal_one y u hy
theorem vals_set (l : List ValV) (y : ValV) (k : Nat) (hk : k < l.length) : ((l.flatMap encVal).set (k * 2) (.bool y.ref)).set (k * 2 + 1) (.int .i64 y.n) = (l.set k y).flatMap encVal := by
  rw [flat_set2 encVal encVal_len y _ _ rfl, if_pos hk]
theorem val_rd {w : World} {l : List ValV} {v : Value} {n : Nat} (hl : l.length = n) (hr : Rd w 2 v n (l.flatMap encVal)) {i : Nat} {m : ValV} (hm : l[i]? = some m) :
    ∃ b off c, v = .slice (some ⟨b, off, none⟩) n c ∧ c ≤ 9223372036854775807 ∧ w.cell? ⟨b, off + i * 2, none⟩ = some (.bool m.ref) ∧ w.cell? ⟨b, off + i * 2 + 1, none⟩ = some (.int .i64 m.n) := by
  have hl' := (List.getElem?_eq_some_iff.1 hm).1
  rcases hr.parts with ⟨h0, _⟩ | ⟨b, off, c, rfl, h0, h1, h2, hc⟩
  · omega
  · have hg : ∀ f u, (encVal m)[f]? = some u → f < 2 → w.cell? ⟨b, off + (i * 2 + f), none⟩ = some u := fun f u hu hf => hc _ _ (by rw [flat_get encVal 2 (fun _ => rfl) l i f m hm hf]; exact hu)
    exact ⟨b, off, c, rfl, h2, hg 0 _ rfl (by omega), hg 1 _ rfl (by omega)⟩

/-- A row of the call's own that is read and stored into; what lies behind its n elements is left open. -/
def Row (w : World) (base e sz : Nat) (v : Value) (n : Nat) (xs : List Value) : Prop :=
  xs.length = n * sz ∧ ((v = .slice none 0 0 ∧ n = 0) ∨ ∃ g cap cur, v = .slice (some ⟨g, 0, none⟩) n cap ∧ base ≤ g ∧ w.heap[g]? = some (.cells cur e (0, 0)) ∧ n ≤ cap ∧ cap ≤ 9223372036854775807 ∧ cur.toList.take (n * sz) = xs)

section
variable {w w' : World} {base e sz n : Nat} {v : Value} {xs : List Value}
theorem Row.of_own (h : w.ownsRow base e sz v n xs) : Row w base e sz v n xs := by
  obtain ⟨hl, h⟩ := h
  rcases h with h | ⟨g, cap, cur, hv, hg, hh, hn, hc, _, ht⟩
  · exact ⟨hl, .inl h⟩
  · exact ⟨hl, .inr ⟨g, cap, cur, hv, hg, hh, hn, by simpa [maxLen] using hc, ht⟩⟩
theorem Row.nil (w : World) (base e sz : Nat) : Row w base e sz (.slice none 0 0) 0 [] := ⟨by simp, .inl ⟨rfl, rfl⟩⟩
theorem Row.form (h : Row w base e sz v n xs) : ∃ a c, v = .slice a n c ∧ n ≤ c ∧ c ≤ 9223372036854775807 := by
  rcases h.2 with ⟨rfl, rfl⟩ | ⟨g, cap, cur, rfl, _, _, hn, hc, _⟩
  · exact ⟨none, 0, rfl, Nat.le_refl _, by omega⟩
  · exact ⟨_, cap, rfl, hn, hc⟩
theorem Row.lt (h : Row w base e sz v n xs) : ∀ k, v.ownBlock = some k → base ≤ k ∧ k < w.heap.size := by
  intro k hk
  rcases h.2 with ⟨rfl, _⟩ | ⟨g, cap, cur, rfl, hg, hh, _⟩
  · cases hk
  · have : g = k := by simpa [Value.ownBlock] using hk
    subst this
    exact ⟨hg, (Array.getElem?_eq_some_iff.1 hh).1⟩
theorem Row.touch {S : Nat → Prop} (h : Row w base e sz v n xs) (ht : Touch S w w') (hn : ∀ k, v.ownBlock = some k → ¬ S k) : Row w' base e sz v n xs := by
  refine ⟨h.1, ?_⟩
  rcases h.2 with h0 | ⟨g, cap, cur, rfl, hg, hh, r⟩
  · exact .inl h0
  · exact .inr ⟨g, cap, cur, rfl, hg, ht.block hh (hn g rfl), r⟩
theorem Row.kept (h : Row w base e sz v n xs) (hk : Kept w w') : Row w' base e sz v n xs := h.touch (S := fun _ => False) (Touch.of_kept hk) (fun _ _ => id)
/-- The capacity cut to the length. -/
theorem Row.clip {a : Option Addr} {c : Nat} (h : Row w base e sz (.slice a n c) n xs) : Row w base e sz (.slice a n n) n xs := by
  refine ⟨h.1, ?_⟩
  rcases h.2 with ⟨h0, rfl⟩ | ⟨g, cap, cur, hv, hg, hh, hn, hc, ht⟩
  · simp only [Value.slice.injEq] at h0
    obtain ⟨rfl, -, -⟩ := h0
    exact .inl ⟨rfl, rfl⟩
  · simp only [Value.slice.injEq] at hv
    obtain ⟨rfl, -, rfl⟩ := hv
    exact .inr ⟨g, n, cur, rfl, hg, hh, Nat.le_refl _, Nat.le_trans hn hc, ht⟩
theorem Row.cells {g c : Nat} (h : Row w base e sz (.slice (some ⟨g, 0, none⟩) n c) n xs) : (∀ j u, xs[j]? = some u → w.cell? ⟨g, j, none⟩ = some u) ∧ (∀ j, w.frozen? ⟨g, j, none⟩ = false) ∧ base ≤ g ∧ g < w.heap.size := by
  rcases h.2 with ⟨h0, _⟩ | ⟨g', cap, cur, hv, hg, hh, hn, hc, ht⟩
  · cases h0
  · simp only [Value.slice.injEq, Option.some.injEq, Addr.mk.injEq] at hv
    obtain ⟨⟨rfl, -, -⟩, -, rfl⟩ := hv
    refine ⟨fun j u hu => ?_, fun j => by simp [World.frozen?, hh], hg, (Array.getElem?_eq_some_iff.1 hh).1⟩
    rw [cell_of_row w g j cur e (0, 0) hh, ← hu, ← ht, List.getElem?_take]
    have := (List.getElem?_eq_some_iff.1 hu).1
    rw [h.1] at this
    rw [if_pos this, Array.getElem?_toList]
theorem Row.addr (h : Row w base e sz v n xs) (hn : 0 < n) : ∃ g c, v = .slice (some ⟨g, 0, none⟩) n c ∧ n ≤ c ∧ c ≤ 9223372036854775807 := by
  rcases h.2 with ⟨_, h0⟩ | ⟨g, cap, cur, rfl, _, _, hnc, hc, _⟩
  · omega
  · exact ⟨g, cap, rfl, hnc, hc⟩
theorem Row.store {g c : Nat} (h : Row w base e sz (.slice (some ⟨g, 0, none⟩) n c) n xs) (j : Nat) (u : Value) : Row (w.setCell ⟨g, j, none⟩ u) base e sz (.slice (some ⟨g, 0, none⟩) n c) n (xs.set j u) := by
  refine ⟨by rw [List.length_set]; exact h.1, ?_⟩
  rcases h.2 with ⟨h0, _⟩ | ⟨g', cap, cur, hv, hg, hh, hn, hc, ht⟩
  · cases h0
  · simp only [Value.slice.injEq, Option.some.injEq, Addr.mk.injEq] at hv
    obtain ⟨⟨rfl, -, -⟩, -, rfl⟩ := hv
    refine .inr ⟨g, c, cur.setIfInBounds j u, rfl, hg, ?_, hn, hc, ?_⟩
    · simp [World.setCell, Array.getElem?_modify, hh]
    · rw [Array.toList_setIfInBounds, List.take_set, ht]
theorem Row.rd (h : Row w base e sz v n xs) : Rd w sz v n xs := by
  refine ⟨h.1, ?_⟩
  rcases h.2 with ⟨rfl, rfl⟩ | ⟨g, cap, cur, rfl, hg, hh, hn, hc, ht⟩
  · exact ⟨none, 0, rfl, Nat.le_refl _, by omega, fun h => absurd h (by omega)⟩
  · exact ⟨_, cap, rfl, hn, hc, fun _ => ⟨g, 0, rfl, fun j u hu => by rw [Nat.zero_add]; exact (Row.cells ⟨h.1, .inr ⟨g, cap, cur, rfl, hg, hh, hn, hc, ht⟩⟩).1 j u hu⟩⟩
end
end Go.Proofs.Ytbalmfoboaapjaa
