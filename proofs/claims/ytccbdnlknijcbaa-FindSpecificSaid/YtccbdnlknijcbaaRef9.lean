/-
  The document's own answer for chapter 9, by contract: over, Above, All, Sub.
-/
import Derived.Test.YtccbdnlknijcbaaAbove
namespace Go.Proofs.Ytccbdnlknijcbaa
open Go.RowKit Go.Maps Go.WideMaps
set_option maxRecDepth 100000

theorem strs_one (l : List ByteArray) : ∀ u ∈ l.flatMap encS, u.oneCell' = true := by
  intro u hu
  obtain ⟨y, _, hy⟩ := List.mem_flatMap.1 hu
  obtain rfl : u = Value.string y := by simpa [encS] using hy
  rfl
theorem stp_skip {D : List TD} {f : Nat} {busy out : List ByteArray} {x : ByteArray} (h : ¬ there D x ∨ x ∈ busy ∨ x ∈ out) : stp D f busy out x = out := by unfold stp; rw [if_pos h]
theorem stp_go {D : List TD} {f : Nat} {busy out : List ByteArray} {x : ByteArray} (h1 : there D x) (h2 : x ∉ busy) (h3 : x ∉ out) : stp D f busy out x = ovr D f x (busy ++ [x]) out ++ [x] := by
  unfold stp
  rw [if_neg]
  rintro (h | h | h)
  · exact h h1
  · exact h2 h
  · exact h3 h
theorem fold_next {D : List TD} {f : Nat} {busy out : List ByteArray} {l : List ByteArray} {i : Nat} {x : ByteArray} (hx : l[i]? = some x) : (l.drop i).foldl (stp D f busy) out = (l.drop (i + 1)).foldl (stp D f busy) (stp D f busy out x) := by
  have hl := (List.getElem?_eq_some_iff.1 hx).1
  rw [List.drop_eq_getElem_cons hl, List.foldl_cons, (List.getElem?_eq_some_iff.1 hx).2]

def Overed (w0 w : World) (vo : Value) (l : List ByteArray) (e : Ending) (w' : World) : Prop :=
  ∃ v', e = .returned v' ∧ w'.ownsRow w0.heap.size 9 1 v' l.length (l.flatMap encS) ∧ Touch (fun k => vo.ownBlock = some k) w w' ∧ ∀ k, v'.ownBlock = some k → vo.ownBlock = some k ∨ w.heap.size ≤ k

end Go.Proofs.Ytccbdnlknijcbaa
