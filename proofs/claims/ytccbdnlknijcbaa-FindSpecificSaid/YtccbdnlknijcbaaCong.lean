/-
  Lists of types that have the same names, supers, interfaces: plain.
-/
import Derived.Test.YtccbdnlknijcbaaLetter
namespace Go.Proofs.Ytccbdnlknijcbaa
open Go.RowKit
set_option maxRecDepth 100000

theorem atO_congr : ∀ {D D' : List TD}, D.map (·.name) = D'.map (·.name) → ∀ s, atO D s = atO D' s
  | [], [], _, _ => rfl
  | [], _ :: _, h, _ => by simp at h
  | _ :: _, [], h, _ => by simp at h
  | t :: D, t' :: D', h, s => by
    simp only [List.map_cons, List.cons.injEq] at h
    unfold atO
    rw [h.1, atO_congr h.2 s]
theorem chainR_congr {D D' : List TD} (hn : D.map (·.name) = D'.map (·.name)) (hs : D.map (·.super) = D'.map (·.super)) : ∀ (f : Nat) (s : ByteArray) (out : List ByteArray), chainR D f s out = chainR D' f s out
  | 0, _, _ => rfl
  | f + 1, s, out => by
    have h : ∀ k : Nat, (D[k]?.map (·.super)) = (D'[k]?.map (·.super)) := fun k => by
      rw [← List.getElem?_map, ← List.getElem?_map, hs]
    unfold chainR
    rw [atO_congr hn s]
    cases atO D' s with
    | none => rfl
    | some k => simp only [h k, chainR_congr hn hs f]
theorem chainL_congr {D D' : List TD} (hn : D.map (·.name) = D'.map (·.name)) (hs : D.map (·.super) = D'.map (·.super)) (s : ByteArray) : chainL D s = chainL D' s := by
  have hl : D.length = D'.length := by have := congrArg List.length hn; simpa using this
  unfold chainL
  rw [hl, chainR_congr hn hs]
theorem findSome_at {α β : Type} {g : α → Option β} : ∀ {l : List α} {j : Nat} {x : α} {y : β}, l[j]? = some x → g x = some y → (∀ i z, i < j → l[i]? = some z → g z = none) → l.findSome? g = some y
  | [], _, _, _, h, _, _ => by simp at h
  | z :: l, 0, x, y, h, hg, _ => by
    simp only [List.getElem?_cons_zero, Option.some.injEq] at h
    subst h
    rw [List.findSome?_cons, hg]
  | z :: l, j + 1, x, y, h, hg, hno => by
    rw [List.findSome?_cons, hno 0 z (by omega) rfl]
    exact findSome_at (l := l) (j := j) (by simpa using h) hg fun i z hi hz => hno (i + 1) z (by omega) (by simpa using hz)

def supN (n i : Nat) : ByteArray := if i + 1 < n then letterS (i + 1) else ⟨#[]⟩
theorem letter_ne : ∀ i < 26, ∀ j < 26, letterS i = letterS j → i = j := by decide +kernel
section
variable {D D' : List TD}
theorem ifs_congr (hn : D.map (·.name) = D'.map (·.name)) (hi : D.map (·.interfaces) = D'.map (·.interfaces)) (s : ByteArray) : ifs D s = ifs D' s := by
  unfold ifs
  rw [atO_congr hn s]
  cases atO D' s with
  | none => rfl
  | some k =>
    have h : (D[k]?.map (·.interfaces)) = (D'[k]?.map (·.interfaces)) := by rw [← List.getElem?_map, ← List.getElem?_map, hi]
    simp only [h]
theorem there_congr (hn : D.map (·.name) = D'.map (·.name)) (s : ByteArray) : there D s ↔ there D' s := by unfold there; rw [atO_congr hn s]
theorem ovr_congr (hn : D.map (·.name) = D'.map (·.name)) (hi : D.map (·.interfaces) = D'.map (·.interfaces)) : ∀ (f : Nat) (s : ByteArray) (busy out : List ByteArray), ovr D f s busy out = ovr D' f s busy out
  | 0, _, _, _ => by unfold ovr; rfl
  | f + 1, s, busy, out => by
    rw [ovr_succ, ovr_succ, ifs_congr hn hi]
    refine congrArg (fun g => List.foldl g out (ifs D' s)) ?_
    funext o x
    unfold stp
    simp only [there_congr hn x, ovr_congr hn hi f]
theorem allL_congr (hn : D.map (·.name) = D'.map (·.name)) (hs : D.map (·.super) = D'.map (·.super)) (hi : D.map (·.interfaces) = D'.map (·.interfaces)) (s : ByteArray) : allL D s = allL D' s := by
  have hl : D.length = D'.length := by have := congrArg List.length hn; simpa using this
  have ha : ∀ c, aboveL D c = aboveL D' c := fun c => by unfold aboveL; rw [hl, ovr_congr hn hi]
  rw [allL_eq, allL_eq, chainL_congr hn hs]
  simp only [ha]
end
end Go.Proofs.Ytccbdnlknijcbaa
