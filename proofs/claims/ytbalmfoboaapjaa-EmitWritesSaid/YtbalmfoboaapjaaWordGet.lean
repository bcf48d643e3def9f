/-
  word.Get, word.Signed and the document's own Get, by contract.
-/
import Derived.Test.YtbalmfoboaapjaaWordBytes
namespace Go.Proofs.Ytbalmfoboaapjaa
set_option linter.unusedVariables false
set_option linter.unusedSimpArgs false
open Go.RowKit

theorem drop_cons {α : Type} {l : List α} {k : Nat} {x : α} (h : l[k]? = some x) : l.drop k = x :: l.drop (k + 1) := by
  obtain ⟨hk, rfl⟩ := List.getElem?_eq_some_iff.1 h
  exact List.drop_eq_getElem_cons hk
theorem take1 {α : Type} {l : List α} {k : Nat} {x : α} (h : l[k]? = some x) : (l.drop k).take 1 = [x] := by rw [drop_cons h]; simp
theorem take2 {α : Type} {l : List α} {k : Nat} {x y : α} (h : l[k]? = some x) (h1 : l[k + 1]? = some y) : (l.drop k).take 2 = [x, y] := by rw [drop_cons h, drop_cons h1]; simp
theorem take4 {α : Type} {l : List α} {k : Nat} {x y z t : α} (h : l[k]? = some x) (h1 : l[k + 1]? = some y) (h2 : l[k + 2]? = some z) (h3 : l[k + 3]? = some t) : (l.drop k).take 4 = [x, y, z, t] := by
  rw [drop_cons h, drop_cons h1, drop_cons h2, drop_cons h3]; simp
theorem some_at {α : Type} (l : List α) (k : Nat) (h : k < l.length) : ∃ x, l[k]? = some x := ⟨l[k], List.getElem?_eq_getElem h⟩
theorem be_small (l : List UInt8) (h : l.length ≤ 4) : be l < 4294967296 := Nat.lt_of_lt_of_le (be_bd l 4 h) (by decide)
theorem be_next {l : List UInt8} {k j : Nat} {x : UInt8} (h : l[k + j]? = some x) : be ((l.drop k).take (j + 1)) = be ((l.drop k).take j) * 256 + x.toNat := by
  rw [List.take_add_one, List.getElem?_drop, h]; exact be_snoc _ _
theorem okAt_true {l : List UInt8} {at_ n : Int} (h : okAt l at_ n = true) : (n = 1 ∨ n = 2 ∨ n = 4) ∧ ∃ k : Nat, at_ = k ∧ (k : Int) + n ≤ l.length := by
  simp only [okAt, decide_eq_true_eq] at h
  exact ⟨h.1, at_.toNat, by omega, by omega⟩
theorem okAt_false {l : List UInt8} {at_ n : Int} (h : okAt l at_ n = false) : ¬ ((n = 1 ∨ n = 2 ∨ n = 4) ∧ 0 ≤ at_ ∧ at_ + n ≤ l.length) := by
  simpa only [okAt, decide_eq_false_iff_not] using h

end Go.Proofs.Ytbalmfoboaapjaa
