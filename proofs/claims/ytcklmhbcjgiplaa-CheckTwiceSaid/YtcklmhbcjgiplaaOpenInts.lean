/-
  An argument that is a slice of numbers, as the walks want it.
-/
import Derived.Test.YtcklmhbcjgiplaaOpenRows
import Derived.Test.YtcklmhbcjgiplaaProg
namespace Go.Proofs.Ytcklmhbcjgiplaa
set_option linter.unusedVariables false
set_option linter.unusedSimpArgs false
open Go.RowKit Go.ChangeShapes Go.WideShapes Go.Deep
set_option maxRecDepth 100000
theorem flat_ints (l : List Int) : (l.flatMap fun k => [Value.int .i64 k]) = l.map (Value.int .i64) := by
  induction l with
  | nil => rfl
  | cons x l ih => simp only [List.flatMap_cons, List.map_cons, ih, List.singleton_append]
theorem open_intsR {H : Type} {enc : TypeId × Value → H} {w : World} {base b0 : Nat} {spare : Nat → Bool} {held : Bool} {r : Reach} {v : Value} {d : DataW H} {p : List MemPlace}
    (hval : Value.okWide Try.prog w r b0 23 v) (h : DataW.Trod enc Try.prog w base spare held 23 v d p) : ∃ l : List Int, Rd w 1 v l.length (l.map (Value.int .i64)) ∧ ∀ z ∈ l, -9223372036854775808 ≤ z ∧ z ≤ 9223372036854775807 := by
  obtain ⟨l, h1, h2⟩ := open_rows (fun k : Int => [Value.int .i64 k]) (fun z => -9223372036854775808 ≤ z ∧ z ≤ 9223372036854775807) 1 (by omega) (fun _ => rfl) (by kernel_rfl) Try.underlying23 (fun n cs x hl h => elem_int_ Try.underlying3 n cs x hl h) hval h
  exact ⟨l, by rw [← flat_ints]; exact h1, h2⟩
end Go.Proofs.Ytcklmhbcjgiplaa
