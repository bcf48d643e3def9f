/-
  The arguments of the law SchedRound: slices of numbers.
-/
import Derived.Test.YteahbpcimnaioaaOpenRows
import Derived.Test.YteahbpcimnaioaaRoundLaw
namespace Go.Proofs.Yteahbpcimnaioaa
open Go.RowKit Go.ChangeShapes Go.WideShapes Go.Deep
theorem flat_ints (l : List Int) : (l.flatMap fun k => [Value.int .i64 k]) = l.map (Value.int .i64) := by
  induction l with
  | nil => rfl
  | cons x l ih => simp only [List.flatMap_cons, List.map_cons, ih, List.singleton_append]
theorem open_intsR {H : Type} {enc : TypeId × Value → H} {w : World} {base b0 : Nat} {spare : Nat → Bool} {held : Bool} {r : Reach} {v : Value} {d : DataW H} {p : List MemPlace}
    (hval : Value.okWide Try.prog w r b0 22 v) (h : DataW.Trod enc Try.prog w base spare held 22 v d p) : ∃ l : List Int, Rd w 1 v l.length (l.map (Value.int .i64)) ∧ ∀ z ∈ l, -9223372036854775808 ≤ z ∧ z ≤ 9223372036854775807 := by
  obtain ⟨l, h1, h2⟩ := open_rows (fun k : Int => [Value.int .i64 k]) (fun z => -9223372036854775808 ≤ z ∧ z ≤ 9223372036854775807) 1 (by omega) (fun _ => rfl) (by kernel_rfl) Try.underlying22 (fun n cs x hl h => elem_int_ Try.underlying3 n cs x hl h) hval h
  exact ⟨l, by rw [← flat_ints]; exact h1, h2⟩
theorem walk_SchedRound2 (ws : List Int) (x0 : Value) (os : List Int) (x1 : Value) (w : World) (h0 : Rd w 1 x0 ws.length (ws.map (Value.int .i64))) (_ : ∀ z ∈ ws, -9223372036854775808 ≤ z ∧ z ≤ 9223372036854775807) (h1 : Rd w 1 x1 os.length (os.map (Value.int .i64))) (hos : ∀ z ∈ os, -9223372036854775808 ≤ z ∧ z ≤ 9223372036854775807) :
    Calls Try.prog 3 #[x0, x1] w fun e w' => e = .returned (.bool true) ∧ Below w.heap.size w w' := walk_SchedRound ws x0 os x1 w h0 h1 hos
end Go.Proofs.Yteahbpcimnaioaa
