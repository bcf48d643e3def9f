/-
  The argument of the law StackTurns: a slice of values.
-/
import Derived.Test.YtgophanpnaenkaaOpenRows
import Derived.Test.YtgophanpnaenkaaStackLaw
namespace Go.Proofs.Ytgophanpnaenkaa
open Go.RowKit Go.ChangeShapes Go.WideShapes Go.Deep
set_option maxRecDepth 100000

theorem elem_Val {H : Type} {enc : TypeId × Value → H} {w : World} {base : Nat} {spare : Nat → Bool} {held : Bool} (n : Nat) (cs : List Value) (x : DataW H × List MemPlace) (hl : cs.length = 2)
    (h : DataW.trod enc Try.prog w base spare held n 65 cs = some x) : ∃ y : ValV, cs = encVal y ∧ True := by
  obtain ⟨xs, m, _, _, _, hxl, hg⟩ := DataW.trod_struct Try.underlying65 h
  have cb : Try.prog.cellsOf 4 = 1 := by kernel_rfl
  have ci : Try.prog.cellsOf 3 = 1 := by kernel_rfl
  match cs, hl with
  | [c0, c1], _ =>
    have g0 : DataW.trod enc Try.prog w base spare held m 4 (([c0, c1].drop 0).take (Try.prog.cellsOf 4)) = xs[0]? := hg 0 _ rfl
    rw [cb] at g0
    have g1 : DataW.trod enc Try.prog w base spare held m 3 (([c0, c1].drop 1).take (Try.prog.cellsOf 3)) = xs[1]? := hg 1 _ rfl
    rw [ci] at g1
    have hx : xs.length = 2 := hxl
    obtain ⟨k0, rfl⟩ := fld_bool Try.underlying4 g0 (some_of_len (by omega))
    obtain ⟨k1, rfl, _⟩ := fld_int Try.underlying3 g1 (some_of_len (by omega))
    exact ⟨⟨k0, k1⟩, rfl, trivial⟩

theorem open_Vals {H : Type} {enc : TypeId × Value → H} {w : World} {base b0 : Nat} {spare : Nat → Bool} {held : Bool} {r : Reach} {v : Value} {d : DataW H} {p : List MemPlace}
    (hval : Value.okWide Try.prog w r b0 59 v) (h : DataW.Trod enc Try.prog w base spare held 59 v d p) : ∃ l : List ValV, Rd w 2 v l.length (l.flatMap encVal) :=
  (open_rows encVal (fun _ => True) 2 (by omega) (fun _ => rfl) (by kernel_rfl) Try.underlying59 (fun n cs x hl h => elem_Val n cs x hl h) hval h).imp fun _ h => h.1
end Go.Proofs.Ytgophanpnaenkaa
