/-
  The argument of the law SchedPlays: a slice of calls.
-/
import Derived.Test.YtgophanpnaenkaaOpenRows
import Derived.Test.YtgophanpnaenkaaSchedPlays
namespace Go.Proofs.Ytgophanpnaenkaa
open Go.RowKit Go.ChangeShapes Go.WideShapes Go.Deep
set_option maxRecDepth 100000

theorem elem_OpS {H : Type} {enc : TypeId × Value → H} {w : World} {base : Nat} {spare : Nat → Bool} {held : Bool} (n : Nat) (cs : List Value) (x : DataW H × List MemPlace) (hl : cs.length = 4)
    (h : DataW.trod enc Try.prog w base spare held n 77 cs = some x) : ∃ y : OpS, cs = encOpS y ∧ -9223372036854775808 ≤ y.raw ∧ y.raw ≤ 9223372036854775807 := by
  obtain ⟨xs, m, _, _, _, hxl, hg⟩ := DataW.trod_struct Try.underlying77 h
  have c3 : Try.prog.cellsOf 3 = 1 := by kernel_rfl
  have c9 : Try.prog.cellsOf 9 = 1 := by kernel_rfl
  match cs, hl with
  | [c0, c1, c2, c4], _ =>
    have g0 : DataW.trod enc Try.prog w base spare held m 3 (([c0, c1, c2, c4].drop 0).take (Try.prog.cellsOf 3)) = xs[0]? := hg 0 _ rfl
    rw [c3] at g0
    have g1 : DataW.trod enc Try.prog w base spare held m 3 (([c0, c1, c2, c4].drop 1).take (Try.prog.cellsOf 3)) = xs[1]? := hg 1 _ rfl
    rw [c3] at g1
    have g2 : DataW.trod enc Try.prog w base spare held m 3 (([c0, c1, c2, c4].drop 2).take (Try.prog.cellsOf 3)) = xs[2]? := hg 2 _ rfl
    rw [c3] at g2
    have g3 : DataW.trod enc Try.prog w base spare held m 9 (([c0, c1, c2, c4].drop 3).take (Try.prog.cellsOf 9)) = xs[3]? := hg 3 _ rfl
    rw [c9] at g3
    have hx : xs.length = 4 := hxl
    obtain ⟨k0, rfl, _⟩ := fld_int Try.underlying3 g0 (some_of_len (by omega))
    obtain ⟨k1, rfl, _⟩ := fld_int Try.underlying3 g1 (some_of_len (by omega))
    obtain ⟨k2, rfl, h1, h2⟩ := fld_int Try.underlying3 g2 (some_of_len (by omega))
    obtain ⟨s, rfl, _⟩ := fld_string Try.underlying9 g3 (some_of_len (by omega))
    exact ⟨⟨k0, k1, k2, s⟩, rfl, h1, h2⟩

theorem open_OpS {H : Type} {enc : TypeId × Value → H} {w : World} {base b0 : Nat} {spare : Nat → Bool} {held : Bool} {r : Reach} {v : Value} {d : DataW H} {p : List MemPlace}
    (hval : Value.okWide Try.prog w r b0 71 v) (h : DataW.Trod enc Try.prog w base spare held 71 v d p) : ∃ l : List OpS, Rd w 4 v l.length (l.flatMap encOpS) ∧ ∀ y ∈ l, -9223372036854775808 ≤ y.raw ∧ y.raw ≤ 9223372036854775807 :=
  open_rows encOpS (fun y => -9223372036854775808 ≤ y.raw ∧ y.raw ≤ 9223372036854775807) 4 (by omega) (fun _ => rfl) (by kernel_rfl) Try.underlying71 (fun n cs x hl h => elem_OpS n cs x hl h) hval h

end Go.Proofs.Ytgophanpnaenkaa
