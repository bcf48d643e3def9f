/-
  The argument of the law StackPlays: a slice of calls.
-/
import Derived.Test.YtfjkcokollkijaaOpenRows
import Derived.Test.YtfjkcokollkijaaStackPlays
namespace Go.Proofs.Ytfjkcokollkijaa
open Go.RowKit Go.ChangeShapes Go.WideShapes Go.Deep
set_option maxRecDepth 100000

theorem cells_ValV {H : Type} {enc : TypeId × Value → H} {w : World} {base : Nat} {spare : Nat → Bool} {held : Bool} {n : Nat} {c0 c1 : Value} {y : Option (DataW H × List MemPlace)}
    (h : DataW.trod enc Try.prog w base spare held n 34 [c0, c1] = y) (hy : y.isSome = true) : ∃ y : ValV, c0 = .bool y.ref ∧ c1 = .int .i64 y.n := by
  obtain ⟨x, rfl⟩ := Option.isSome_iff_exists.1 hy
  obtain ⟨xs, m, _, _, _, hxl, hg⟩ := DataW.trod_struct Try.underlying34 h
  have cb : Try.prog.cellsOf 4 = 1 := by kernel_rfl
  have ci : Try.prog.cellsOf 3 = 1 := by kernel_rfl
  have g0 : DataW.trod enc Try.prog w base spare held m 4 (([c0, c1].drop 0).take (Try.prog.cellsOf 4)) = xs[0]? := hg 0 _ rfl
  rw [cb] at g0
  have g1 : DataW.trod enc Try.prog w base spare held m 3 (([c0, c1].drop 1).take (Try.prog.cellsOf 3)) = xs[1]? := hg 1 _ rfl
  rw [ci] at g1
  have hx : xs.length = 2 := hxl
  obtain ⟨k0, rfl⟩ := fld_bool Try.underlying4 g0 (some_of_len (by omega))
  obtain ⟨k1, rfl, _⟩ := fld_int Try.underlying3 g1 (some_of_len (by omega))
  exact ⟨⟨k0, k1⟩, rfl, rfl⟩

theorem elem_OpK {H : Type} {enc : TypeId × Value → H} {w : World} {base : Nat} {spare : Nat → Bool} {held : Bool} (n : Nat) (cs : List Value) (x : DataW H × List MemPlace) (hl : cs.length = 6)
    (h : DataW.trod enc Try.prog w base spare held n 36 cs = some x) : ∃ y : OpK, cs = encOpK y ∧ True := by
  obtain ⟨xs, m, _, _, _, hxl, hg⟩ := DataW.trod_struct Try.underlying36 h
  have ci : Try.prog.cellsOf 3 = 1 := by kernel_rfl
  have cs_ : Try.prog.cellsOf 9 = 1 := by kernel_rfl
  have cb : Try.prog.cellsOf 4 = 1 := by kernel_rfl
  have cv : Try.prog.cellsOf 34 = 2 := by kernel_rfl
  match cs, hl with
  | [c0, c1, c2, c3, c4, c5], _ =>
    have g0 : DataW.trod enc Try.prog w base spare held m 3 (([c0, c1, c2, c3, c4, c5].drop 0).take (Try.prog.cellsOf 3)) = xs[0]? := hg 0 _ rfl
    rw [ci] at g0
    have g1 : DataW.trod enc Try.prog w base spare held m 3 (([c0, c1, c2, c3, c4, c5].drop 1).take (Try.prog.cellsOf 3)) = xs[1]? := hg 1 _ rfl
    rw [ci] at g1
    have g2 : DataW.trod enc Try.prog w base spare held m 9 (([c0, c1, c2, c3, c4, c5].drop 2).take (Try.prog.cellsOf 9)) = xs[2]? := hg 2 _ rfl
    rw [cs_] at g2
    have g3 : DataW.trod enc Try.prog w base spare held m 34 (([c0, c1, c2, c3, c4, c5].drop 3).take (Try.prog.cellsOf 34)) = xs[3]? := hg 3 _ rfl
    rw [cv] at g3
    have g4 : DataW.trod enc Try.prog w base spare held m 4 (([c0, c1, c2, c3, c4, c5].drop 5).take (Try.prog.cellsOf 4)) = xs[4]? := hg 4 _ rfl
    rw [cb] at g4
    have hx : xs.length = 5 := hxl
    obtain ⟨k0, rfl, _⟩ := fld_int Try.underlying3 g0 (some_of_len (by omega))
    obtain ⟨k1, rfl, _⟩ := fld_int Try.underlying3 g1 (some_of_len (by omega))
    obtain ⟨s, rfl, _⟩ := fld_string Try.underlying9 g2 (some_of_len (by omega))
    obtain ⟨y, rfl, rfl⟩ := cells_ValV g3 (some_of_len (by omega))
    obtain ⟨b, rfl⟩ := fld_bool Try.underlying4 g4 (some_of_len (by omega))
    exact ⟨⟨k0, k1, s, y, b⟩, rfl, trivial⟩

theorem open_OpK {H : Type} {enc : TypeId × Value → H} {w : World} {base b0 : Nat} {spare : Nat → Bool} {held : Bool} {r : Reach} {v : Value} {d : DataW H} {p : List MemPlace}
    (hval : Value.okWide Try.prog w r b0 22 v) (h : DataW.Trod enc Try.prog w base spare held 22 v d p) : ∃ l : List OpK, Rd w 6 v l.length (l.flatMap encOpK) :=
  (open_rows encOpK (fun _ => True) 6 (by omega) (fun _ => rfl) (by kernel_rfl) Try.underlying22 (fun n cs x hl h => elem_OpK n cs x hl h) hval h).imp fun _ h => h.1
end Go.Proofs.Ytfjkcokollkijaa
