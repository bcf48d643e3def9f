/-
  The argument of the law PoolPlays: a slice of calls.
-/
import Derived.Test.YtjdldgpkcfigiaaOpenRows
import Derived.Test.YtjdldgpkcfigiaaPoolLaw
namespace Go.Proofs.Ytjdldgpkcfigiaa
open Go.RowKit Go.ChangeShapes Go.WideShapes Go.Deep
set_option maxRecDepth 100000

theorem cells_Fnd {H : Type} {enc : TypeId × Value → H} {w : World} {base : Nat} {spare : Nat → Bool} {held : Bool} {n : Nat} {c0 c1 : Value} {y : Option (DataW H × List MemPlace)}
    (h : DataW.trod enc Try.prog w base spare held n 35 [c0, c1] = y) (hy : y.isSome = true) : ∃ (s : ByteArray) (k : Int), c0 = .string s ∧ c1 = .int .i64 k := by
  obtain ⟨x, rfl⟩ := Option.isSome_iff_exists.1 hy
  obtain ⟨xs, m, _, _, _, hxl, hg⟩ := DataW.trod_struct Try.underlying35 h
  have cs_ : Try.prog.cellsOf 9 = 1 := by kernel_rfl
  have ci : Try.prog.cellsOf 3 = 1 := by kernel_rfl
  have g0 : DataW.trod enc Try.prog w base spare held m 9 (([c0, c1].drop 0).take (Try.prog.cellsOf 9)) = xs[0]? := hg 0 _ rfl
  rw [cs_] at g0
  have g1 : DataW.trod enc Try.prog w base spare held m 3 (([c0, c1].drop 1).take (Try.prog.cellsOf 3)) = xs[1]? := hg 1 _ rfl
  rw [ci] at g1
  have hx : xs.length = 2 := hxl
  obtain ⟨k0, rfl, _⟩ := fld_string Try.underlying9 g0 (some_of_len (by omega))
  obtain ⟨k1, rfl, _⟩ := fld_int Try.underlying3 g1 (some_of_len (by omega))
  exact ⟨k0, k1, rfl, rfl⟩

theorem elem_OpP {H : Type} {enc : TypeId × Value → H} {w : World} {base : Nat} {spare : Nat → Bool} {held : Bool} (n : Nat) (cs : List Value) (x : DataW H × List MemPlace) (hl : cs.length = 5)
    (h : DataW.trod enc Try.prog w base spare held n 37 cs = some x) : ∃ y : OpP, cs = encOpP y ∧ -9223372036854775808 ≤ y.at_ ∧ y.at_ ≤ 9223372036854775807 := by
  obtain ⟨xs, m, _, _, _, hxl, hg⟩ := DataW.trod_struct Try.underlying37 h
  have ci : Try.prog.cellsOf 3 = 1 := by kernel_rfl
  have cs_ : Try.prog.cellsOf 9 = 1 := by kernel_rfl
  have cf : Try.prog.cellsOf 35 = 2 := by kernel_rfl
  match cs, hl with
  | [c0, c1, c2, c3, c4], _ =>
    have g0 : DataW.trod enc Try.prog w base spare held m 3 (([c0, c1, c2, c3, c4].drop 0).take (Try.prog.cellsOf 3)) = xs[0]? := hg 0 _ rfl
    rw [ci] at g0
    have g1 : DataW.trod enc Try.prog w base spare held m 3 (([c0, c1, c2, c3, c4].drop 1).take (Try.prog.cellsOf 3)) = xs[1]? := hg 1 _ rfl
    rw [ci] at g1
    have g2 : DataW.trod enc Try.prog w base spare held m 35 (([c0, c1, c2, c3, c4].drop 2).take (Try.prog.cellsOf 35)) = xs[2]? := hg 2 _ rfl
    rw [cf] at g2
    have g3 : DataW.trod enc Try.prog w base spare held m 9 (([c0, c1, c2, c3, c4].drop 4).take (Try.prog.cellsOf 9)) = xs[3]? := hg 3 _ rfl
    rw [cs_] at g3
    have hx : xs.length = 4 := hxl
    obtain ⟨k0, rfl, _⟩ := fld_int Try.underlying3 g0 (some_of_len (by omega))
    obtain ⟨k1, rfl, hk⟩ := fld_int Try.underlying3 g1 (some_of_len (by omega))
    obtain ⟨s, k, rfl, rfl⟩ := cells_Fnd g2 (some_of_len (by omega))
    obtain ⟨b, rfl, _⟩ := fld_string Try.underlying9 g3 (some_of_len (by omega))
    exact ⟨⟨k0, k1, s, k, b⟩, rfl, hk⟩

theorem open_OpP {H : Type} {enc : TypeId × Value → H} {w : World} {base b0 : Nat} {spare : Nat → Bool} {held : Bool} {r : Reach} {v : Value} {d : DataW H} {p : List MemPlace}
    (hval : Value.okWide Try.prog w r b0 22 v) (h : DataW.Trod enc Try.prog w base spare held 22 v d p) : ∃ l : List OpP, Rd w 5 v l.length (l.flatMap encOpP) ∧ ∀ y ∈ l, -9223372036854775808 ≤ y.at_ ∧ y.at_ ≤ 9223372036854775807 :=
  open_rows encOpP (fun y => -9223372036854775808 ≤ y.at_ ∧ y.at_ ≤ 9223372036854775807) 5 (by omega) (fun _ => rfl) (by kernel_rfl) Try.underlying22 (fun n cs x hl h => elem_OpP n cs x hl h) hval h
end Go.Proofs.Ytjdldgpkcfigiaa
