/-
  The argument of the law HeapPlays: a slice of calls, each with slots of its own.
-/
import Derived.Test.YtjdldgpkcfigiaaOpenReach
import Derived.Test.YtjdldgpkcfigiaaHeapBoth
namespace Go.Proofs.Ytjdldgpkcfigiaa
open Go.RowKit Go.ChangeShapes Go.WideShapes Go.Deep
set_option maxRecDepth 100000

/-- A call of a heap, as data. -/
structure OpH where
  kind : Int
  id : Int
  at_ : Int
  cls : ByteArray
  slV : Value
  sl : List ValV
  v : ValV
def encOpH (y : OpH) : List Value := [.int .i64 y.kind, .int .i64 y.id, .int .i64 y.at_, .string y.cls, y.slV, .bool y.v.ref, .int .i64 y.v.n]
structure OpH.Ok (w : World) (y : OpH) : Prop where
  rd : Rd w 2 y.slV y.sl.length (y.sl.flatMap encVal)
  len : y.sl.length ≤ 140737488351232

theorem cells_ValV {H : Type} {enc : TypeId × Value → H} {w : World} {base : Nat} {spare : Nat → Bool} {held : Bool} {n : Nat} {c0 c1 : Value} {y : Option (DataW H × List MemPlace)}
    (h : DataW.trod enc Try.prog w base spare held n 57 [c0, c1] = y) (hy : y.isSome = true) : ∃ y : ValV, c0 = .bool y.ref ∧ c1 = .int .i64 y.n := by
  obtain ⟨x, rfl⟩ := Option.isSome_iff_exists.1 hy
  obtain ⟨xs, m, _, _, _, hxl, hg⟩ := DataW.trod_struct Try.underlying57 h
  have cb : Try.prog.cellsOf 4 = 1 := by kernel_rfl
  have ci : Try.prog.cellsOf 3 = 1 := by kernel_rfl
  have g0 : DataW.trod enc Try.prog w base spare held m 4 (([c0, c1].drop 0).take (Try.prog.cellsOf 4)) = xs[0]? := hg 0 _ rfl
  rw [cb] at g0
  have g1 : DataW.trod enc Try.prog w base spare held m 3 (([c0, c1].drop 1).take (Try.prog.cellsOf 3)) = xs[1]? := hg 1 _ rfl
  rw [ci] at g1
  have hx : xs.length = 2 := hxl
  obtain ⟨k0, rfl⟩ := fld_bool Try.underlying4 g0 (some_of_len (by omega))
  obtain ⟨k1, rfl, _⟩ := fld_int Try.underlying3 g1 (some_of_len (by omega))
  exact ⟨⟨k0, k1⟩, rfl, rfl⟩

theorem elem_ValV {H : Type} {enc : TypeId × Value → H} {w : World} {base : Nat} {spare : Nat → Bool} {held : Bool} (n : Nat) (cs : List Value) (x : DataW H × List MemPlace) (hl : cs.length = 2)
    (h : DataW.trod enc Try.prog w base spare held n 57 cs = some x) : ∃ y : ValV, cs = encVal y ∧ True := by
  match cs, hl with
  | [c0, c1], _ =>
    obtain ⟨y, rfl, rfl⟩ := cells_ValV h rfl
    exact ⟨y, rfl, trivial⟩

theorem elem_OpH {H : Type} {enc : TypeId × Value → H} {w : World} {base : Nat} {spare : Nat → Bool} {held : Bool} (n : Nat) (cs : List Value) (x : DataW H × List MemPlace) (hl : cs.length = 7)
    (h : DataW.trod enc Try.prog w base spare held n 59 cs = some x) (hw : Light Try.prog 59 x.1) : ∃ y : OpH, cs = encOpH y ∧ OpH.Ok w y := by
  obtain ⟨xs, m, _, hxx, _, hxl, hg⟩ := DataW.trod_struct Try.underlying59 h
  subst hxx
  have ci : Try.prog.cellsOf 3 = 1 := by kernel_rfl
  have cs_ : Try.prog.cellsOf 9 = 1 := by kernel_rfl
  have cl : Try.prog.cellsOf 55 = 1 := by kernel_rfl
  have cv : Try.prog.cellsOf 57 = 2 := by kernel_rfl
  match cs, hl with
  | [c0, c1, c2, c3, c4, c5, c6], _ =>
    have g0 : DataW.trod enc Try.prog w base spare held m 3 (([c0, c1, c2, c3, c4, c5, c6].drop 0).take (Try.prog.cellsOf 3)) = xs[0]? := hg 0 _ rfl
    rw [ci] at g0
    have g1 : DataW.trod enc Try.prog w base spare held m 3 (([c0, c1, c2, c3, c4, c5, c6].drop 1).take (Try.prog.cellsOf 3)) = xs[1]? := hg 1 _ rfl
    rw [ci] at g1
    have g2 : DataW.trod enc Try.prog w base spare held m 3 (([c0, c1, c2, c3, c4, c5, c6].drop 2).take (Try.prog.cellsOf 3)) = xs[2]? := hg 2 _ rfl
    rw [ci] at g2
    have g3 : DataW.trod enc Try.prog w base spare held m 9 (([c0, c1, c2, c3, c4, c5, c6].drop 3).take (Try.prog.cellsOf 9)) = xs[3]? := hg 3 _ rfl
    rw [cs_] at g3
    have g4 : DataW.trod enc Try.prog w base spare held m 55 (([c0, c1, c2, c3, c4, c5, c6].drop 4).take (Try.prog.cellsOf 55)) = xs[4]? := hg 4 _ rfl
    rw [cl] at g4
    have g5 : DataW.trod enc Try.prog w base spare held m 57 (([c0, c1, c2, c3, c4, c5, c6].drop 5).take (Try.prog.cellsOf 57)) = xs[5]? := hg 5 _ rfl
    rw [cv] at g5
    have hx : xs.length = 6 := hxl
    obtain ⟨k0, rfl, _⟩ := fld_int Try.underlying3 g0 (some_of_len (by omega))
    obtain ⟨k1, rfl, _⟩ := fld_int Try.underlying3 g1 (some_of_len (by omega))
    obtain ⟨k2, rfl, _⟩ := fld_int Try.underlying3 g2 (some_of_len (by omega))
    obtain ⟨s, rfl, _⟩ := fld_string Try.underlying9 g3 (some_of_len (by omega))
    obtain ⟨l4, a4, b4, n4⟩ := open_cell_reach encVal (fun _ => True) 2 (by omega) (fun _ => rfl) (by kernel_rfl) Try.underlying55 (fun n cs x hl h _ => elem_ValV n cs x hl h) g4 (some_of_len (by omega)) (fun z hz => Light.field Try.underlying59 hw (j := 4) rfl (by rw [List.getElem?_map, hz]; rfl))
    obtain ⟨y, rfl, rfl⟩ := cells_ValV g5 (some_of_len (by omega))
    exact ⟨⟨k0, k1, k2, s, _, l4, y⟩, rfl, ⟨a4, by exact Nat.le_trans (Nat.le_mul_of_pos_right _ (of_decide_eq_true (by kernel_rfl))) n4⟩⟩

theorem open_OpHs {H : Type} {enc : TypeId × Value → H} {w : World} {base : Nat} {spare : Nat → Bool} {held : Bool} {b0 : Nat} {r : Reach} {v : Value} {d : DataW H} {p : List MemPlace}
    (hval : Value.okWide Try.prog w r b0 54 v) (h : DataW.Trod enc Try.prog w base spare held 54 v d p) (hw : Light Try.prog 54 d) : ∃ l : List OpH, Rd w 7 v l.length (l.flatMap encOpH) ∧ (∀ y ∈ l, OpH.Ok w y) ∧ l.length ≤ 140737488351232 :=
  (fun ⟨l, a, b, n⟩ => ⟨l, a, b, Nat.le_trans (Nat.le_mul_of_pos_right _ (of_decide_eq_true (by kernel_rfl))) n⟩) (open_arg_reach encOpH (OpH.Ok w) 7 (by omega) (fun _ => rfl) (by kernel_rfl) Try.underlying54 (fun n cs x hl h hw => elem_OpH n cs x hl h hw) hval h hw)
end Go.Proofs.Ytjdldgpkcfigiaa
