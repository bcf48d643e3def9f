/-
  Arguments of the types Ref, Found, as the walks want them: data, and rows of cells.
-/
import Derived.Test.YtpggibohfdamjaaOpenReach
import Derived.Test.YtpggibohfdamjaaProg
namespace Go.Proofs.Ytpggibohfdamjaa
open Go.RowKit Go.ChangeShapes Go.WideShapes Go.Deep
set_option maxRecDepth 100000

/-- A Ref as data. -/
structure RefV where
  cls : ByteArray
  name : ByteArray
  desc : ByteArray
def encRefV (y : RefV) : List Value := [.string y.cls, .string y.name, .string y.desc]
theorem encRefV_len (y : RefV) : (encRefV y).length = 3 := rfl
structure RefV.Ok (w : World) (y : RefV) : Prop where
  cls_ : y.cls.size ≤ maxLen
  name_ : y.name.size ≤ maxLen
  desc_ : y.desc.size ≤ maxLen

theorem elem_RefV {H : Type} {enc : TypeId × Value → H} {w : World} {base : Nat} {spare : Nat → Bool} {held : Bool} (n : Nat) (cs : List Value) (x : DataW H × List MemPlace) (hl : cs.length = 3)
    (h : DataW.trod enc Try.prog w base spare held n 39 cs = some x) (hw : Light Try.prog 39 x.1) : ∃ y : RefV, cs = encRefV y ∧ RefV.Ok w y := by
  obtain ⟨xs, m, _, hxx, _, hxl, hg⟩ := DataW.trod_struct Try.underlying39 h
  subst hxx
  match cs, hl with
  | [c0, c1, c2], _ =>
    have hx : xs.length = 3 := hxl
    have g0 : DataW.trod enc Try.prog w base spare held m 9 (([c0, c1, c2].drop 0).take (Try.prog.cellsOf 9)) = xs[0]? := hg 0 _ rfl
    rw [show Try.prog.cellsOf 9 = 1 by kernel_rfl] at g0
    have g1 : DataW.trod enc Try.prog w base spare held m 9 (([c0, c1, c2].drop 1).take (Try.prog.cellsOf 9)) = xs[1]? := hg 1 _ rfl
    rw [show Try.prog.cellsOf 9 = 1 by kernel_rfl] at g1
    have g2 : DataW.trod enc Try.prog w base spare held m 9 (([c0, c1, c2].drop 2).take (Try.prog.cellsOf 9)) = xs[2]? := hg 2 _ rfl
    rw [show Try.prog.cellsOf 9 = 1 by kernel_rfl] at g2
    obtain ⟨k0, rfl, a0⟩ := fld_string Try.underlying9 g0 (some_of_len (by omega))
    obtain ⟨k1, rfl, a1⟩ := fld_string Try.underlying9 g1 (some_of_len (by omega))
    obtain ⟨k2, rfl, a2⟩ := fld_string Try.underlying9 g2 (some_of_len (by omega))
    exact ⟨⟨k0, k1, k2⟩, rfl, ⟨a0, a1, a2⟩⟩

theorem open_RefV {H : Type} {enc : TypeId × Value → H} {w : World} {base : Nat} {spare : Nat → Bool} {held : Bool} {b0 : Nat} {r : Reach} {v : Value} {d : DataW H} {p : List MemPlace}
    (hval : Value.okWide Try.prog w r b0 39 v) (h : DataW.Trod enc Try.prog w base spare held 39 v d p) (hw : Light Try.prog 39 d) : ∃ y : RefV, v = .agg (encRefV y).toArray ∧ RefV.Ok w y := by
  obtain ⟨cs, rfl, hs⟩ := okWide_struct Try.underlying39 hval
  obtain ⟨fuel, hf⟩ := h
  have hl : cs.toList.length = 3 := by rw [Array.length_toList, hs]; kernel_rfl
  obtain ⟨y, hy, hok⟩ := elem_RefV fuel cs.toList _ hl hf hw
  exact ⟨y, by rw [← hy], hok⟩
/-- A Found as data. -/
structure FoundV where
  cls : ByteArray
  at_ : Int
def encFoundV (y : FoundV) : List Value := [.string y.cls, .int .i64 y.at_]
theorem encFoundV_len (y : FoundV) : (encFoundV y).length = 2 := rfl
structure FoundV.Ok (w : World) (y : FoundV) : Prop where
  cls_ : y.cls.size ≤ maxLen
  at__ : -9223372036854775808 ≤ y.at_ ∧ y.at_ ≤ 9223372036854775807

theorem elem_FoundV {H : Type} {enc : TypeId × Value → H} {w : World} {base : Nat} {spare : Nat → Bool} {held : Bool} (n : Nat) (cs : List Value) (x : DataW H × List MemPlace) (hl : cs.length = 2)
    (h : DataW.trod enc Try.prog w base spare held n 24 cs = some x) (hw : Light Try.prog 24 x.1) : ∃ y : FoundV, cs = encFoundV y ∧ FoundV.Ok w y := by
  obtain ⟨xs, m, _, hxx, _, hxl, hg⟩ := DataW.trod_struct Try.underlying24 h
  subst hxx
  match cs, hl with
  | [c0, c1], _ =>
    have hx : xs.length = 2 := hxl
    have g0 : DataW.trod enc Try.prog w base spare held m 9 (([c0, c1].drop 0).take (Try.prog.cellsOf 9)) = xs[0]? := hg 0 _ rfl
    rw [show Try.prog.cellsOf 9 = 1 by kernel_rfl] at g0
    have g1 : DataW.trod enc Try.prog w base spare held m 3 (([c0, c1].drop 1).take (Try.prog.cellsOf 3)) = xs[1]? := hg 1 _ rfl
    rw [show Try.prog.cellsOf 3 = 1 by kernel_rfl] at g1
    obtain ⟨k0, rfl, a0⟩ := fld_string Try.underlying9 g0 (some_of_len (by omega))
    obtain ⟨k1, rfl, a1⟩ := fld_int Try.underlying3 g1 (some_of_len (by omega))
    exact ⟨⟨k0, k1⟩, rfl, ⟨a0, a1⟩⟩

theorem open_FoundV {H : Type} {enc : TypeId × Value → H} {w : World} {base : Nat} {spare : Nat → Bool} {held : Bool} {b0 : Nat} {r : Reach} {v : Value} {d : DataW H} {p : List MemPlace}
    (hval : Value.okWide Try.prog w r b0 24 v) (h : DataW.Trod enc Try.prog w base spare held 24 v d p) (hw : Light Try.prog 24 d) : ∃ y : FoundV, v = .agg (encFoundV y).toArray ∧ FoundV.Ok w y := by
  obtain ⟨cs, rfl, hs⟩ := okWide_struct Try.underlying24 hval
  obtain ⟨fuel, hf⟩ := h
  have hl : cs.toList.length = 2 := by rw [Array.length_toList, hs]; kernel_rfl
  obtain ⟨y, hy, hok⟩ := elem_FoundV fuel cs.toList _ hl hf hw
  exact ⟨y, by rw [← hy], hok⟩
theorem open_FoundVs {H : Type} {enc : TypeId × Value → H} {w : World} {base : Nat} {spare : Nat → Bool} {held : Bool} {b0 : Nat} {r : Reach} {v : Value} {d : DataW H} {p : List MemPlace}
    (hval : Value.okWide Try.prog w r b0 64 v) (h : DataW.Trod enc Try.prog w base spare held 64 v d p) (hw : Light Try.prog 64 d) : ∃ l : List FoundV, Rd w 2 v l.length (l.flatMap encFoundV) ∧ (∀ y ∈ l, FoundV.Ok w y) ∧ l.length ≤ 140737488351232 :=
  (fun ⟨l, a, b, n⟩ => ⟨l, a, b, Nat.le_trans (Nat.le_mul_of_pos_right _ (of_decide_eq_true (by kernel_rfl))) n⟩) (open_arg_reach encFoundV (FoundV.Ok w) 2 (by omega) (fun _ => rfl) (by kernel_rfl) Try.underlying64 (fun n cs x hl h hw => elem_FoundV n cs x hl h hw) hval h hw)

end Go.Proofs.Ytpggibohfdamjaa
