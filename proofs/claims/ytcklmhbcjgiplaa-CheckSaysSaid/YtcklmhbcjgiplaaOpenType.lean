/-
  Arguments of the types Member, Type, as the walks want them: data, and rows of cells.
-/
import Derived.Test.YtcklmhbcjgiplaaOpenReach
import Derived.Test.YtcklmhbcjgiplaaProg
namespace Go.Proofs.Ytcklmhbcjgiplaa
set_option linter.unusedVariables false
set_option linter.unusedSimpArgs false
open Go.RowKit Go.ChangeShapes Go.WideShapes Go.Deep
set_option maxRecDepth 100000

/-- A Member as data. -/
structure MemberV where
  access : Int
  name : ByteArray
  desc : ByteArray
  has : Bool
  value : Int
def encMemberV (y : MemberV) : List Value := [.int .i64 y.access, .string y.name, .string y.desc, .bool y.has, .int .i64 y.value]
theorem encMemberV_len (y : MemberV) : (encMemberV y).length = 5 := rfl
structure MemberV.Ok (w : World) (y : MemberV) : Prop where
  access_ : -9223372036854775808 ≤ y.access ∧ y.access ≤ 9223372036854775807
  name_ : y.name.size ≤ maxLen
  desc_ : y.desc.size ≤ maxLen
  value_ : -9223372036854775808 ≤ y.value ∧ y.value ≤ 9223372036854775807

theorem elem_MemberV {H : Type} {enc : TypeId × Value → H} {w : World} {base : Nat} {spare : Nat → Bool} {held : Bool} (n : Nat) (cs : List Value) (x : DataW H × List MemPlace) (hl : cs.length = 5)
    (h : DataW.trod enc Try.prog w base spare held n 63 cs = some x) (hw : Light Try.prog 63 x.1) : ∃ y : MemberV, cs = encMemberV y ∧ MemberV.Ok w y := by
  obtain ⟨xs, m, _, hxx, _, hxl, hg⟩ := DataW.trod_struct Try.underlying63 h
  subst hxx
  match cs, hl with
  | [c0, c1, c2, c3, c4], _ =>
    have hx : xs.length = 5 := hxl
    have g0 : DataW.trod enc Try.prog w base spare held m 3 (([c0, c1, c2, c3, c4].drop 0).take (Try.prog.cellsOf 3)) = xs[0]? := hg 0 _ rfl
    rw [show Try.prog.cellsOf 3 = 1 by kernel_rfl] at g0
    have g1 : DataW.trod enc Try.prog w base spare held m 9 (([c0, c1, c2, c3, c4].drop 1).take (Try.prog.cellsOf 9)) = xs[1]? := hg 1 _ rfl
    rw [show Try.prog.cellsOf 9 = 1 by kernel_rfl] at g1
    have g2 : DataW.trod enc Try.prog w base spare held m 9 (([c0, c1, c2, c3, c4].drop 2).take (Try.prog.cellsOf 9)) = xs[2]? := hg 2 _ rfl
    rw [show Try.prog.cellsOf 9 = 1 by kernel_rfl] at g2
    have g3 : DataW.trod enc Try.prog w base spare held m 4 (([c0, c1, c2, c3, c4].drop 3).take (Try.prog.cellsOf 4)) = xs[3]? := hg 3 _ rfl
    rw [show Try.prog.cellsOf 4 = 1 by kernel_rfl] at g3
    have g4 : DataW.trod enc Try.prog w base spare held m 3 (([c0, c1, c2, c3, c4].drop 4).take (Try.prog.cellsOf 3)) = xs[4]? := hg 4 _ rfl
    rw [show Try.prog.cellsOf 3 = 1 by kernel_rfl] at g4
    obtain ⟨k0, rfl, a0⟩ := fld_int Try.underlying3 g0 (some_of_len (by omega))
    obtain ⟨k1, rfl, a1⟩ := fld_string Try.underlying9 g1 (some_of_len (by omega))
    obtain ⟨k2, rfl, a2⟩ := fld_string Try.underlying9 g2 (some_of_len (by omega))
    obtain ⟨k3, rfl⟩ := fld_bool Try.underlying4 g3 (some_of_len (by omega))
    obtain ⟨k4, rfl, a4⟩ := fld_int Try.underlying3 g4 (some_of_len (by omega))
    exact ⟨⟨k0, k1, k2, k3, k4⟩, rfl, ⟨a0, a1, a2, a4⟩⟩

theorem open_MemberV {H : Type} {enc : TypeId × Value → H} {w : World} {base : Nat} {spare : Nat → Bool} {held : Bool} {b0 : Nat} {r : Reach} {v : Value} {d : DataW H} {p : List MemPlace}
    (hval : Value.okWide Try.prog w r b0 63 v) (h : DataW.Trod enc Try.prog w base spare held 63 v d p) (hw : Light Try.prog 63 d) : ∃ y : MemberV, v = .agg (encMemberV y).toArray ∧ MemberV.Ok w y := by
  obtain ⟨cs, rfl, hs⟩ := okWide_struct Try.underlying63 hval
  obtain ⟨fuel, hf⟩ := h
  have hl : cs.toList.length = 5 := by rw [Array.length_toList, hs]; kernel_rfl
  obtain ⟨y, hy, hok⟩ := elem_MemberV fuel cs.toList _ hl hf hw
  exact ⟨y, by rw [← hy], hok⟩
theorem open_MemberVs {H : Type} {enc : TypeId × Value → H} {w : World} {base : Nat} {spare : Nat → Bool} {held : Bool} {b0 : Nat} {r : Reach} {v : Value} {d : DataW H} {p : List MemPlace}
    (hval : Value.okWide Try.prog w r b0 34 v) (h : DataW.Trod enc Try.prog w base spare held 34 v d p) (hw : Light Try.prog 34 d) : ∃ l : List MemberV, Rd w 5 v l.length (l.flatMap encMemberV) ∧ (∀ y ∈ l, MemberV.Ok w y) ∧ l.length ≤ 140737488351232 :=
  (fun ⟨l, a, b, n⟩ => ⟨l, a, b, Nat.le_trans (Nat.le_mul_of_pos_right _ (of_decide_eq_true (by kernel_rfl))) n⟩) (open_arg_reach encMemberV (MemberV.Ok w) 5 (by omega) (fun _ => rfl) (by kernel_rfl) Try.underlying34 (fun n cs x hl h hw => elem_MemberV n cs x hl h hw) hval h hw)
/-- A Type as data. -/
structure TypeV where
  name : ByteArray
  super : ByteArray
  access : Int
  interfacesV : Value
  interfaces : List ByteArray
  fieldsV : Value
  fields : List MemberV
  methodsV : Value
  methods : List MemberV
def encTypeV (y : TypeV) : List Value := [.string y.name, .string y.super, .int .i64 y.access, y.interfacesV, y.fieldsV, y.methodsV]
theorem encTypeV_len (y : TypeV) : (encTypeV y).length = 6 := rfl
structure TypeV.Ok (w : World) (y : TypeV) : Prop where
  name_ : y.name.size ≤ maxLen
  super_ : y.super.size ≤ maxLen
  access_ : -9223372036854775808 ≤ y.access ∧ y.access ≤ 9223372036854775807
  interfaces_ : Rd w 1 y.interfacesV y.interfaces.length (y.interfaces.flatMap (fun s : ByteArray => [Value.string s]))
  interfaces_all : ∀ z ∈ y.interfaces, (fun s : ByteArray => s.size ≤ maxLen) z
  interfaces_len : y.interfaces.length ≤ 140737488351232
  fields_ : Rd w 5 y.fieldsV y.fields.length (y.fields.flatMap encMemberV)
  fields_all : ∀ z ∈ y.fields, (MemberV.Ok w) z
  fields_len : y.fields.length ≤ 140737488351232
  methods_ : Rd w 5 y.methodsV y.methods.length (y.methods.flatMap encMemberV)
  methods_all : ∀ z ∈ y.methods, (MemberV.Ok w) z
  methods_len : y.methods.length ≤ 140737488351232

theorem elem_TypeV {H : Type} {enc : TypeId × Value → H} {w : World} {base : Nat} {spare : Nat → Bool} {held : Bool} (n : Nat) (cs : List Value) (x : DataW H × List MemPlace) (hl : cs.length = 6)
    (h : DataW.trod enc Try.prog w base spare held n 36 cs = some x) (hw : Light Try.prog 36 x.1) : ∃ y : TypeV, cs = encTypeV y ∧ TypeV.Ok w y := by
  obtain ⟨xs, m, _, hxx, _, hxl, hg⟩ := DataW.trod_struct Try.underlying36 h
  subst hxx
  match cs, hl with
  | [c0, c1, c2, c3, c4, c5], _ =>
    have hx : xs.length = 6 := hxl
    have g0 : DataW.trod enc Try.prog w base spare held m 9 (([c0, c1, c2, c3, c4, c5].drop 0).take (Try.prog.cellsOf 9)) = xs[0]? := hg 0 _ rfl
    rw [show Try.prog.cellsOf 9 = 1 by kernel_rfl] at g0
    have g1 : DataW.trod enc Try.prog w base spare held m 9 (([c0, c1, c2, c3, c4, c5].drop 1).take (Try.prog.cellsOf 9)) = xs[1]? := hg 1 _ rfl
    rw [show Try.prog.cellsOf 9 = 1 by kernel_rfl] at g1
    have g2 : DataW.trod enc Try.prog w base spare held m 3 (([c0, c1, c2, c3, c4, c5].drop 2).take (Try.prog.cellsOf 3)) = xs[2]? := hg 2 _ rfl
    rw [show Try.prog.cellsOf 3 = 1 by kernel_rfl] at g2
    have g3 : DataW.trod enc Try.prog w base spare held m 33 (([c0, c1, c2, c3, c4, c5].drop 3).take (Try.prog.cellsOf 33)) = xs[3]? := hg 3 _ rfl
    rw [show Try.prog.cellsOf 33 = 1 by kernel_rfl] at g3
    have g4 : DataW.trod enc Try.prog w base spare held m 34 (([c0, c1, c2, c3, c4, c5].drop 4).take (Try.prog.cellsOf 34)) = xs[4]? := hg 4 _ rfl
    rw [show Try.prog.cellsOf 34 = 1 by kernel_rfl] at g4
    have g5 : DataW.trod enc Try.prog w base spare held m 34 (([c0, c1, c2, c3, c4, c5].drop 5).take (Try.prog.cellsOf 34)) = xs[5]? := hg 5 _ rfl
    rw [show Try.prog.cellsOf 34 = 1 by kernel_rfl] at g5
    obtain ⟨k0, rfl, a0⟩ := fld_string Try.underlying9 g0 (some_of_len (by omega))
    obtain ⟨k1, rfl, a1⟩ := fld_string Try.underlying9 g1 (some_of_len (by omega))
    obtain ⟨k2, rfl, a2⟩ := fld_int Try.underlying3 g2 (some_of_len (by omega))
    obtain ⟨l3, a3, b3, n3⟩ := open_cell_reach (fun s : ByteArray => [Value.string s]) (fun s : ByteArray => s.size ≤ maxLen) 1 (by omega) (fun _ => rfl) (by kernel_rfl) Try.underlying33 (fun n cs x hl h _ => elem_string_ Try.underlying9 n cs x hl h) g3 (some_of_len (by omega)) (fun z hz => Light.field Try.underlying36 hw (j := 3) rfl (by rw [List.getElem?_map, hz]; rfl))
    obtain ⟨l4, a4, b4, n4⟩ := open_cell_reach encMemberV (MemberV.Ok w) 5 (by omega) (fun _ => rfl) (by kernel_rfl) Try.underlying34 (fun n cs x hl h hw => elem_MemberV n cs x hl h hw) g4 (some_of_len (by omega)) (fun z hz => Light.field Try.underlying36 hw (j := 4) rfl (by rw [List.getElem?_map, hz]; rfl))
    obtain ⟨l5, a5, b5, n5⟩ := open_cell_reach encMemberV (MemberV.Ok w) 5 (by omega) (fun _ => rfl) (by kernel_rfl) Try.underlying34 (fun n cs x hl h hw => elem_MemberV n cs x hl h hw) g5 (some_of_len (by omega)) (fun z hz => Light.field Try.underlying36 hw (j := 5) rfl (by rw [List.getElem?_map, hz]; rfl))
    exact ⟨⟨k0, k1, k2, _, l3, _, l4, _, l5⟩, rfl, ⟨a0, a1, a2, a3, b3, by exact Nat.le_trans (Nat.le_mul_of_pos_right _ (of_decide_eq_true (by kernel_rfl))) n3, a4, b4, by exact Nat.le_trans (Nat.le_mul_of_pos_right _ (of_decide_eq_true (by kernel_rfl))) n4, a5, b5, by exact Nat.le_trans (Nat.le_mul_of_pos_right _ (of_decide_eq_true (by kernel_rfl))) n5⟩⟩

theorem open_TypeV {H : Type} {enc : TypeId × Value → H} {w : World} {base : Nat} {spare : Nat → Bool} {held : Bool} {b0 : Nat} {r : Reach} {v : Value} {d : DataW H} {p : List MemPlace}
    (hval : Value.okWide Try.prog w r b0 36 v) (h : DataW.Trod enc Try.prog w base spare held 36 v d p) (hw : Light Try.prog 36 d) : ∃ y : TypeV, v = .agg (encTypeV y).toArray ∧ TypeV.Ok w y := by
  obtain ⟨cs, rfl, hs⟩ := okWide_struct Try.underlying36 hval
  obtain ⟨fuel, hf⟩ := h
  have hl : cs.toList.length = 6 := by rw [Array.length_toList, hs]; kernel_rfl
  obtain ⟨y, hy, hok⟩ := elem_TypeV fuel cs.toList _ hl hf hw
  exact ⟨y, by rw [← hy], hok⟩
end Go.Proofs.Ytcklmhbcjgiplaa
