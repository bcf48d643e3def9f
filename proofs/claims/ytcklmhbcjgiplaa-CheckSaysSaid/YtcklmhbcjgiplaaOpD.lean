/-
  Several texts in one: XOpenU8 XOpenClass XOpenD.
-/
import Derived.Test.YtcklmhbcjgiplaaOpenReach
import Derived.Test.YtcklmhbcjgiplaaWordBytes
import Derived.ProofKit
import Derived.OpenShut
import Derived.Test.YtcklmhbcjgiplaaProg
import Derived.Test.YtcklmhbcjgiplaaSmB
namespace Go.Proofs.Ytcklmhbcjgiplaa
set_option linter.unusedVariables false
set_option linter.unusedSimpArgs false
open Go.RowKit Go.ChangeShapes Go.WideShapes Go.Deep
theorem byte_of_wf' {n : Int} (h : (Lit.int .u8 n).wf = true) : Value.int .u8 n = byteV (UInt8.ofNat n.toNat) := by
  have hb := bounds_u8 h
  unfold byteV
  congr 1
  rw [UInt8.toNat_ofNat']
  omega
theorem elem_u8_ {H : Type} {enc : TypeId × Value → H} {P : Program} {w : World} {base : Nat} {spare : Nat → Bool} {held : Bool} {t : TypeId} (ht : P.underlying t = some (.int .u8)) (n : Nat) (cs : List Value) (x : DataW H × List MemPlace) (hl : cs.length = 1) (h : DataW.trod enc P w base spare held n t cs = some x) :
    ∃ k : UInt8, cs = [byteV k] ∧ True := by
  match cs, hl with
  | [c], _ =>
    obtain ⟨k, hk, _, hw⟩ := DataW.trod_int ht h
    simp at hk
    exact ⟨UInt8.ofNat k.toNat, by rw [hk, byte_of_wf' hw], trivial⟩
end Go.Proofs.Ytcklmhbcjgiplaa

namespace Go.Proofs.Ytcklmhbcjgiplaa
set_option linter.unusedVariables false
set_option linter.unusedSimpArgs false
open Go.RowKit Go.ChangeShapes Go.WideShapes Go.Deep
set_option maxRecDepth 100000

/-- A Const as data. -/
structure ConstV where
  tag : Int
  text : ByteArray
  int : Int
  a : Int
  b : Int
def encConstV (y : ConstV) : List Value := [.int .i64 y.tag, .string y.text, .int .i64 y.int, .int .i64 y.a, .int .i64 y.b]
theorem encConstV_len (y : ConstV) : (encConstV y).length = 5 := rfl
structure ConstV.Ok (w : World) (y : ConstV) : Prop where
  tag_ : -9223372036854775808 ≤ y.tag ∧ y.tag ≤ 9223372036854775807
  text_ : y.text.size ≤ maxLen
  int_ : -9223372036854775808 ≤ y.int ∧ y.int ≤ 9223372036854775807
  a_ : -9223372036854775808 ≤ y.a ∧ y.a ≤ 9223372036854775807
  b_ : -9223372036854775808 ≤ y.b ∧ y.b ≤ 9223372036854775807

theorem elem_ConstV {H : Type} {enc : TypeId × Value → H} {w : World} {base : Nat} {spare : Nat → Bool} {held : Bool} (n : Nat) (cs : List Value) (x : DataW H × List MemPlace) (hl : cs.length = 5)
    (h : DataW.trod enc Try.prog w base spare held n 47 cs = some x) (hw : Light Try.prog 47 x.1) : ∃ y : ConstV, cs = encConstV y ∧ ConstV.Ok w y := by
  obtain ⟨xs, m, _, hxx, _, hxl, hg⟩ := DataW.trod_struct Try.underlying47 h
  subst hxx
  match cs, hl with
  | [c0, c1, c2, c3, c4], _ =>
    have hx : xs.length = 5 := hxl
    have g0 : DataW.trod enc Try.prog w base spare held m 3 (([c0, c1, c2, c3, c4].drop 0).take (Try.prog.cellsOf 3)) = xs[0]? := hg 0 _ rfl
    rw [show Try.prog.cellsOf 3 = 1 by kernel_rfl] at g0
    have g1 : DataW.trod enc Try.prog w base spare held m 9 (([c0, c1, c2, c3, c4].drop 1).take (Try.prog.cellsOf 9)) = xs[1]? := hg 1 _ rfl
    rw [show Try.prog.cellsOf 9 = 1 by kernel_rfl] at g1
    have g2 : DataW.trod enc Try.prog w base spare held m 3 (([c0, c1, c2, c3, c4].drop 2).take (Try.prog.cellsOf 3)) = xs[2]? := hg 2 _ rfl
    rw [show Try.prog.cellsOf 3 = 1 by kernel_rfl] at g2
    have g3 : DataW.trod enc Try.prog w base spare held m 3 (([c0, c1, c2, c3, c4].drop 3).take (Try.prog.cellsOf 3)) = xs[3]? := hg 3 _ rfl
    rw [show Try.prog.cellsOf 3 = 1 by kernel_rfl] at g3
    have g4 : DataW.trod enc Try.prog w base spare held m 3 (([c0, c1, c2, c3, c4].drop 4).take (Try.prog.cellsOf 3)) = xs[4]? := hg 4 _ rfl
    rw [show Try.prog.cellsOf 3 = 1 by kernel_rfl] at g4
    obtain ⟨k0, rfl, a0⟩ := fld_int Try.underlying3 g0 (some_of_len (by omega))
    obtain ⟨k1, rfl, a1⟩ := fld_string Try.underlying9 g1 (some_of_len (by omega))
    obtain ⟨k2, rfl, a2⟩ := fld_int Try.underlying3 g2 (some_of_len (by omega))
    obtain ⟨k3, rfl, a3⟩ := fld_int Try.underlying3 g3 (some_of_len (by omega))
    obtain ⟨k4, rfl, a4⟩ := fld_int Try.underlying3 g4 (some_of_len (by omega))
    exact ⟨⟨k0, k1, k2, k3, k4⟩, rfl, ⟨a0, a1, a2, a3, a4⟩⟩

theorem open_ConstV {H : Type} {enc : TypeId × Value → H} {w : World} {base : Nat} {spare : Nat → Bool} {held : Bool} {b0 : Nat} {r : Reach} {v : Value} {d : DataW H} {p : List MemPlace}
    (hval : Value.okWide Try.prog w r b0 47 v) (h : DataW.Trod enc Try.prog w base spare held 47 v d p) (hw : Light Try.prog 47 d) : ∃ y : ConstV, v = .agg (encConstV y).toArray ∧ ConstV.Ok w y := by
  obtain ⟨cs, rfl, hs⟩ := okWide_struct Try.underlying47 hval
  obtain ⟨fuel, hf⟩ := h
  have hl : cs.toList.length = 5 := by rw [Array.length_toList, hs]; kernel_rfl
  obtain ⟨y, hy, hok⟩ := elem_ConstV fuel cs.toList _ hl hf hw
  exact ⟨y, by rw [← hy], hok⟩
theorem open_ConstVs {H : Type} {enc : TypeId × Value → H} {w : World} {base : Nat} {spare : Nat → Bool} {held : Bool} {b0 : Nat} {r : Reach} {v : Value} {d : DataW H} {p : List MemPlace}
    (hval : Value.okWide Try.prog w r b0 22 v) (h : DataW.Trod enc Try.prog w base spare held 22 v d p) (hw : Light Try.prog 22 d) : ∃ l : List ConstV, Rd w 5 v l.length (l.flatMap encConstV) ∧ (∀ y ∈ l, ConstV.Ok w y) ∧ l.length ≤ 140737488351232 :=
  (fun ⟨l, a, b, n⟩ => ⟨l, a, b, Nat.le_trans (Nat.le_mul_of_pos_right _ (of_decide_eq_true (by kernel_rfl))) n⟩) (open_arg_reach encConstV (ConstV.Ok w) 5 (by omega) (fun _ => rfl) (by kernel_rfl) Try.underlying22 (fun n cs x hl h hw => elem_ConstV n cs x hl h hw) hval h hw)
/-- A Field as data. -/
structure FieldV where
  access : Int
  name : Int
  desc : Int
  value : Int
def encFieldV (y : FieldV) : List Value := [.int .i64 y.access, .int .i64 y.name, .int .i64 y.desc, .int .i64 y.value]
theorem encFieldV_len (y : FieldV) : (encFieldV y).length = 4 := rfl
structure FieldV.Ok (w : World) (y : FieldV) : Prop where
  access_ : -9223372036854775808 ≤ y.access ∧ y.access ≤ 9223372036854775807
  name_ : -9223372036854775808 ≤ y.name ∧ y.name ≤ 9223372036854775807
  desc_ : -9223372036854775808 ≤ y.desc ∧ y.desc ≤ 9223372036854775807
  value_ : -9223372036854775808 ≤ y.value ∧ y.value ≤ 9223372036854775807

theorem elem_FieldV {H : Type} {enc : TypeId × Value → H} {w : World} {base : Nat} {spare : Nat → Bool} {held : Bool} (n : Nat) (cs : List Value) (x : DataW H × List MemPlace) (hl : cs.length = 4)
    (h : DataW.trod enc Try.prog w base spare held n 55 cs = some x) (hw : Light Try.prog 55 x.1) : ∃ y : FieldV, cs = encFieldV y ∧ FieldV.Ok w y := by
  obtain ⟨xs, m, _, hxx, _, hxl, hg⟩ := DataW.trod_struct Try.underlying55 h
  subst hxx
  match cs, hl with
  | [c0, c1, c2, c3], _ =>
    have hx : xs.length = 4 := hxl
    have g0 : DataW.trod enc Try.prog w base spare held m 3 (([c0, c1, c2, c3].drop 0).take (Try.prog.cellsOf 3)) = xs[0]? := hg 0 _ rfl
    rw [show Try.prog.cellsOf 3 = 1 by kernel_rfl] at g0
    have g1 : DataW.trod enc Try.prog w base spare held m 3 (([c0, c1, c2, c3].drop 1).take (Try.prog.cellsOf 3)) = xs[1]? := hg 1 _ rfl
    rw [show Try.prog.cellsOf 3 = 1 by kernel_rfl] at g1
    have g2 : DataW.trod enc Try.prog w base spare held m 3 (([c0, c1, c2, c3].drop 2).take (Try.prog.cellsOf 3)) = xs[2]? := hg 2 _ rfl
    rw [show Try.prog.cellsOf 3 = 1 by kernel_rfl] at g2
    have g3 : DataW.trod enc Try.prog w base spare held m 3 (([c0, c1, c2, c3].drop 3).take (Try.prog.cellsOf 3)) = xs[3]? := hg 3 _ rfl
    rw [show Try.prog.cellsOf 3 = 1 by kernel_rfl] at g3
    obtain ⟨k0, rfl, a0⟩ := fld_int Try.underlying3 g0 (some_of_len (by omega))
    obtain ⟨k1, rfl, a1⟩ := fld_int Try.underlying3 g1 (some_of_len (by omega))
    obtain ⟨k2, rfl, a2⟩ := fld_int Try.underlying3 g2 (some_of_len (by omega))
    obtain ⟨k3, rfl, a3⟩ := fld_int Try.underlying3 g3 (some_of_len (by omega))
    exact ⟨⟨k0, k1, k2, k3⟩, rfl, ⟨a0, a1, a2, a3⟩⟩

theorem open_FieldV {H : Type} {enc : TypeId × Value → H} {w : World} {base : Nat} {spare : Nat → Bool} {held : Bool} {b0 : Nat} {r : Reach} {v : Value} {d : DataW H} {p : List MemPlace}
    (hval : Value.okWide Try.prog w r b0 55 v) (h : DataW.Trod enc Try.prog w base spare held 55 v d p) (hw : Light Try.prog 55 d) : ∃ y : FieldV, v = .agg (encFieldV y).toArray ∧ FieldV.Ok w y := by
  obtain ⟨cs, rfl, hs⟩ := okWide_struct Try.underlying55 hval
  obtain ⟨fuel, hf⟩ := h
  have hl : cs.toList.length = 4 := by rw [Array.length_toList, hs]; kernel_rfl
  obtain ⟨y, hy, hok⟩ := elem_FieldV fuel cs.toList _ hl hf hw
  exact ⟨y, by rw [← hy], hok⟩
theorem open_FieldVs {H : Type} {enc : TypeId × Value → H} {w : World} {base : Nat} {spare : Nat → Bool} {held : Bool} {b0 : Nat} {r : Reach} {v : Value} {d : DataW H} {p : List MemPlace}
    (hval : Value.okWide Try.prog w r b0 24 v) (h : DataW.Trod enc Try.prog w base spare held 24 v d p) (hw : Light Try.prog 24 d) : ∃ l : List FieldV, Rd w 4 v l.length (l.flatMap encFieldV) ∧ (∀ y ∈ l, FieldV.Ok w y) ∧ l.length ≤ 140737488351232 :=
  (fun ⟨l, a, b, n⟩ => ⟨l, a, b, Nat.le_trans (Nat.le_mul_of_pos_right _ (of_decide_eq_true (by kernel_rfl))) n⟩) (open_arg_reach encFieldV (FieldV.Ok w) 4 (by omega) (fun _ => rfl) (by kernel_rfl) Try.underlying24 (fun n cs x hl h hw => elem_FieldV n cs x hl h hw) hval h hw)
/-- A Trap as data. -/
structure TrapV where
  from_ : Int
  to_ : Int
  at_ : Int
  type_ : Int
def encTrapV (y : TrapV) : List Value := [.int .i64 y.from_, .int .i64 y.to_, .int .i64 y.at_, .int .i64 y.type_]
theorem encTrapV_len (y : TrapV) : (encTrapV y).length = 4 := rfl
structure TrapV.Ok (w : World) (y : TrapV) : Prop where
  from__ : -9223372036854775808 ≤ y.from_ ∧ y.from_ ≤ 9223372036854775807
  to__ : -9223372036854775808 ≤ y.to_ ∧ y.to_ ≤ 9223372036854775807
  at__ : -9223372036854775808 ≤ y.at_ ∧ y.at_ ≤ 9223372036854775807
  type__ : -9223372036854775808 ≤ y.type_ ∧ y.type_ ≤ 9223372036854775807

theorem elem_TrapV {H : Type} {enc : TypeId × Value → H} {w : World} {base : Nat} {spare : Nat → Bool} {held : Bool} (n : Nat) (cs : List Value) (x : DataW H × List MemPlace) (hl : cs.length = 4)
    (h : DataW.trod enc Try.prog w base spare held n 59 cs = some x) (hw : Light Try.prog 59 x.1) : ∃ y : TrapV, cs = encTrapV y ∧ TrapV.Ok w y := by
  obtain ⟨xs, m, _, hxx, _, hxl, hg⟩ := DataW.trod_struct Try.underlying59 h
  subst hxx
  match cs, hl with
  | [c0, c1, c2, c3], _ =>
    have hx : xs.length = 4 := hxl
    have g0 : DataW.trod enc Try.prog w base spare held m 3 (([c0, c1, c2, c3].drop 0).take (Try.prog.cellsOf 3)) = xs[0]? := hg 0 _ rfl
    rw [show Try.prog.cellsOf 3 = 1 by kernel_rfl] at g0
    have g1 : DataW.trod enc Try.prog w base spare held m 3 (([c0, c1, c2, c3].drop 1).take (Try.prog.cellsOf 3)) = xs[1]? := hg 1 _ rfl
    rw [show Try.prog.cellsOf 3 = 1 by kernel_rfl] at g1
    have g2 : DataW.trod enc Try.prog w base spare held m 3 (([c0, c1, c2, c3].drop 2).take (Try.prog.cellsOf 3)) = xs[2]? := hg 2 _ rfl
    rw [show Try.prog.cellsOf 3 = 1 by kernel_rfl] at g2
    have g3 : DataW.trod enc Try.prog w base spare held m 3 (([c0, c1, c2, c3].drop 3).take (Try.prog.cellsOf 3)) = xs[3]? := hg 3 _ rfl
    rw [show Try.prog.cellsOf 3 = 1 by kernel_rfl] at g3
    obtain ⟨k0, rfl, a0⟩ := fld_int Try.underlying3 g0 (some_of_len (by omega))
    obtain ⟨k1, rfl, a1⟩ := fld_int Try.underlying3 g1 (some_of_len (by omega))
    obtain ⟨k2, rfl, a2⟩ := fld_int Try.underlying3 g2 (some_of_len (by omega))
    obtain ⟨k3, rfl, a3⟩ := fld_int Try.underlying3 g3 (some_of_len (by omega))
    exact ⟨⟨k0, k1, k2, k3⟩, rfl, ⟨a0, a1, a2, a3⟩⟩

theorem open_TrapV {H : Type} {enc : TypeId × Value → H} {w : World} {base : Nat} {spare : Nat → Bool} {held : Bool} {b0 : Nat} {r : Reach} {v : Value} {d : DataW H} {p : List MemPlace}
    (hval : Value.okWide Try.prog w r b0 59 v) (h : DataW.Trod enc Try.prog w base spare held 59 v d p) (hw : Light Try.prog 59 d) : ∃ y : TrapV, v = .agg (encTrapV y).toArray ∧ TrapV.Ok w y := by
  obtain ⟨cs, rfl, hs⟩ := okWide_struct Try.underlying59 hval
  obtain ⟨fuel, hf⟩ := h
  have hl : cs.toList.length = 4 := by rw [Array.length_toList, hs]; kernel_rfl
  obtain ⟨y, hy, hok⟩ := elem_TrapV fuel cs.toList _ hl hf hw
  exact ⟨y, by rw [← hy], hok⟩
theorem open_TrapVs {H : Type} {enc : TypeId × Value → H} {w : World} {base : Nat} {spare : Nat → Bool} {held : Bool} {b0 : Nat} {r : Reach} {v : Value} {d : DataW H} {p : List MemPlace}
    (hval : Value.okWide Try.prog w r b0 50 v) (h : DataW.Trod enc Try.prog w base spare held 50 v d p) (hw : Light Try.prog 50 d) : ∃ l : List TrapV, Rd w 4 v l.length (l.flatMap encTrapV) ∧ (∀ y ∈ l, TrapV.Ok w y) ∧ l.length ≤ 140737488351232 :=
  (fun ⟨l, a, b, n⟩ => ⟨l, a, b, Nat.le_trans (Nat.le_mul_of_pos_right _ (of_decide_eq_true (by kernel_rfl))) n⟩) (open_arg_reach encTrapV (TrapV.Ok w) 4 (by omega) (fun _ => rfl) (by kernel_rfl) Try.underlying50 (fun n cs x hl h hw => elem_TrapV n cs x hl h hw) hval h hw)
/-- A Method as data. -/
structure MethodV where
  access : Int
  name : Int
  desc : Int
  has : Bool
  stack : Int
  locals : Int
  codeV : Value
  code : List UInt8
  trapsV : Value
  traps : List TrapV
def encMethodV (y : MethodV) : List Value := [.int .i64 y.access, .int .i64 y.name, .int .i64 y.desc, .bool y.has, .int .i64 y.stack, .int .i64 y.locals, y.codeV, y.trapsV]
theorem encMethodV_len (y : MethodV) : (encMethodV y).length = 8 := rfl
structure MethodV.Ok (w : World) (y : MethodV) : Prop where
  access_ : -9223372036854775808 ≤ y.access ∧ y.access ≤ 9223372036854775807
  name_ : -9223372036854775808 ≤ y.name ∧ y.name ≤ 9223372036854775807
  desc_ : -9223372036854775808 ≤ y.desc ∧ y.desc ≤ 9223372036854775807
  stack_ : -9223372036854775808 ≤ y.stack ∧ y.stack ≤ 9223372036854775807
  locals_ : -9223372036854775808 ≤ y.locals ∧ y.locals ≤ 9223372036854775807
  code_ : Rd w 1 y.codeV y.code.length (y.code.flatMap (fun k : UInt8 => [byteV k]))
  code_all : ∀ z ∈ y.code, (fun _ : UInt8 => True) z
  code_len : y.code.length ≤ 140737488351232
  code_by : y.code.length * Try.prog.bytesOf 5 ≤ reachBytes
  traps_ : Rd w 4 y.trapsV y.traps.length (y.traps.flatMap encTrapV)
  traps_all : ∀ z ∈ y.traps, (TrapV.Ok w) z
  traps_len : y.traps.length ≤ 140737488351232
  traps_by : y.traps.length * Try.prog.bytesOf 59 ≤ reachBytes

theorem elem_MethodV {H : Type} {enc : TypeId × Value → H} {w : World} {base : Nat} {spare : Nat → Bool} {held : Bool} (n : Nat) (cs : List Value) (x : DataW H × List MemPlace) (hl : cs.length = 8)
    (h : DataW.trod enc Try.prog w base spare held n 52 cs = some x) (hw : Light Try.prog 52 x.1) : ∃ y : MethodV, cs = encMethodV y ∧ MethodV.Ok w y := by
  obtain ⟨xs, m, _, hxx, _, hxl, hg⟩ := DataW.trod_struct Try.underlying52 h
  subst hxx
  match cs, hl with
  | [c0, c1, c2, c3, c4, c5, c6, c7], _ =>
    have hx : xs.length = 8 := hxl
    have g0 : DataW.trod enc Try.prog w base spare held m 3 (([c0, c1, c2, c3, c4, c5, c6, c7].drop 0).take (Try.prog.cellsOf 3)) = xs[0]? := hg 0 _ rfl
    rw [show Try.prog.cellsOf 3 = 1 by kernel_rfl] at g0
    have g1 : DataW.trod enc Try.prog w base spare held m 3 (([c0, c1, c2, c3, c4, c5, c6, c7].drop 1).take (Try.prog.cellsOf 3)) = xs[1]? := hg 1 _ rfl
    rw [show Try.prog.cellsOf 3 = 1 by kernel_rfl] at g1
    have g2 : DataW.trod enc Try.prog w base spare held m 3 (([c0, c1, c2, c3, c4, c5, c6, c7].drop 2).take (Try.prog.cellsOf 3)) = xs[2]? := hg 2 _ rfl
    rw [show Try.prog.cellsOf 3 = 1 by kernel_rfl] at g2
    have g3 : DataW.trod enc Try.prog w base spare held m 4 (([c0, c1, c2, c3, c4, c5, c6, c7].drop 3).take (Try.prog.cellsOf 4)) = xs[3]? := hg 3 _ rfl
    rw [show Try.prog.cellsOf 4 = 1 by kernel_rfl] at g3
    have g4 : DataW.trod enc Try.prog w base spare held m 3 (([c0, c1, c2, c3, c4, c5, c6, c7].drop 4).take (Try.prog.cellsOf 3)) = xs[4]? := hg 4 _ rfl
    rw [show Try.prog.cellsOf 3 = 1 by kernel_rfl] at g4
    have g5 : DataW.trod enc Try.prog w base spare held m 3 (([c0, c1, c2, c3, c4, c5, c6, c7].drop 5).take (Try.prog.cellsOf 3)) = xs[5]? := hg 5 _ rfl
    rw [show Try.prog.cellsOf 3 = 1 by kernel_rfl] at g5
    have g6 : DataW.trod enc Try.prog w base spare held m 49 (([c0, c1, c2, c3, c4, c5, c6, c7].drop 6).take (Try.prog.cellsOf 49)) = xs[6]? := hg 6 _ rfl
    rw [show Try.prog.cellsOf 49 = 1 by kernel_rfl] at g6
    have g7 : DataW.trod enc Try.prog w base spare held m 50 (([c0, c1, c2, c3, c4, c5, c6, c7].drop 7).take (Try.prog.cellsOf 50)) = xs[7]? := hg 7 _ rfl
    rw [show Try.prog.cellsOf 50 = 1 by kernel_rfl] at g7
    obtain ⟨k0, rfl, a0⟩ := fld_int Try.underlying3 g0 (some_of_len (by omega))
    obtain ⟨k1, rfl, a1⟩ := fld_int Try.underlying3 g1 (some_of_len (by omega))
    obtain ⟨k2, rfl, a2⟩ := fld_int Try.underlying3 g2 (some_of_len (by omega))
    obtain ⟨k3, rfl⟩ := fld_bool Try.underlying4 g3 (some_of_len (by omega))
    obtain ⟨k4, rfl, a4⟩ := fld_int Try.underlying3 g4 (some_of_len (by omega))
    obtain ⟨k5, rfl, a5⟩ := fld_int Try.underlying3 g5 (some_of_len (by omega))
    obtain ⟨l6, a6, b6, n6⟩ := open_cell_reach (fun k : UInt8 => [byteV k]) (fun _ : UInt8 => True) 1 (by omega) (fun _ => rfl) (by kernel_rfl) Try.underlying49 (fun n cs x hl h _ => elem_u8_ Try.underlying5 n cs x hl h) g6 (some_of_len (by omega)) (fun z hz => Light.field Try.underlying52 hw (j := 6) rfl (by rw [List.getElem?_map, hz]; rfl))
    obtain ⟨l7, a7, b7, n7⟩ := open_cell_reach encTrapV (TrapV.Ok w) 4 (by omega) (fun _ => rfl) (by kernel_rfl) Try.underlying50 (fun n cs x hl h hw => elem_TrapV n cs x hl h hw) g7 (some_of_len (by omega)) (fun z hz => Light.field Try.underlying52 hw (j := 7) rfl (by rw [List.getElem?_map, hz]; rfl))
    exact ⟨⟨k0, k1, k2, k3, k4, k5, _, l6, _, l7⟩, rfl, ⟨a0, a1, a2, a4, a5, a6, b6, by exact Nat.le_trans (Nat.le_mul_of_pos_right _ (of_decide_eq_true (by kernel_rfl))) n6, n6, a7, b7, by exact Nat.le_trans (Nat.le_mul_of_pos_right _ (of_decide_eq_true (by kernel_rfl))) n7, n7⟩⟩

theorem open_MethodV {H : Type} {enc : TypeId × Value → H} {w : World} {base : Nat} {spare : Nat → Bool} {held : Bool} {b0 : Nat} {r : Reach} {v : Value} {d : DataW H} {p : List MemPlace}
    (hval : Value.okWide Try.prog w r b0 52 v) (h : DataW.Trod enc Try.prog w base spare held 52 v d p) (hw : Light Try.prog 52 d) : ∃ y : MethodV, v = .agg (encMethodV y).toArray ∧ MethodV.Ok w y := by
  obtain ⟨cs, rfl, hs⟩ := okWide_struct Try.underlying52 hval
  obtain ⟨fuel, hf⟩ := h
  have hl : cs.toList.length = 8 := by rw [Array.length_toList, hs]; kernel_rfl
  obtain ⟨y, hy, hok⟩ := elem_MethodV fuel cs.toList _ hl hf hw
  exact ⟨y, by rw [← hy], hok⟩
theorem open_MethodVs {H : Type} {enc : TypeId × Value → H} {w : World} {base : Nat} {spare : Nat → Bool} {held : Bool} {b0 : Nat} {r : Reach} {v : Value} {d : DataW H} {p : List MemPlace}
    (hval : Value.okWide Try.prog w r b0 25 v) (h : DataW.Trod enc Try.prog w base spare held 25 v d p) (hw : Light Try.prog 25 d) : ∃ l : List MethodV, Rd w 8 v l.length (l.flatMap encMethodV) ∧ (∀ y ∈ l, MethodV.Ok w y) ∧ l.length ≤ 140737488351232 :=
  (fun ⟨l, a, b, n⟩ => ⟨l, a, b, Nat.le_trans (Nat.le_mul_of_pos_right _ (of_decide_eq_true (by kernel_rfl))) n⟩) (open_arg_reach encMethodV (MethodV.Ok w) 8 (by omega) (fun _ => rfl) (by kernel_rfl) Try.underlying25 (fun n cs x hl h hw => elem_MethodV n cs x hl h hw) hval h hw)
/-- A Class as data. -/
structure ClassV where
  minor : Int
  major : Int
  poolV : Value
  pool : List ConstV
  access : Int
  this : Int
  super : Int
  interfacesV : Value
  interfaces : List Int
  fieldsV : Value
  fields : List FieldV
  methodsV : Value
  methods : List MethodV
def encClassV (y : ClassV) : List Value := [.int .i64 y.minor, .int .i64 y.major, y.poolV, .int .i64 y.access, .int .i64 y.this, .int .i64 y.super, y.interfacesV, y.fieldsV, y.methodsV]
theorem encClassV_len (y : ClassV) : (encClassV y).length = 9 := rfl
structure ClassV.Ok (w : World) (y : ClassV) : Prop where
  minor_ : -9223372036854775808 ≤ y.minor ∧ y.minor ≤ 9223372036854775807
  major_ : -9223372036854775808 ≤ y.major ∧ y.major ≤ 9223372036854775807
  pool_ : Rd w 5 y.poolV y.pool.length (y.pool.flatMap encConstV)
  pool_all : ∀ z ∈ y.pool, (ConstV.Ok w) z
  pool_len : y.pool.length ≤ 140737488351232
  pool_by : y.pool.length * Try.prog.bytesOf 47 ≤ reachBytes
  access_ : -9223372036854775808 ≤ y.access ∧ y.access ≤ 9223372036854775807
  this_ : -9223372036854775808 ≤ y.this ∧ y.this ≤ 9223372036854775807
  super_ : -9223372036854775808 ≤ y.super ∧ y.super ≤ 9223372036854775807
  interfaces_ : Rd w 1 y.interfacesV y.interfaces.length (y.interfaces.flatMap (fun k : Int => [Value.int .i64 k]))
  interfaces_all : ∀ z ∈ y.interfaces, (fun k : Int => -9223372036854775808 ≤ k ∧ k ≤ 9223372036854775807) z
  interfaces_len : y.interfaces.length ≤ 140737488351232
  interfaces_by : y.interfaces.length * Try.prog.bytesOf 3 ≤ reachBytes
  fields_ : Rd w 4 y.fieldsV y.fields.length (y.fields.flatMap encFieldV)
  fields_all : ∀ z ∈ y.fields, (FieldV.Ok w) z
  fields_len : y.fields.length ≤ 140737488351232
  fields_by : y.fields.length * Try.prog.bytesOf 55 ≤ reachBytes
  methods_ : Rd w 8 y.methodsV y.methods.length (y.methods.flatMap encMethodV)
  methods_all : ∀ z ∈ y.methods, (MethodV.Ok w) z
  methods_len : y.methods.length ≤ 140737488351232
  methods_by : y.methods.length * Try.prog.bytesOf 52 ≤ reachBytes

theorem elem_ClassV {H : Type} {enc : TypeId × Value → H} {w : World} {base : Nat} {spare : Nat → Bool} {held : Bool} (n : Nat) (cs : List Value) (x : DataW H × List MemPlace) (hl : cs.length = 9)
    (h : DataW.trod enc Try.prog w base spare held n 27 cs = some x) (hw : Light Try.prog 27 x.1) : ∃ y : ClassV, cs = encClassV y ∧ ClassV.Ok w y := by
  obtain ⟨xs, m, _, hxx, _, hxl, hg⟩ := DataW.trod_struct Try.underlying27 h
  subst hxx
  match cs, hl with
  | [c0, c1, c2, c3, c4, c5, c6, c7, c8], _ =>
    have hx : xs.length = 9 := hxl
    have g0 : DataW.trod enc Try.prog w base spare held m 3 (([c0, c1, c2, c3, c4, c5, c6, c7, c8].drop 0).take (Try.prog.cellsOf 3)) = xs[0]? := hg 0 _ rfl
    rw [show Try.prog.cellsOf 3 = 1 by kernel_rfl] at g0
    have g1 : DataW.trod enc Try.prog w base spare held m 3 (([c0, c1, c2, c3, c4, c5, c6, c7, c8].drop 1).take (Try.prog.cellsOf 3)) = xs[1]? := hg 1 _ rfl
    rw [show Try.prog.cellsOf 3 = 1 by kernel_rfl] at g1
    have g2 : DataW.trod enc Try.prog w base spare held m 22 (([c0, c1, c2, c3, c4, c5, c6, c7, c8].drop 2).take (Try.prog.cellsOf 22)) = xs[2]? := hg 2 _ rfl
    rw [show Try.prog.cellsOf 22 = 1 by kernel_rfl] at g2
    have g3 : DataW.trod enc Try.prog w base spare held m 3 (([c0, c1, c2, c3, c4, c5, c6, c7, c8].drop 3).take (Try.prog.cellsOf 3)) = xs[3]? := hg 3 _ rfl
    rw [show Try.prog.cellsOf 3 = 1 by kernel_rfl] at g3
    have g4 : DataW.trod enc Try.prog w base spare held m 3 (([c0, c1, c2, c3, c4, c5, c6, c7, c8].drop 4).take (Try.prog.cellsOf 3)) = xs[4]? := hg 4 _ rfl
    rw [show Try.prog.cellsOf 3 = 1 by kernel_rfl] at g4
    have g5 : DataW.trod enc Try.prog w base spare held m 3 (([c0, c1, c2, c3, c4, c5, c6, c7, c8].drop 5).take (Try.prog.cellsOf 3)) = xs[5]? := hg 5 _ rfl
    rw [show Try.prog.cellsOf 3 = 1 by kernel_rfl] at g5
    have g6 : DataW.trod enc Try.prog w base spare held m 23 (([c0, c1, c2, c3, c4, c5, c6, c7, c8].drop 6).take (Try.prog.cellsOf 23)) = xs[6]? := hg 6 _ rfl
    rw [show Try.prog.cellsOf 23 = 1 by kernel_rfl] at g6
    have g7 : DataW.trod enc Try.prog w base spare held m 24 (([c0, c1, c2, c3, c4, c5, c6, c7, c8].drop 7).take (Try.prog.cellsOf 24)) = xs[7]? := hg 7 _ rfl
    rw [show Try.prog.cellsOf 24 = 1 by kernel_rfl] at g7
    have g8 : DataW.trod enc Try.prog w base spare held m 25 (([c0, c1, c2, c3, c4, c5, c6, c7, c8].drop 8).take (Try.prog.cellsOf 25)) = xs[8]? := hg 8 _ rfl
    rw [show Try.prog.cellsOf 25 = 1 by kernel_rfl] at g8
    obtain ⟨k0, rfl, a0⟩ := fld_int Try.underlying3 g0 (some_of_len (by omega))
    obtain ⟨k1, rfl, a1⟩ := fld_int Try.underlying3 g1 (some_of_len (by omega))
    obtain ⟨l2, a2, b2, n2⟩ := open_cell_reach encConstV (ConstV.Ok w) 5 (by omega) (fun _ => rfl) (by kernel_rfl) Try.underlying22 (fun n cs x hl h hw => elem_ConstV n cs x hl h hw) g2 (some_of_len (by omega)) (fun z hz => Light.field Try.underlying27 hw (j := 2) rfl (by rw [List.getElem?_map, hz]; rfl))
    obtain ⟨k3, rfl, a3⟩ := fld_int Try.underlying3 g3 (some_of_len (by omega))
    obtain ⟨k4, rfl, a4⟩ := fld_int Try.underlying3 g4 (some_of_len (by omega))
    obtain ⟨k5, rfl, a5⟩ := fld_int Try.underlying3 g5 (some_of_len (by omega))
    obtain ⟨l6, a6, b6, n6⟩ := open_cell_reach (fun k : Int => [Value.int .i64 k]) (fun k : Int => -9223372036854775808 ≤ k ∧ k ≤ 9223372036854775807) 1 (by omega) (fun _ => rfl) (by kernel_rfl) Try.underlying23 (fun n cs x hl h _ => elem_int_ Try.underlying3 n cs x hl h) g6 (some_of_len (by omega)) (fun z hz => Light.field Try.underlying27 hw (j := 6) rfl (by rw [List.getElem?_map, hz]; rfl))
    obtain ⟨l7, a7, b7, n7⟩ := open_cell_reach encFieldV (FieldV.Ok w) 4 (by omega) (fun _ => rfl) (by kernel_rfl) Try.underlying24 (fun n cs x hl h hw => elem_FieldV n cs x hl h hw) g7 (some_of_len (by omega)) (fun z hz => Light.field Try.underlying27 hw (j := 7) rfl (by rw [List.getElem?_map, hz]; rfl))
    obtain ⟨l8, a8, b8, n8⟩ := open_cell_reach encMethodV (MethodV.Ok w) 8 (by omega) (fun _ => rfl) (by kernel_rfl) Try.underlying25 (fun n cs x hl h hw => elem_MethodV n cs x hl h hw) g8 (some_of_len (by omega)) (fun z hz => Light.field Try.underlying27 hw (j := 8) rfl (by rw [List.getElem?_map, hz]; rfl))
    exact ⟨⟨k0, k1, _, l2, k3, k4, k5, _, l6, _, l7, _, l8⟩, rfl, ⟨a0, a1, a2, b2, by exact Nat.le_trans (Nat.le_mul_of_pos_right _ (of_decide_eq_true (by kernel_rfl))) n2, n2, a3, a4, a5, a6, b6, by exact Nat.le_trans (Nat.le_mul_of_pos_right _ (of_decide_eq_true (by kernel_rfl))) n6, n6, a7, b7, by exact Nat.le_trans (Nat.le_mul_of_pos_right _ (of_decide_eq_true (by kernel_rfl))) n7, n7, a8, b8, by exact Nat.le_trans (Nat.le_mul_of_pos_right _ (of_decide_eq_true (by kernel_rfl))) n8, n8⟩⟩

theorem open_ClassV {H : Type} {enc : TypeId × Value → H} {w : World} {base : Nat} {spare : Nat → Bool} {held : Bool} {b0 : Nat} {r : Reach} {v : Value} {d : DataW H} {p : List MemPlace}
    (hval : Value.okWide Try.prog w r b0 27 v) (h : DataW.Trod enc Try.prog w base spare held 27 v d p) (hw : Light Try.prog 27 d) : ∃ y : ClassV, v = .agg (encClassV y).toArray ∧ ClassV.Ok w y := by
  obtain ⟨cs, rfl, hs⟩ := okWide_struct Try.underlying27 hval
  obtain ⟨fuel, hf⟩ := h
  have hl : cs.toList.length = 9 := by rw [Array.length_toList, hs]; kernel_rfl
  obtain ⟨y, hy, hok⟩ := elem_ClassV fuel cs.toList _ hl hf hw
  exact ⟨y, by rw [← hy], hok⟩
end Go.Proofs.Ytcklmhbcjgiplaa

namespace Go.Proofs.Ytcklmhbcjgiplaa
set_option linter.unusedVariables false
set_option linter.unusedSimpArgs false
open Go.RowKit
set_option maxRecDepth 100000

def ConstV.c (y : ConstV) : ConstC := ⟨y.tag, y.text, y.int, y.a, y.b⟩
def FieldV.c (y : FieldV) : FieldC := ⟨y.access, y.name, y.desc, y.value⟩
def TrapV.c (y : TrapV) : TrapC := ⟨y.from_, y.to_, y.at_, y.type_⟩
def MethodV.c (y : MethodV) : MethC := ⟨y.access, y.name, y.desc, y.has, y.stack, y.locals, y.code, y.traps.map TrapV.c⟩
def ClassV.c (y : ClassV) : ClassC := ⟨y.minor, y.major, y.pool.map ConstV.c, y.access, y.this, y.super, y.interfaces, y.fields.map FieldV.c, y.methods.map MethodV.c⟩
def ClassV.mv (y : ClassV) : List (MethC × Value × Value) := y.methods.map fun m => (m.c, m.codeV, m.trapsV)
theorem flat_conv {α β : Type} (f : α → β) (e : β → List Value) (e' : α → List Value) (h : ∀ x, e (f x) = e' x) (l : List α) : (l.map f).flatMap e = l.flatMap e' := by
  rw [List.flatMap_map]
  congr 1
  funext x
  exact h x
theorem flat_bytes (l : List UInt8) : l.flatMap (fun k : UInt8 => [byteV k]) = l.map byteV := by
  induction l with
  | nil => rfl
  | cons x l ih => simp [List.flatMap_cons, ih]
/-- What is known of a class that is an argument. -/
structure ArgC (w : World) (c : ClassC) (mv : List (MethC × Value × Value)) (vP vI vF vM : Value) : Prop where
  rd : CRd w c mv vP vI vF vM
  text : ∀ k ∈ c.pool, k.text.size ≤ maxLen
  len : c.pool.length ≤ 140737488351232 ∧ c.ifaces.length ≤ 140737488351232 ∧ c.fields.length ≤ 140737488351232
  code : ∀ x ∈ mv, x.1.code.length ≤ 140737488351232 ∧ x.1.traps.length * 32 ≤ 140737488351232
theorem ClassV.arg {w : World} {y : ClassV} (h : ClassV.Ok w y) : ArgC w y.c y.mv y.poolV y.interfacesV y.fieldsV y.methodsV := by
  refine ⟨⟨?_, ?_, ?_, ?_, ?_, ?_⟩, ?_, ?_, ?_⟩
  · have h0 := h.pool_
    show Rd w 5 y.poolV (y.pool.map ConstV.c).length ((y.pool.map ConstV.c).flatMap encC)
    rw [List.length_map, flat_conv ConstV.c encC encConstV (fun _ => rfl)]
    exact h0
  · exact h.interfaces_
  · have h0 := h.fields_
    show Rd w 4 y.fieldsV (y.fields.map FieldV.c).length ((y.fields.map FieldV.c).flatMap encF)
    rw [List.length_map, flat_conv FieldV.c encF encFieldV (fun _ => rfl)]
    exact h0
  · have h0 := h.methods_
    unfold ClassV.mv
    rw [List.length_map, flat_conv (fun m : MethodV => (m.c, m.codeV, m.trapsV)) encM encMethodV (fun _ => rfl)]
    exact h0
  · intro x hx
    obtain ⟨m, hm, rfl⟩ := List.mem_map.1 hx
    have hk := h.methods_all m hm
    refine ⟨?_, ?_⟩
    · have h0 := hk.code_
      rw [flat_bytes] at h0
      exact h0
    · have h0 := hk.traps_
      show Rd w 4 m.trapsV (m.traps.map TrapV.c).length ((m.traps.map TrapV.c).flatMap encT)
      rw [List.length_map, flat_conv TrapV.c encT encTrapV (fun _ => rfl)]
      exact h0
  · show y.methods.map MethodV.c = (y.methods.map fun m => (m.c, m.codeV, m.trapsV)).map fun x => x.1
    rw [List.map_map]
    rfl
  · intro k hk
    obtain ⟨x, hx, rfl⟩ := List.mem_map.1 hk
    exact (h.pool_all x hx).text_
  · exact ⟨by show (y.pool.map ConstV.c).length ≤ _; rw [List.length_map]; exact h.pool_len, h.interfaces_len, by show (y.fields.map FieldV.c).length ≤ _; rw [List.length_map]; exact h.fields_len⟩
  · intro x hx
    obtain ⟨m, hm, rfl⟩ := List.mem_map.1 hx
    have hk := h.methods_all m hm
    refine ⟨hk.code_len, ?_⟩
    have h0 := hk.traps_by
    rw [show Try.prog.bytesOf 59 = 32 by kernel_rfl] at h0
    show (m.traps.map TrapV.c).length * 32 ≤ _
    rw [List.length_map]
    exact h0
end Go.Proofs.Ytcklmhbcjgiplaa
