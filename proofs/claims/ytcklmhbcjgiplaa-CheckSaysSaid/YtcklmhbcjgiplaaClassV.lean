/-
  A class as data, and its cells. No function of the program in sight.
-/
import Derived.Test.YtcklmhbcjgiplaaTouch
import Derived.Test.YtcklmhbcjgiplaaFile0
import Derived.Test.YtcklmhbcjgiplaaWordBytes
import Derived.Deep.AppendLies
import Derived.Deep.CutBlock
import Derived.Deep.RegionHeld2
import Derived.Deep.RegionLaw
import Derived.IntWalk
import Derived.Laws.BytesArg
import Derived.Laws.IdiomStrings
import Derived.Lib.Hide
import Derived.WalkKit
namespace Go.Proofs.Ytcklmhbcjgiplaa
set_option linter.unusedVariables false
set_option linter.unusedSimpArgs false
open Go.RowKit
set_option maxRecDepth 100000

def encC (c : ConstC) : List Value := [.int .i64 c.tag, .string c.text, .int .i64 c.num, .int .i64 c.a, .int .i64 c.b]
def encT (t : TrapC) : List Value := [.int .i64 t.fr, .int .i64 t.to, .int .i64 t.at_, .int .i64 t.ty]
def methV (m : MethC) (vc vt : Value) : List Value := [.int .i64 m.access, .int .i64 m.name, .int .i64 m.desc, .bool m.has, .int .i64 m.stack, .int .i64 m.locals, vc, vt]
def encF (f : FieldC) : List Value := [.int .i64 f.access, .int .i64 f.name, .int .i64 f.desc, .int .i64 f.value]
def encI (i : Int) : List Value := [.int .i64 i]
def encM (x : MethC × Value × Value) : List Value := methV x.1 x.2.1 x.2.2
def classV (c : ClassC) (vP vI vF vM : Value) : List Value := [.int .i64 c.minor, .int .i64 c.major, vP, .int .i64 c.access, .int .i64 c.this, .int .i64 c.super, vI, vF, vM]
theorem elem_trap : ElemTy Try.prog 50 59 (.agg #[.int .i64 0, .int .i64 0, .int .i64 0, .int .i64 0]) 4 32 := ⟨Try.underlying50, by kernel_rfl, rfl, by decide⟩
theorem elem_byte : ElemTy Try.prog 49 5 (.int .u8 0) 1 1 := ⟨Try.underlying49, by kernel_rfl, rfl, by decide⟩
theorem elem_const : ElemTy Try.prog 22 47 (.agg #[.int .i64 0, .string ⟨#[]⟩, .int .i64 0, .int .i64 0, .int .i64 0]) 5 48 := ⟨Try.underlying22, by kernel_rfl, rfl, by decide⟩
theorem elem_int : ElemTy Try.prog 23 3 (.int .i64 0) 1 8 := ⟨Try.underlying23, by kernel_rfl, rfl, by decide⟩
theorem elem_field : ElemTy Try.prog 24 55 (.agg #[.int .i64 0, .int .i64 0, .int .i64 0, .int .i64 0]) 4 32 := ⟨Try.underlying24, by kernel_rfl, rfl, by decide⟩
theorem elem_meth : ElemTy Try.prog 25 52 (.agg #[.int .i64 0, .int .i64 0, .int .i64 0, .bool false, .int .i64 0, .int .i64 0, .slice none 0 0, .slice none 0 0]) 8 96 := ⟨Try.underlying25, by kernel_rfl, rfl, by decide⟩
theorem add_none (b off i : Nat) : (⟨b, off, none⟩ : Addr).add i = ⟨b, off + i, none⟩ := by unfold Addr.add; split <;> simp_all
theorem conv_bytes {w : World} {v : Value} {l : List UInt8} (h : Rd w 1 v l.length (l.map byteV)) : (convert 49 9 v).run Try.prog w = .ok (.string ⟨l.toArray⟩) w := by
  obtain ⟨_, a, c, rfl, h1, h2, h3⟩ := h
  cases a with
  | none =>
    have hl : l = [] := by
      cases l with
      | nil => rfl
      | cons x l => obtain ⟨b, off, hh, _⟩ := h3 (by simp); cases hh
    subst hl
    exact run_convert_bytes_nil w _ _ Try.underlying49 Try.underlying5 _ _ _ Try.underlying9
  | some ad =>
    refine run_convert_bytes_back (l := l) _ _ _ _ _ _ Try.underlying49 Try.underlying5 Try.underlying9 ?_
    intro j hj
    obtain ⟨b, off, hh, hc⟩ := h3 (by omega)
    injection hh with hh
    subst hh
    rw [add_none]
    exact hc j _ (by rw [List.getElem?_map, List.getElem?_eq_getElem hj]; rfl)
end Go.Proofs.Ytcklmhbcjgiplaa
