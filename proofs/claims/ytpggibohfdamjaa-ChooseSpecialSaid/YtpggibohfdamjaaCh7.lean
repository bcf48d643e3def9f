/-
  The document's own answer of chapter 13 by contract: name, Virtual, Face.
-/
import Derived.Test.YtpggibohfdamjaaCh6
import Derived.Test.YtpggibohfdamjaaCh5
namespace Go.Proofs.Ytpggibohfdamjaa
open Go.RowKit
set_option maxRecDepth 100000

structure RPut (w : World) (r : Nat) (u0 u1 u2 : Value) : Prop where
  e0 : (w.setCell ⟨r, 0, none⟩ u0).cell? ⟨r, 0, none⟩ = some u0
  e1 : ((w.setCell ⟨r, 0, none⟩ u0).setCell ⟨r, 1, none⟩ u1).cell? ⟨r, 1, none⟩ = some u1
  e2 : (((w.setCell ⟨r, 0, none⟩ u0).setCell ⟨r, 1, none⟩ u1).setCell ⟨r, 2, none⟩ u2).cell? ⟨r, 2, none⟩ = some u2
  blk : Blk (((w.setCell ⟨r, 0, none⟩ u0).setCell ⟨r, 1, none⟩ u1).setCell ⟨r, 2, none⟩ u2) r 39 #[u0, u1, u2]
theorem rput {w : World} {r : Nat} {a b c : Value} (h : Blk w r 39 #[a, b, c]) (u0 u1 u2 : Value) : RPut w r u0 u1 u2 := by
  have h0 := h.set_ 0 u0
  have h1 := h0.set_ 1 u1
  have h2 := h1.set_ 2 u2
  have c0 := h0.cell 0
  have c1 := h1.cell 1
  have c2 := h2.cell 2
  simp at c0 c1 c2 h2
  exact ⟨c0, c1, c2, h2⟩
theorem RPut.keeps {w0 w : World} {r : Nat} (hk : Kept w0 w) (hr : w0.heap.size ≤ r) (u0 u1 u2 : Value) : Kept w0 (((w.setCell ⟨r, 0, none⟩ u0).setCell ⟨r, 1, none⟩ u1).setCell ⟨r, 2, none⟩ u2) :=
  ((hk.setCell hr _).setCell hr _).setCell hr _
def nmNo : Value := .tuple #[.agg #[.string ⟨#[]⟩, .string ⟨#[]⟩, .string ⟨#[]⟩], .int .i64 0, .bool false]
def nmYes (fc : ByteArray) (m : MemberV) : Value := .tuple #[.agg #[.string fc, .string m.name, .string m.desc], .int .i64 m.access, .bool true]
def nmV (D : List TD) (cls fc : ByteArray) (fi : Int) : Value := if there D cls then (match memO D fc fi with
  | none => nmNo
  | some m => nmYes fc m) else nmNo
theorem memO_fnd {D : List TD} {fc : ByteArray} {fi : Int} {m : MemberV} (h : memO D fc fi = some m) : ∃ k : Nat, fi = (k : Int) ∧ Fnd D (fc, k) ∧ (metL D fc)[k]? = some m := by
  unfold memO at h
  split at h
  · rename_i h0
    obtain ⟨k, hk⟩ : ∃ k : Nat, fi = (k : Int) := ⟨fi.toNat, by omega⟩
    subst hk
    rw [Int.toNat_natCast] at h
    have hl := (List.getElem?_eq_some_iff.1 h).1
    refine ⟨k, rfl, ⟨?_, hl⟩, h⟩
    show there D fc
    unfold there
    cases ho : atO D fc with
    | some j => rfl
    | none => rw [metL_no ho] at hl; simp at hl
  · cases h

end Go.Proofs.Ytpggibohfdamjaa
