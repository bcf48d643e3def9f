/-
  The document's search by contract: declared, Most.
-/
import Derived.Test.YtccbdnlknijcbaaFind3
import Derived.Test.YtccbdnlknijcbaaKinB
namespace Go.Proofs.Ytccbdnlknijcbaa
open Go.RowKit
set_option maxRecDepth 100000

/-- A type's cells, its lists in their slices' shape. -/
theorem ty_row {w : World} {v : Value} {D : List TD} (h : TyR w v D) {k : Nat} {t : TD} (ht : D[k]? = some t) : ∃ b off c ia ic fa fc ma mc, v = .slice (some ⟨b, off, none⟩) D.length c ∧
    w.cell? ⟨b, off + k * 6, none⟩ = some (.string t.name) ∧ w.cell? ⟨b, off + k * 6 + 1, none⟩ = some (.string t.super) ∧ w.cell? ⟨b, off + k * 6 + 2, none⟩ = some (.int .i64 t.access) ∧
    w.cell? ⟨b, off + k * 6 + 3, none⟩ = some (.slice ia t.interfaces.length ic) ∧ w.cell? ⟨b, off + k * 6 + 4, none⟩ = some (.slice fa t.fields.length fc) ∧ w.cell? ⟨b, off + k * 6 + 5, none⟩ = some (.slice ma t.methods.length mc) ∧
    Rd w 1 (.slice ia t.interfaces.length ic) t.interfaces.length (t.interfaces.flatMap encS) ∧ t.interfaces.length ≤ 140737488351232 ∧ Rd w 5 (.slice fa t.fields.length fc) t.fields.length (t.fields.flatMap encMemberV) ∧ t.fields.length ≤ 140737488351232 ∧ Rd w 5 (.slice ma t.methods.length mc) t.methods.length (t.methods.flatMap encMemberV) ∧ t.methods.length ≤ 140737488351232 := by
  obtain ⟨b, off, c, iv, fv, mv, hv, x0, x1, x2, x3, x4, x5, hi, hil, hf, hfl, hm, hml, -⟩ := h.cells ht
  obtain ⟨ia, ic, rfl, -, -⟩ := hi.2
  obtain ⟨fa, fc, rfl, -, -⟩ := hf.2
  obtain ⟨ma, mc, rfl, -, -⟩ := hm.2
  exact ⟨b, off, c, ia, ic, fa, fc, ma, mc, hv, x0, x1, x2, x3, x4, x5, hi, hil, hf, hfl, hm, hml⟩
/-- A member's place and flags in its row. -/
theorem mem_place {w : World} {l : List MemberV} {ma : Option Addr} {mc : Nat} (hr : Rd w 5 (.slice ma l.length mc) l.length (l.flatMap encMemberV)) {i : Nat} {m : MemberV} (hm : l[i]? = some m) :
    ∃ b off, ma = some ⟨b, off, none⟩ ∧ w.cell? ⟨b, off + i * 5, none⟩ = some (.int .i64 m.access) ∧ b < w.heap.size ∧ ((i : Int) < (l.length : Int)) ∧ (0 : Int) ≤ (i : Int) := by
  obtain ⟨b, off, c, hv, x0, -⟩ := mem_row_ rfl hr hm
  simp only [Value.slice.injEq] at hv
  have := (List.getElem?_eq_some_iff.1 hm).1
  exact ⟨b, off, hv.1, x0, World.block_lt_of_cell? w _ x0, by omega, by omega⟩

theorem nodup_under {A : List FV} (hp : A.Pairwise fun f g => f.1 ≠ g.1) {i j : Nat} {f g : FV} (hf : A[i]? = some f) (hg : A[j]? = some g) : f = g ↔ i = j := by
  constructor
  · intro e
    subst e
    obtain ⟨hi, h1⟩ := List.getElem?_eq_some_iff.1 hf
    obtain ⟨hj, h2⟩ := List.getElem?_eq_some_iff.1 hg
    rw [List.pairwise_iff_getElem] at hp
    rcases Nat.lt_trichotomy i j with h | h | h
    · exact absurd (by rw [h1, h2]) (hp i j hi hj h)
    · exact h
    · exact absurd (by rw [h1, h2]) (hp j i hj hi h)
  · intro e
    subst e
    rw [hf] at hg
    exact Option.some.inj hg
end Go.Proofs.Ytccbdnlknijcbaa
