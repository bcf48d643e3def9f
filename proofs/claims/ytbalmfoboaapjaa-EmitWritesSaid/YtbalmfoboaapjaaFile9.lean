/-
  Package file by contract: what code holds; an append in a region that draws.
-/
import Derived.Test.YtbalmfoboaapjaaFile8
import Derived.Deep.RegionLaw
import Derived.Deep.AppendLies
namespace Go.Proofs.Ytbalmfoboaapjaa
set_option linter.unusedVariables false
set_option linter.unusedSimpArgs false
open Go.RowKit
set_option maxRecDepth 100000

/-- An append of one element, as one step of a region that draws. -/
theorem step_pushH {P : Program} (w : World) {t e : TypeId} {z : Value} {size bytes : Nat} (E : ElemTy P t e z size bytes) {ops : Array Oper} {o : Oper} {a : Act} {K : Act → World → Prop} {Q : Exit → Act → World → Prop} {Ee : Prop} (hgd : o.guard = none) (s x : Operand)
    (ho : o.op = .call { callee := .builtin .append, args := #[s, x], argTypes := #[t, t] })
    (base : Nat) (v : Value) (n : Nat) (xs : List Value) (hs : a.eval s = v) (hown : w.ownsRow base e size v n xs)
    (cs : List Value) (e' : TypeId) (H : Nat) (hx : a.eval x = .slice (some ⟨H, 0, none⟩) 1 1) (hH : w.heap.size = H) (hl : cs.length = size) (h1 : ∀ u ∈ cs, u.oneCell' = true)
    (hbytes : (n + 1) * bytes ≤ 140737488355328) (hsmall : n + 1 ≤ 9223372036854775807) (hbase : base ≤ H)
    (h : ∀ v' w', w'.ownsRow base e size v' (n + 1) (xs ++ cs) → w.grownBy w' v.ownBlock → (∀ k, v'.ownBlock = some k → v.ownBlock = some k ∨ H ≤ k) → K (a.put o.dst v') w') :
    if Region.wanted o (yielded ops a.tmps) = true then Oper.wp P o a (w.alloc (.cells cs.toArray e')) K Q else Ee := by
  subst hH
  obtain ⟨i, hi, hz0, hz1, hz2⟩ := info_parts E.hi
  refine step_append_lies _ hgd s x t ho base e i z size bytes E.ht hi hz0 hz1 hz2 E.hz E.hs v n xs hs (hown.alloc _) ⟨w.heap.size, 0, none⟩ 1 1 cs hx (by rw [hl, Nat.one_mul]) (fun j u hu => ?_) h1 (by omega) (by simpa [maxLen] using hsmall) hbytes (by simp; omega) (w.heap.size + 1) (by simp) ?_
  · have hadd : (⟨w.heap.size, 0, none⟩ : Addr).add j = ⟨w.heap.size, j, none⟩ := by unfold Addr.add; split <;> simp_all
    rw [hadd]
    exact ((Blk.new w e' cs.toArray).cell j).trans (by simpa using hu)
  intro g cap w' h2 h3 h4 h5
  refine h _ w' h2 ⟨h3.os, h3.tape, h3.output, by have := h3.size; simp at this; omega, fun k hk hne => by
    rw [h3.block k (by simp; omega) hne]; exact Below.heap_alloc w _ k hk⟩ fun k hk => ?_
  simp only [Value.ownBlock, Option.map_some, Option.some.injEq] at hk
  subst hk
  rcases h4 with h4 | h4
  · exact .inl h4
  · exact .inr (by omega)
theorem elem_trap : ElemTy Try.prog 47 53 (.agg #[.int .i64 0, .int .i64 0, .int .i64 0, .int .i64 0]) 4 32 := ⟨Try.underlying47, by kernel_rfl, rfl, by decide⟩
theorem elem_byte : ElemTy Try.prog 31 5 (.int .u8 0) 1 1 := ⟨Try.underlying31, by kernel_rfl, rfl, by decide⟩

def encT (t : TrapC) : List Value := [.int .i64 t.fr, .int .i64 t.to, .int .i64 t.at_, .int .i64 t.ty]
def methV (m : MethC) (vc vt : Value) : List Value := [.int .i64 m.access, .int .i64 m.name, .int .i64 m.desc, .bool m.has, .int .i64 m.stack, .int .i64 m.locals, vc, vt]
/-- The rows of a method: its code, its traps, each its own. -/
structure MR (base : Nat) (m : MethC) (vc vt : Value) (w : World) : Prop where
  code : w.ownsRow base 5 1 vc m.code.length (m.code.map byteV)
  traps : w.ownsRow base 53 4 vt m.traps.length (m.traps.flatMap encT)
  ne : ∀ k, vc.ownBlock = some k → vt.ownBlock ≠ some k
/-- A method in its block. -/
structure MB (z base : Nat) (m : MethC) (vc vt : Value) (w : World) : Prop where
  blk : Blk w z 49 (methV m vc vt).toArray
  rows : MR base m vc vt w
  lt : z < base
  le : base ≤ w.heap.size
section
variable {w w' : World} {z base g : Nat} {m : MethC} {vc vt : Value}
theorem MR.touch (h : MR base m vc vt w) {S : Nat → Prop} (ht : Touch S w w') (hS : ∀ k, S k → k < base) : MR base m vc vt w' :=
  ⟨ht.own h.code fun k hk e => by have := (h.code.lt k hk).1; have := hS k e; omega, ht.own h.traps fun k hk e => by have := (h.traps.lt k hk).1; have := hS k e; omega, h.ne⟩
theorem MB.touch (h : MB z base m vc vt w) (ht : Touch (fun b => b = g) w w') (hg : g < z) : MB z base m vc vt w' :=
  have := h.lt
  ⟨h.blk.touch ht (by omega), h.rows.touch ht fun k hk => by omega, h.lt, Nat.le_trans h.le ht.size⟩
theorem MB.cells (h : MB z base m vc vt w) : w.cell? ⟨z, 0, none⟩ = some (.int .i64 m.access) ∧ w.cell? ⟨z, 1, none⟩ = some (.int .i64 m.name) ∧ w.cell? ⟨z, 2, none⟩ = some (.int .i64 m.desc) ∧ w.cell? ⟨z, 3, none⟩ = some (.bool m.has) ∧ w.cell? ⟨z, 4, none⟩ = some (.int .i64 m.stack) ∧ w.cell? ⟨z, 5, none⟩ = some (.int .i64 m.locals) ∧ w.cell? ⟨z, 6, none⟩ = some vc ∧ w.cell? ⟨z, 7, none⟩ = some vt :=
  ⟨h.blk.cell 0, h.blk.cell 1, h.blk.cell 2, h.blk.cell 3, h.blk.cell 4, h.blk.cell 5, h.blk.cell 6, h.blk.cell 7⟩
/-- A store into a method's block: what its rows are stays. -/
theorem MB.put (h : MB z base m vc vt w) (i : Nat) (u : Value) (m' : MethC) (hm : (methV m vc vt).toArray.setIfInBounds i u = (methV m' vc vt).toArray) (hc : m'.code = m.code) (ht : m'.traps = m.traps) : MB z base m' vc vt (w.setCell ⟨z, i, none⟩ u) :=
  ⟨hm ▸ h.blk.set_ i u, by
    have hT : Touch (fun b => b = z) w (w.setCell ⟨z, i, none⟩ u) := (Touch.refl _ _).one i u
    have := h.lt
    have r := h.rows.touch hT fun k hk => by omega
    exact ⟨hc ▸ r.code, ht ▸ r.traps, r.ne⟩, h.lt, by simpa [World.setCell] using h.le⟩
end
/-- What code and its caller may turn: the reader, the method's block and all that is younger. -/
def MS (g z : Nat) (b : Nat) : Prop := b = g ∨ z ≤ b
end Go.Proofs.Ytbalmfoboaapjaa
