/-
  Chapter 12's rows of classes with letters: what the walks share.
-/
import Derived.Test.YtccbdnlknijcbaaFn0
import Derived.Test.YtccbdnlknijcbaaFindA
import Derived.Test.YtccbdnlknijcbaaFindC
import Derived.Deep.CutBlock
namespace Go.Proofs.Ytccbdnlknijcbaa
open Go.RowKit
set_option maxRecDepth 100000

theorem letter12_ (i : Int) (j : Nat) (w : World) (h : i = j) (hj : j < 26) : Calls Try.prog 6 #[.int .i64 i] w fun e w' => e = .returned (.string (letterS j)) ∧ w = w' := by
  subst h
  have h1 : IntKind.i64.wrap ((j : Int) + 1) = (j : Int) + 1 := IntWalk.i64_in _ (by omega)
  have h2 : (0 : Int) ≤ (j : Int) := by omega
  have h3 : (j : Int) + 1 ≤ 26 := by omega
  have h4 : (j : Int) ≤ (j : Int) + 1 := by omega
  go_enter Try.func6, Try.ntmps6
  go_wp2_with fail
  go_ret
  exact ⟨rfl, rfl⟩
theorem lsz12 {k : Nat} (h : k < 26) : (letterS k).size ≤ maxLen := by rw [letter_sz k h]; decide
theorem sup12 {n k : Nat} (h : k < 25) : (supN n k).size ≤ maxLen := by
  unfold supN
  split
  · exact lsz12 (by omega)
  · decide
section
variable {P : Program} (w : World)
/-- As 'wpl_pushH', of some elements at once. -/
theorem wpl_pushN {t e : TypeId} {z : Value} {size bytes : Nat} (E : ElemTy P t e z size bytes) {ops : Array Oper} {rest : List Oper} {o : Oper} {a : Act} {Q : Exit → Act → World → Prop} (hgd : o.guard = none) (s x : Operand)
    (ho : o.op = .call { callee := .builtin .append, args := #[s, x], argTypes := #[t, t] })
    (base : Nat) (v : Value) (n : Nat) (xs : List Value) (hs : a.eval s = v) (hown : w.ownsRow base e size v n xs)
    (m : Nat) (cs : List Value) (e' : TypeId) (H : Nat) (hx : a.eval x = .slice (some ⟨H, 0, none⟩) m m) (hH : w.heap.size = H) (hl : cs.length = m * size) (h1 : ∀ u ∈ cs, u.oneCell' = true)
    (hbytes : (n + m) * bytes ≤ 140737488355328) (hsmall : n + m ≤ 9223372036854775807) (hbase : base ≤ H)
    (h : ∀ v' w', w'.ownsRow base e size v' (n + m) (xs ++ cs) → w.grownBy w' v.ownBlock → wpList P ops Q rest (a.put o.dst v') w') : wpList P ops Q (o :: rest) a (w.alloc (.cells cs.toArray e')) := by
  subst hH
  have hr : Rd (w.alloc (.cells cs.toArray e')) size (.slice (some ⟨w.heap.size, 0, none⟩) m m) m cs := by
    refine ⟨hl, _, m, rfl, Nat.le_refl _, by omega, fun _ => ⟨_, _, rfl, fun j u hu => ?_⟩⟩
    rw [Nat.zero_add, cell_of_row _ _ j cs.toArray e' (0, 0) (heap_alloc_new w _)]
    simpa using hu
  refine wpl_append _ E hgd s x ho base v n xs hs (hown.alloc _) _ m cs hx hr h1 hbytes hsmall (by simp; omega) ?_
  intro v' w' h2 h3
  refine h v' w' h2 ⟨h3.os, h3.tape, h3.output, by have := h3.size; simp at this; omega, fun k hk hne => ?_⟩
  rw [h3.block k (by simp; omega) hne]; exact Below.heap_alloc w _ k hk
end
section
variable {w W : World} {v : Value}
def OneS (W : World) (v : Value) (l : List ByteArray) : Prop := (v = .slice none 0 0 ∧ l = []) ∨ ∃ h s, s.size ≤ maxLen ∧ v = .slice (some ⟨h, 0, none⟩) 1 1 ∧ l = [s] ∧ Blk W h 9 #[.string s]
def OneY (W : World) (v : Value) (l : List MemberV) : Prop := (v = .slice none 0 0 ∧ l = []) ∨ ∃ h m, MemberV.Ok W m ∧ v = .slice (some ⟨h, 0, none⟩) 1 1 ∧ l = [m] ∧ Blk W h 31 (encMemberV m).toArray
/-- A type of at most one interface, one field and one method, each in a block of its own. -/
structure RowZ (W : World) (y : TypeV) : Prop where
  nm : y.name.size ≤ maxLen
  sp : y.super.size ≤ maxLen
  acc : -9223372036854775808 ≤ y.access ∧ y.access ≤ 9223372036854775807
  fs : OneY W y.fieldsV y.fields
  is : OneS W y.interfacesV y.interfaces
  ms : OneY W y.methodsV y.methods
theorem OneS.rd {l : List ByteArray} (h : OneS W v l) : Rd W 1 v l.length (l.flatMap encS) ∧ (∀ z ∈ l, z.size ≤ maxLen) ∧ l.length ≤ 140737488351232 := by
  rcases h with ⟨rfl, rfl⟩ | ⟨h, s, hs, rfl, rfl, hb⟩
  · exact ⟨Rd.nil, by simp, by simp⟩
  · exact ⟨one_rd hb, by simpa using hs, by simp⟩
theorem OneY.rd {l : List MemberV} (h : OneY W v l) : Rd W 5 v l.length (l.flatMap encMemberV) ∧ (∀ z ∈ l, MemberV.Ok W z) ∧ l.length ≤ 140737488351232 := by
  rcases h with ⟨rfl, rfl⟩ | ⟨h, m, hm, rfl, rfl, hb⟩
  · exact ⟨Rd.nil, by simp, by simp⟩
  · exact ⟨one_mem hb, by simpa using hm, by simp⟩
theorem OneS.touch {l : List ByteArray} {S : Nat → Prop} (h : OneS w v l) (ht : Touch S w W) (hs : ∀ k, S k → k < w.heap.size → TyAt w k 27) : OneS W v l := by
  rcases h with h | ⟨h, s, hz, h1, h2, hb⟩
  · exact .inl h
  · exact .inr ⟨h, s, hz, h1, h2, hb.touch ht fun e => TyAt.ne ⟨_, hb⟩ (hs h e hb.lt) (by decide) rfl⟩
theorem OneY.touch {l : List MemberV} {S : Nat → Prop} (h : OneY w v l) (ht : Touch S w W) (hs : ∀ k, S k → k < w.heap.size → TyAt w k 27) : OneY W v l := by
  rcases h with h | ⟨h, m, hz, h1, h2, hb⟩
  · exact .inl h
  · exact .inr ⟨h, m, ⟨hz.access_, hz.name_, hz.desc_, hz.value_⟩, h1, h2, hb.touch ht fun e => TyAt.ne ⟨_, hb⟩ (hs h e hb.lt) (by decide) rfl⟩
theorem RowZ.touch {y : TypeV} {S : Nat → Prop} (h : RowZ w y) (ht : Touch S w W) (hs : ∀ k, S k → k < w.heap.size → TyAt w k 27) : RowZ W y :=
  ⟨h.nm, h.sp, h.acc, h.fs.touch ht hs, h.is.touch ht hs, h.ms.touch ht hs⟩
theorem RowZ.ok {y : TypeV} (h : RowZ W y) : y.Ok W := by
  obtain ⟨i1, i2, i3⟩ := h.is.rd
  obtain ⟨m1, m2, m3⟩ := h.ms.rd
  obtain ⟨f1, f2, f3⟩ := h.fs.rd
  exact ⟨h.nm, h.sp, h.acc, i1, i2, i3, f1, f2, f3, m1, m2, m3⟩
end
/-- The list, so far: c types that are told by D. -/
structure ListS (w W : World) (c : Nat) (D : List TD) (v : Value) (R : List TypeV) : Prop where
  len : R.length = c
  own : W.ownsRow w.heap.size 27 6 v c (R.flatMap encTypeV)
  d : R.map TypeV.d = D
  rows : ∀ y ∈ R, RowZ W y
  kept : Kept w W
section
variable {w W : World} {c : Nat} {D : List TD} {v : Value} {R : List TypeV}
theorem ListS.tyR (h : ListS w W c D v R) (hc : c ≤ 100) : TyR W v D := by
  refine ⟨R, h.d, ?_, fun y hy => (h.rows y hy).ok, by rw [h.len]; exact hc⟩
  rw [h.len]
  exact Rd.of_own h.own
theorem ListS.next {wr X w5 : World} {v5 : Value} {m : Nat} (hS : ListS w wr c D v R) (kq : Kept wr X) (ys : List TypeV) (hm : ys.length = m) (hy : ∀ y ∈ ys, RowZ X y)
    (ho5 : w5.ownsRow w.heap.size 27 6 v5 (c + m) (R.flatMap encTypeV ++ ys.flatMap encTypeV)) (hg5 : X.grownBy w5 v.ownBlock) :
    ListS w w5 (c + m) (D ++ ys.map TypeV.d) v5 (R ++ ys) := by
  have t0 : Touch (fun _ => False) wr X := Touch.of_kept kq
  have oq := t0.own hS.own fun _ _ => id
  have t5 : Touch (fun b => v.ownBlock = some b) X w5 := Touch.of_grown hg5 (S := fun b => v.ownBlock = some b) (fun b hb => hb)
  refine ⟨by rw [List.length_append, hS.len, hm], by rw [List.flatMap_append]; exact ho5, by rw [List.map_append, hS.d], ?_, ?_⟩
  · intro z hz
    rcases List.mem_append.1 hz with hz | hz
    · exact ((hS.rows z hz).touch t0 (fun _ h => h.elim)).touch t5 fun b hb _ => own_ty oq b hb
    · exact (hy z hz).touch t5 fun b hb _ => own_ty oq b hb
  · have h1 : Below w.heap.size w X := Below.trans hS.kept (kq.mono hS.kept.size)
    exact Below.trans h1 (t5.below (fun b hb => (oq.lt b hb).1) h1.size)
end
theorem blkN {w : World} {g : Nat} {t : TypeId} {cs : Array Value} (h : w.heap.size = g) : Blk (w.alloc (.cells cs t)) g t cs := h ▸ Blk.new w t cs
theorem mem12 (W : World) {a : Int} {ds : ByteArray} {hs : Bool} (h : -9223372036854775808 ≤ a ∧ a ≤ 9223372036854775807) (hd : ds.size ≤ maxLen) : MemberV.Ok W ⟨a, mB, ds, hs, 0⟩ :=
  ⟨h, by show mB.size ≤ maxLen; decide, hd, by show -9223372036854775808 ≤ (0 : Int) ∧ (0 : Int) ≤ 9223372036854775807; decide⟩
theorem elem_typ : ElemTy Try.prog 28 27 (.agg #[.string ⟨#[]⟩, .string ⟨#[]⟩, .int .i64 0, .slice none 0 0, .slice none 0 0, .slice none 0 0]) 6 112 := ⟨Try.underlying28, by kernel_rfl, rfl, by decide⟩
def bitB (d : Int) (i : Nat) : Bool := bits .and .i64 (d / 2 ^ i) 1 == 1
end Go.Proofs.Ytccbdnlknijcbaa
