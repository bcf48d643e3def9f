/-
  Words for objects behind pointers: which blocks a call may have written. No function of the program in sight.
-/
import Derived.Test.YtcklmhbcjgiplaaBase
import Derived.Maps.AppendAt
namespace Go.Proofs.Ytcklmhbcjgiplaa
set_option linter.unusedVariables false
set_option linter.unusedSimpArgs false
open Go.RowKit

/-- Of what was there only blocks of 'S' may have turned. -/
structure Touch (S : Nat → Prop) (w w' : World) : Prop where
  os : w'.os = w.os
  tape : w'.tape = w.tape
  output : w'.output = w.output
  size : w.heap.size ≤ w'.heap.size
  blocks : ∀ k, k < w.heap.size → ¬ S k → w'.heap[k]? = w.heap[k]?

section
variable {S S' : Nat → Prop} {w w' w'' : World} {B : Nat}
theorem Touch.refl (S : Nat → Prop) (w : World) : Touch S w w := ⟨rfl, rfl, rfl, Nat.le_refl _, fun _ _ _ => rfl⟩
theorem Touch.trans (h : Touch S w w') (k : Touch S' w' w'') (hs : ∀ b, S' b → S b ∨ w.heap.size ≤ b) : Touch S w w'' :=
  ⟨k.os.trans h.os, k.tape.trans h.tape, k.output.trans h.output, Nat.le_trans h.size k.size, fun b hb hn => by
    rw [k.blocks b (Nat.lt_of_lt_of_le hb h.size) (fun hs' => by rcases hs b hs' with h1 | h1 <;> first | exact hn h1 | omega), h.blocks b hb hn]⟩
theorem Touch.mono (h : Touch S w w') (hs : ∀ b, S b → S' b) : Touch S' w w' := ⟨h.os, h.tape, h.output, h.size, fun b hb hn => h.blocks b hb fun k => hn (hs b k)⟩
theorem Touch.below (h : Touch S w w') (hs : ∀ b, S b → B ≤ b) (hB : B ≤ w.heap.size) : Below B w w' :=
  ⟨h.os, h.tape, h.output, h.size, fun b hb => h.blocks b (by omega) fun k => by have := hs b k; omega⟩
theorem Touch.of_kept (h : Kept w w') : Touch S w w' := ⟨h.os, h.tape, h.output, h.size, fun b hb _ => Below.block h b hb⟩
theorem Touch.of_below (h : Below B w w') : Touch (fun b => B ≤ b) w w' := ⟨h.os, h.tape, h.output, h.size, fun b _ hn => Below.block h b (by omega)⟩
theorem Touch.of_grown {row : Option Nat} (h : w.grownBy w' row) (hr : ∀ k, row = some k → S k) : Touch S w w' :=
  ⟨h.os, h.tape, h.output, h.size, fun b hb hn => h.block b hb fun e => hn (hr b e.symm)⟩
theorem Touch.alloc (h : Touch S w w') (o : Obj) : Touch S w (w'.alloc o) :=
  ⟨h.os, h.tape, h.output, by have := h.size; simp; omega, fun b hb hn => by rw [Below.heap_alloc _ _ _ (Nat.lt_of_lt_of_le hb h.size)]; exact h.blocks b hb hn⟩
theorem Touch.drew (h : Touch S w w') : Touch S w w'.drew := ⟨h.os, h.tape, h.output, h.size, h.blocks⟩
theorem Touch.drewN (h : Touch S w w') (n : Nat) : Touch S w (w'.drewN n) := ⟨h.os, h.tape, h.output, h.size, h.blocks⟩
theorem Touch.setCell (h : Touch S w w') {p : Addr} (hp : S p.block ∨ w.heap.size ≤ p.block) (u : Value) : Touch S w (w'.setCell p u) :=
  ⟨h.os, h.tape, h.output, by have := h.size; simpa [World.setCell] using this, fun b hb hn => by
    rw [Below.heap_setCell _ _ _ _ (fun e => by subst e; rcases hp with h1 | h1 <;> first | exact hn h1 | omega)]; exact h.blocks b hb hn⟩
theorem Touch.block (h : Touch S w w') {b : Nat} {o : Obj} (hb : w.heap[b]? = some o) (hn : ¬ S b) : w'.heap[b]? = some o := by
  rw [h.blocks b (Array.getElem?_eq_some_iff.1 hb).1 hn, hb]
theorem Touch.cell (h : Touch S w w') {p : Addr} {v : Value} (hc : w.cell? p = some v) (hn : ¬ S p.block) : w'.cell? p = some v := by
  rw [World.cell?_of_block (h.blocks p.block (World.block_lt_of_cell? w p hc) hn), hc]
theorem Touch.own (h : Touch S w w') {base : Nat} {e : TypeId} {sz n : Nat} {v : Value} {xs : List Value} (ho : w.ownsRow base e sz v n xs) (hn : ∀ k, v.ownBlock = some k → ¬ S k) : w'.ownsRow base e sz v n xs := by
  refine ⟨ho.1, ?_⟩
  rcases ho.2 with h0 | ⟨g, cap, cur, rfl, hg, hh, r⟩
  · exact .inl h0
  · exact .inr ⟨g, cap, cur, rfl, hg, h.block hh (hn g rfl), r⟩
end

section
variable {P : Program} (w : World)
/-- As 'wpl_append', and where the row lies afterwards. -/
theorem wpl_append_at {t e : TypeId} {z : Value} {size bytes : Nat} (E : ElemTy P t e z size bytes) {ops : Array Oper} {rest : List Oper} {o : Oper} {a : Act} {Q : Exit → Act → World → Prop} (hgd : o.guard = none) (s x : Operand)
    (ho : o.op = .call { callee := .builtin .append, args := #[s, x], argTypes := #[t, t] })
    (base : Nat) (v : Value) (n : Nat) (xs : List Value) (hs : a.eval s = v) (hown : w.ownsRow base e size v n xs)
    (vx : Value) (m : Nat) (news : List Value) (hx : a.eval x = vx) (hr : Rd w size vx m news) (h1 : ∀ u ∈ news, u.oneCell' = true)
    (hbytes : (n + m) * bytes ≤ 140737488355328) (hsmall : n + m ≤ 9223372036854775807) (hbase : base ≤ w.heap.size)
    (h : ∀ v' w', w'.ownsRow base e size v' (n + m) (xs ++ news) → w.grownBy w' v.ownBlock → (∀ k, v'.ownBlock = some k → v.ownBlock = some k ∨ w.heap.size ≤ k) → wpList P ops Q rest (a.put o.dst v') w') : wpList P ops Q (o :: rest) a w := by
  obtain ⟨i, hi, hz0, hz1, hz2⟩ := info_parts E.hi
  have at_ : ∀ (v' : Value), (v'.ownBlock = v.ownBlock ∨ v'.ownBlock = some w.heap.size) → ∀ k, v'.ownBlock = some k → v.ownBlock = some k ∨ w.heap.size ≤ k := by
    intro v' hv k hk
    rcases hv with hv | hv
    · exact .inl (hv ▸ hk)
    · rw [hv] at hk; injection hk with hk; exact .inr (by omega)
  rcases hr.parts with ⟨rfl, rfl, ad, c, rfl, _⟩ | ⟨b, off, c, rfl, h0, _, _, hc⟩
  · cases ad with
    | none =>
      refine wpList_plain hgd fun K hK => ?_
      have hrun := run_append_nothing (P := P) w base t o.type e i size E.ht hi v n xs hown c
      unfold Oper.wp
      simp only [execOp, ho, resolve, invoke, builtin, Sem.run_bind, Sem.run_pure, Result.andThen_ok, List.map_toArray, List.map_cons, List.map_nil, hs, hx, hrun]
      exact hK _ _ (h v w (by simpa using hown) (World.grownBy.refl w _) (fun k hk => .inl hk))
    | some ad =>
      exact wpList_append_own_at w hgd s x t ho base e i z size bytes E.ht hi hz0 hz1 hz2 E.hz E.hs v n xs hs hown ad 0 c [] hx (by simp) (by simp) (by simp) (by simpa [maxLen] using hsmall) hbytes hbase (fun v' w' h2 h3 _ h4 => h v' w' h2 h3 (at_ v' h4))
  · refine wpList_append_own_at w hgd s x t ho base e i z size bytes E.ht hi hz0 hz1 hz2 E.hz E.hs v n xs hs hown ⟨b, off, none⟩ m c news hx hr.1 ?_ h1 (by simpa [maxLen] using hsmall) hbytes hbase (fun v' w' h2 h3 _ h4 => h v' w' h2 h3 (at_ v' h4))
    intro j u hu
    have := hc j u hu
    unfold Addr.add
    split
    · rename_i hj; subst hj; simpa using this
    · exact this

theorem wpl_push_at {t e : TypeId} {z : Value} {size bytes : Nat} (E : ElemTy P t e z size bytes) {ops : Array Oper} {rest : List Oper} {o : Oper} {a : Act} {Q : Exit → Act → World → Prop} (hgd : o.guard = none) (s x : Operand)
    (ho : o.op = .call { callee := .builtin .append, args := #[s, x], argTypes := #[t, t] })
    (base : Nat) (v : Value) (n : Nat) (xs : List Value) (hs : a.eval s = v) (hown : w.ownsRow base e size v n xs)
    (cs : List Value) (e' : TypeId) (hx : a.eval x = .slice (some ⟨w.heap.size, 0, none⟩) 1 1) (hl : cs.length = size) (h1 : ∀ u ∈ cs, u.oneCell' = true)
    (hbytes : (n + 1) * bytes ≤ 140737488355328) (hsmall : n + 1 ≤ 9223372036854775807) (hbase : base ≤ w.heap.size)
    (h : ∀ v' w', w'.ownsRow base e size v' (n + 1) (xs ++ cs) → w.grownBy w' v.ownBlock → (∀ k, v'.ownBlock = some k → v.ownBlock = some k ∨ w.heap.size ≤ k) → wpList P ops Q rest (a.put o.dst v') w') : wpList P ops Q (o :: rest) a (w.alloc (.cells cs.toArray e')) := by
  refine wpl_append_at _ E hgd s x ho base v n xs hs (hown.alloc _) _ 1 cs hx (Rd.one w cs e' hl) h1 hbytes hsmall (by simp; omega) ?_
  intro v' w' h2 h3 h4
  refine h v' w' h2 ⟨h3.os, h3.tape, h3.output, by have := h3.size; simp at this; omega, fun k hk hne => by
    rw [h3.block k (by simp; omega) hne]; exact Below.heap_alloc w _ k hk⟩ fun k hk => ?_
  rcases h4 k hk with h5 | h5
  · exact .inl h5
  · exact .inr (by simp at h5; omega)
/-- As 'wpl_push_at', where the new block's number is spelt otherwise. -/
theorem wpl_pushH {t e : TypeId} {z : Value} {size bytes : Nat} (E : ElemTy P t e z size bytes) {ops : Array Oper} {rest : List Oper} {o : Oper} {a : Act} {Q : Exit → Act → World → Prop} (hgd : o.guard = none) (s x : Operand)
    (ho : o.op = .call { callee := .builtin .append, args := #[s, x], argTypes := #[t, t] })
    (base : Nat) (v : Value) (n : Nat) (xs : List Value) (hs : a.eval s = v) (hown : w.ownsRow base e size v n xs)
    (cs : List Value) (e' : TypeId) (H : Nat) (hx : a.eval x = .slice (some ⟨H, 0, none⟩) 1 1) (hH : w.heap.size = H) (hl : cs.length = size) (h1 : ∀ u ∈ cs, u.oneCell' = true)
    (hbytes : (n + 1) * bytes ≤ 140737488355328) (hsmall : n + 1 ≤ 9223372036854775807) (hbase : base ≤ H)
    (h : ∀ v' w', w'.ownsRow base e size v' (n + 1) (xs ++ cs) → w.grownBy w' v.ownBlock → (∀ k, v'.ownBlock = some k → v.ownBlock = some k ∨ H ≤ k) → Below base w w' → wpList P ops Q rest (a.put o.dst v') w') : wpList P ops Q (o :: rest) a (w.alloc (.cells cs.toArray e')) := by
  subst hH
  exact wpl_push_at w E hgd s x ho base v n xs hs hown cs e' hx hl h1 hbytes hsmall hbase fun v' w' h2 h3 h4 => h v' w' h2 h3 h4 ((Below.refl base w).grown h3 hbase fun k hk => (hown.lt k hk).1)
end

/-- Block g is just the cells cs of element type t, none of them frozen. -/
def Blk (w : World) (g : Nat) (t : TypeId) (cs : Array Value) : Prop := w.heap[g]? = some (.cells cs t (0, 0))
section
variable {w w' : World} {g : Nat} {t : TypeId} {cs : Array Value}
theorem Blk.lt (h : Blk w g t cs) : g < w.heap.size := (Array.getElem?_eq_some_iff.1 h).1
theorem Blk.cell (h : Blk w g t cs) (i : Nat) : w.cell? ⟨g, i, none⟩ = cs[i]? := cell_of_row w g i cs t (0, 0) h
theorem Blk.frozen (h : Blk w g t cs) (i : Nat) : w.frozen? ⟨g, i, none⟩ = false := by unfold Blk at h; simp [World.frozen?, h]
theorem Blk.new (w : World) (t : TypeId) (cs : Array Value) : Blk (w.alloc (.cells cs t)) w.heap.size t cs := heap_alloc_new w _
theorem Blk.alloc (h : Blk w g t cs) (o : Obj) : Blk (w.alloc o) g t cs := (Below.heap_alloc w o g h.lt).trans h
theorem Blk.set_ (h : Blk w g t cs) (i : Nat) (u : Value) : Blk (w.setCell ⟨g, i, none⟩ u) g t (cs.setIfInBounds i u) := by
  unfold Blk at h ⊢
  simp [World.setCell, Array.getElem?_modify, h]
theorem Blk.far (h : Blk w g t cs) {p : Addr} (hp : g ≠ p.block) (u : Value) : Blk (w.setCell p u) g t cs := (Below.heap_setCell w p u g hp).trans h
theorem Blk.touch {S : Nat → Prop} (h : Blk w g t cs) (hb : Touch S w w') (hg : ¬ S g) : Blk w' g t cs := hb.block h hg
theorem Blk.kept (h : Blk w g t cs) (hb : Kept w w') : Blk w' g t cs := Kept.block hb h
theorem Blk.drewN (h : Blk w g t cs) (n : Nat) : Blk (w.drewN n) g t cs := h
theorem Blk.ne_ {g' : Nat} {t' : TypeId} {cs' : Array Value} (h : Blk w g t cs) (h' : Blk w g' t' cs') (hne : t ≠ t') : g ≠ g' := by
  rintro rfl
  unfold Blk at h h'
  rw [h] at h'
  injection h' with h'
  injection h' with _ ht
  exact hne ht
theorem own_ne {base : Nat} {e : TypeId} {sz n : Nat} {v : Value} {xs : List Value} (h : w.ownsRow base e sz v n xs) (hg : Blk w g t cs) (hne : e ≠ t) : ∀ k, v.ownBlock = some k → k ≠ g := by
  intro k hk
  rcases h.2 with ⟨rfl, _⟩ | ⟨g', cap, cur, rfl, _, hh, _⟩
  · cases hk
  · have : g' = k := by simpa [Value.ownBlock] using hk
    subst this
    exact Blk.ne_ (t := e) hh hg hne
end

theorem own_slice {w : World} {base : Nat} {e : TypeId} {sz n : Nat} {v : Value} {xs : List Value} (h : w.ownsRow base e sz v n xs) : ∃ a c, v = .slice a n c ∧ n ≤ c ∧ c ≤ 9223372036854775807 := by
  rcases h.2 with ⟨rfl, rfl⟩ | ⟨g, cap, cur, rfl, _, _, hn, hc, _⟩
  · exact ⟨none, 0, rfl, Nat.le_refl _, by omega⟩
  · exact ⟨_, cap, rfl, hn, by simpa [maxLen] using hc⟩

/-- A store into a block of one cell that holds an owned row: the row stays owned. -/
theorem Blk.hold {w : World} {g : Nat} {t e : TypeId} {v v1 : Value} {base sz n : Nat} {xs : List Value} (hb : Blk w g t #[v]) (ho : w.ownsRow base e sz v1 n xs) (hne : e ≠ t) :
    Blk (w.setCell ⟨g, 0, none⟩ v1) g t #[v1] ∧ (w.setCell ⟨g, 0, none⟩ v1).ownsRow base e sz v1 n xs := by
  refine ⟨by simpa using hb.set_ 0 v1, ?_⟩
  exact Touch.own (S := fun b => b = g) ((Touch.refl (fun b => b = g) w).setCell (p := ⟨g, 0, none⟩) (.inl rfl) v1) ho (own_ne ho hb hne)
/-- A store into an owned row. -/
theorem own_store {w : World} {base : Nat} {e : TypeId} {sz n c g : Nat} {xs : List Value} (ho : w.ownsRow base e sz (.slice (some ⟨g, 0, none⟩) n c) n xs) (j : Nat) (u : Value) :
    (w.setCell ⟨g, j, none⟩ u).ownsRow base e sz (.slice (some ⟨g, 0, none⟩) n c) n (xs.set j u) := (ho.stored j u).1

theorem flat_set2 {α : Type} (enc : α → List Value) (h : ∀ x, (enc x).length = 2) (y : α) (u0 u1 : Value) (hy : enc y = [u0, u1]) : ∀ (l : List α) (t : Nat), ((l.flatMap enc).set (t * 2) u0).set (t * 2 + 1) u1 = if t < l.length then (l.set t y).flatMap enc else l.flatMap enc
  | [], t => by simp
  | x :: l, 0 => by
    have hx := h x
    obtain ⟨a, b, hab⟩ : ∃ a b, enc x = [a, b] := by
      match enc x, hx with
      | [a, b], _ => exact ⟨a, b, rfl⟩
    simp [hab, hy]
  | x :: l, t + 1 => by
    have hx := h x
    obtain ⟨a, b, hab⟩ : ∃ a b, enc x = [a, b] := by
      match enc x, hx with
      | [a, b], _ => exact ⟨a, b, rfl⟩
    have ih := flat_set2 enc h y u0 u1 hy l t
    have e1 : (t + 1) * 2 = t * 2 + 1 + 1 := by omega
    have e2 : (t + 1) * 2 + 1 = (t * 2 + 1) + 1 + 1 := by omega
    simp only [List.flatMap_cons, hab, List.cons_append, List.nil_append, e1, List.set_cons_succ]
    rw [ih]
    by_cases ht : t < l.length
    · simp [ht, hab]
    · simp [ht, hab]

end Go.Proofs.Ytcklmhbcjgiplaa
