/-
  Words for memory that the walks of this seat share: a slice that reads as a row of cells, what is kept, appends. No function of the program in sight.
-/
import Derived.WalkKit
import Derived.WalkSpells
import Derived.WalkLawsBesides
import Derived.Handy
import Derived.Lib.Hide
import Derived.Deep.Draws
import Derived.Deep.QuietTactic
import Derived.BigQuiet
namespace Go.Proofs.Ytcklmhbcjgiplaa
set_option linter.unusedVariables false
set_option linter.unusedSimpArgs false
open Go.RowKit

theorem ret_int {k : IntKind} {a b : Int} (h : a = b) : Ending.returned (.int k a) = .returned (.int k b) := by rw [h]
theorem ret_bool {a b : Bool} (h : a = b) : Ending.returned (.bool a) = .returned (.bool b) := by rw [h]
theorem ret1 {a b : Value} (h : a = b) : Ending.returned a = .returned b := by rw [h]
theorem ret2 {a b c d : Value} (h : a = c) (k : b = d) : Ending.returned (.tuple #[a, b]) = .returned (.tuple #[c, d]) := by rw [h, k]
theorem ret3 {a b c d e f : Value} (h : a = d) (k : b = e) (l : c = f) : Ending.returned (.tuple #[a, b, c]) = .returned (.tuple #[d, e, f]) := by rw [h, k, l]
theorem val_int {k : IntKind} {a b : Int} (h : a = b) : Value.int k a = .int k b := by rw [h]
theorem val_bool {a b : Bool} (h : a = b) : Value.bool a = .bool b := by rw [h]

/-- A call that draws nothing, in a region that only reads. -/
theorem quiet_l {P : Program} {f : FuncId} {args : Array Value} {w : World} {n : Nat} {v : Value}
    (h : Calls P f args (w.drewN n) fun e w' => e = .returned v ∧ w.drewN n = w') : Calls P f args (w.drewN n) fun e w'' => e = .returned v ∧ ∃ m, w'' = w.drewN m :=
  h.mono fun _ _ ⟨he, hm⟩ => ⟨he, n, hm.symm⟩

/-- What was there is as it was. -/
abbrev Kept (w w' : World) : Prop := Below w.heap.size w w'

theorem Kept.trans {a b c : World} (h : Kept a b) (k : Kept b c) : Kept a c := Below.trans h (k.mono h.size)
theorem kept_drewN {B : Nat} {a w : World} (h : Below B a w) (n : Nat) : Below B a (w.drewN n) := ⟨h.os, h.tape, h.output, h.size, h.block⟩
theorem Kept.block {w w' : World} (h : Kept w w') {b : Nat} {o : Obj} (hb : w.heap[b]? = some o) : w'.heap[b]? = some o := by
  have hlt : b < w.heap.size := (Array.getElem?_eq_some_iff.1 hb).1
  rw [Below.block h b hlt, hb]
theorem Kept.cell {w w' : World} (h : Kept w w') {p : Addr} {v : Value} (hc : w.cell? p = some v) : w'.cell? p = some v := by
  rw [Below.cell h (World.block_lt_of_cell? w p hc), hc]

/-- The slice 'v' of n elements of 'sz' cells each reads the cells 'xs'. -/
def Rd (w : World) (sz : Nat) (v : Value) (n : Nat) (xs : List Value) : Prop :=
  xs.length = n * sz ∧ ∃ a c, v = .slice a n c ∧ n ≤ c ∧ c ≤ 9223372036854775807 ∧
    (0 < n → ∃ b off, a = some ⟨b, off, none⟩ ∧ ∀ j u, xs[j]? = some u → w.cell? ⟨b, off + j, none⟩ = some u)

section
variable {w w' : World} {sz n : Nat} {v : Value} {xs : List Value}
theorem Rd.nil : Rd w sz (.slice none 0 0) 0 [] := ⟨by simp, none, 0, rfl, Nat.le_refl _, by omega, fun h => absurd h (by omega)⟩
theorem Rd.keep (h : Rd w sz v n xs) (hk : ∀ p u, w.cell? p = some u → w'.cell? p = some u) : Rd w' sz v n xs := by
  obtain ⟨hl, a, c, hv, h1, h2, h3⟩ := h
  refine ⟨hl, a, c, hv, h1, h2, fun hn => ?_⟩
  obtain ⟨b, off, ha, hc⟩ := h3 hn
  exact ⟨b, off, ha, fun j u hu => hk _ _ (hc j u hu)⟩
theorem Rd.kept (h : Rd w sz v n xs) (hb : Kept w w') : Rd w' sz v n xs := h.keep fun _ _ hc => hb.cell hc
/-- The two makes of such a slice. -/
theorem Rd.parts (h : Rd w sz v n xs) : (n = 0 ∧ xs = [] ∧ ∃ a c, v = .slice a 0 c ∧ c ≤ 9223372036854775807) ∨
    ∃ b off c, v = .slice (some ⟨b, off, none⟩) n c ∧ 0 < n ∧ n ≤ c ∧ c ≤ 9223372036854775807 ∧ ∀ j u, xs[j]? = some u → w.cell? ⟨b, off + j, none⟩ = some u := by
  obtain ⟨hl, a, c, rfl, h1, h2, h3⟩ := h
  rcases Nat.eq_zero_or_pos n with h0 | h0
  · subst h0
    exact .inl ⟨rfl, List.eq_nil_of_length_eq_zero (by simpa using hl), a, c, rfl, h2⟩
  · obtain ⟨b, off, rfl, hc⟩ := h3 h0
    exact .inr ⟨b, off, c, rfl, h0, h1, h2, hc⟩
theorem Rd.of_own {base : Nat} {e : TypeId} (h : w.ownsRow base e sz v n xs) : Rd w sz v n xs := by
  obtain ⟨hl, h⟩ := h
  refine ⟨hl, ?_⟩
  rcases h with ⟨rfl, rfl⟩ | ⟨g, cap, cur, rfl, hg, hh, hn, hc, hs, ht⟩
  · exact ⟨none, 0, rfl, Nat.le_refl _, by omega, fun h => absurd h (by omega)⟩
  · refine ⟨_, cap, rfl, hn, by simpa [maxLen] using hc, fun _ => ⟨g, 0, rfl, fun j u hu => ?_⟩⟩
    rw [Nat.zero_add, cell_of_row w g j cur e (0, 0) hh, ← hu, ← ht, List.getElem?_take]
    rw [if_pos (by have := (List.getElem?_eq_some_iff.1 hu).1; omega), Array.getElem?_toList]
/-- An owned row that is not empty lies at the head of a block. -/
theorem own_form {base : Nat} {e : TypeId} (h : w.ownsRow base e sz v n xs) (hn : 0 < n) :
    ∃ g c, v = .slice (some ⟨g, 0, none⟩) n c ∧ n ≤ c ∧ c ≤ 9223372036854775807 ∧ base ≤ g ∧ g < w.heap.size ∧ (∀ j u, xs[j]? = some u → w.cell? ⟨g, j, none⟩ = some u) ∧ ∀ j, w.frozen? ⟨g, j, none⟩ = false := by
  obtain ⟨hl, h⟩ := h
  rcases h with ⟨rfl, rfl⟩ | ⟨g, cap, cur, rfl, hg, hh, hnc, hc, hs, ht⟩
  · omega
  · refine ⟨g, cap, rfl, hnc, by simpa [maxLen] using hc, hg, (Array.getElem?_eq_some_iff.1 hh).1, fun j u hu => ?_, fun j => by simp [World.frozen?, hh]⟩
    rw [cell_of_row w g j cur e (0, 0) hh, ← hu, ← ht, List.getElem?_take]
    rw [if_pos (by have := (List.getElem?_eq_some_iff.1 hu).1; omega), Array.getElem?_toList]
theorem Rd.mk_ {b off c : Nat} (hl : xs.length = n * sz) (h1 : n ≤ c) (h2 : c ≤ 9223372036854775807) (h : ∀ j u, xs[j]? = some u → w.cell? ⟨b, off + j, none⟩ = some u) : Rd w sz (.slice (some ⟨b, off, none⟩) n c) n xs :=
  ⟨hl, _, c, rfl, h1, h2, fun _ => ⟨b, off, rfl, h⟩⟩
/-- A new block of just one element. -/
theorem Rd.one (w : World) (cs : List Value) (e : TypeId) (hs : cs.length = sz) : Rd (w.alloc (.cells cs.toArray e)) sz (.slice (some ⟨w.heap.size, 0, none⟩) 1 1) 1 cs := by
  refine ⟨by omega, _, _, rfl, Nat.le_refl _, by omega, fun _ => ⟨_, _, rfl, fun j u hu => ?_⟩⟩
  rw [Nat.zero_add, cell_of_row _ _ j cs.toArray e (0, 0) (heap_alloc_new w _)]
  simpa using hu
end

/-- The facts on a slice type and its elements' type that an append asks. -/
structure ElemTy (P : Program) (t e : TypeId) (z : Value) (size bytes : Nat) : Prop where
  ht : P.underlying t = some (.slice e)
  hi : (P.info? e).map (fun i => (i.zero, i.size, i.bytes)) = some (some z, size, bytes)
  hz : z.cells.size = size
  hs : 0 < size

section
variable {P : Program} (w : World)
theorem run_append_nothing (base : Nat) (t ty e : TypeId) (i : TypeInfo) (size : Nat) (ht : P.underlying t = some (.slice e)) (hi : P.info? e = some i)
    (v : Value) (n : Nat) (xs : List Value) (hown : w.ownsRow base e size v n xs) (c : Nat) : (Builtin.append_ #[t, t] ty #[v, .slice none 0 c]).run P w = .ok v w := by
  rcases hown.2 with ⟨rfl, rfl⟩ | ⟨g, cap, cur, rfl, _, _, hnc, _⟩
  · simp [Builtin.append_, run_underlying ht, sizeOf, typeInfo, hi, Builtin.lenOf, Builtin.firstCells]
  · simp [Builtin.append_, run_underlying ht, sizeOf, typeInfo, hi, Builtin.lenOf, Builtin.firstCells, hnc, storeCells]

theorem wpl_append {t e : TypeId} {z : Value} {size bytes : Nat} (E : ElemTy P t e z size bytes) {ops : Array Oper} {rest : List Oper} {o : Oper} {a : Act} {Q : Exit → Act → World → Prop} (hgd : o.guard = none) (s x : Operand)
    (ho : o.op = .call { callee := .builtin .append, args := #[s, x], argTypes := #[t, t] })
    (base : Nat) (v : Value) (n : Nat) (xs : List Value) (hs : a.eval s = v) (hown : w.ownsRow base e size v n xs)
    (vx : Value) (m : Nat) (news : List Value) (hx : a.eval x = vx) (hr : Rd w size vx m news) (h1 : ∀ u ∈ news, u.oneCell' = true)
    (hbytes : (n + m) * bytes ≤ 140737488355328) (hsmall : n + m ≤ 9223372036854775807) (hbase : base ≤ w.heap.size)
    (h : ∀ v' w', w'.ownsRow base e size v' (n + m) (xs ++ news) → w.grownBy w' v.ownBlock → wpList P ops Q rest (a.put o.dst v') w') : wpList P ops Q (o :: rest) a w := by
  obtain ⟨i, hi, hz0, hz1, hz2⟩ := info_parts E.hi
  rcases hr.parts with ⟨rfl, rfl, ad, c, rfl, _⟩ | ⟨b, off, c, rfl, h0, _, _, hc⟩
  · cases ad with
    | none =>
      refine wpList_plain hgd fun K hK => ?_
      have hrun := run_append_nothing (P := P) w base t o.type e i size E.ht hi v n xs hown c
      unfold Oper.wp
      simp only [execOp, ho, resolve, invoke, builtin, Sem.run_bind, Sem.run_pure, Result.andThen_ok, List.map_toArray, List.map_cons, List.map_nil, hs, hx, hrun]
      exact hK _ _ (h v w (by simpa using hown) (World.grownBy.refl w _))
    | some ad =>
      exact wpList_append_own w hgd s x t ho base e i z size bytes E.ht hi hz0 hz1 hz2 E.hz E.hs v n xs hs hown ad 0 c [] hx (by simp) (by simp) (by simp) (by simpa [maxLen] using hsmall) hbytes hbase (fun v' w' h2 h3 _ => h v' w' h2 h3)
  · refine wpList_append_own w hgd s x t ho base e i z size bytes E.ht hi hz0 hz1 hz2 E.hz E.hs v n xs hs hown ⟨b, off, none⟩ m c news hx hr.1 ?_ h1 (by simpa [maxLen] using hsmall) hbytes hbase (fun v' w' h2 h3 _ => h v' w' h2 h3)
    intro j u hu
    have := hc j u hu
    unfold Addr.add
    split
    · rename_i hj; subst hj; simpa using this
    · exact this

/-- 'append(s, x)' of one element: it has been laid into a new block. -/
theorem wpl_push {t e : TypeId} {z : Value} {size bytes : Nat} (E : ElemTy P t e z size bytes) {ops : Array Oper} {rest : List Oper} {o : Oper} {a : Act} {Q : Exit → Act → World → Prop} (hgd : o.guard = none) (s x : Operand)
    (ho : o.op = .call { callee := .builtin .append, args := #[s, x], argTypes := #[t, t] })
    (base : Nat) (v : Value) (n : Nat) (xs : List Value) (hs : a.eval s = v) (hown : w.ownsRow base e size v n xs)
    (cs : List Value) (e' : TypeId) (hx : a.eval x = .slice (some ⟨w.heap.size, 0, none⟩) 1 1) (hl : cs.length = size) (h1 : ∀ u ∈ cs, u.oneCell' = true)
    (hbytes : (n + 1) * bytes ≤ 140737488355328) (hsmall : n + 1 ≤ 9223372036854775807) (hbase : base ≤ w.heap.size)
    (h : ∀ v' w', w'.ownsRow base e size v' (n + 1) (xs ++ cs) → w.grownBy w' v.ownBlock → Below base w w' → wpList P ops Q rest (a.put o.dst v') w') : wpList P ops Q (o :: rest) a (w.alloc (.cells cs.toArray e')) := by
  refine wpl_append _ E hgd s x ho base v n xs hs (hown.alloc _) _ 1 cs hx (Rd.one w cs e' hl) h1 hbytes hsmall (by simp; omega) ?_
  intro v' w' h2 h3
  have hg : w.grownBy w' v.ownBlock := ⟨h3.os, h3.tape, h3.output, by have := h3.size; simp at this; omega, fun k hk hne => by
    rw [h3.block k (by simp; omega) hne]; exact Below.heap_alloc w _ k hk⟩
  refine h v' w' h2 hg ((Below.refl base w).grown hg hbase fun k hk => (hown.lt k hk).1)
end

/-- Cells of a list of things that are of one width. -/
theorem flat_length {α : Type} (enc : α → List Value) (sz : Nat) (h : ∀ x, (enc x).length = sz) (l : List α) : (l.flatMap enc).length = l.length * sz := by
  induction l with
  | nil => simp
  | cons x l ih => simp [h, ih, Nat.add_mul, Nat.add_comm]
theorem flat_get {α : Type} (enc : α → List Value) (sz : Nat) (h : ∀ x, (enc x).length = sz) : ∀ (l : List α) (i f : Nat) (x : α), l[i]? = some x → f < sz → (l.flatMap enc)[i * sz + f]? = (enc x)[f]?
  | [], i, f, x, hx, _ => by simp at hx
  | y :: l, 0, f, x, hx, hf => by
    simp only [List.getElem?_cons_zero, Option.some.injEq] at hx
    subst hx
    simp only [List.flatMap_cons, Nat.zero_mul, Nat.zero_add]
    rw [List.getElem?_append_left (by rw [h]; exact hf)]
  | y :: l, i + 1, f, x, hx, hf => by
    simp only [List.getElem?_cons_succ] at hx
    have ih := flat_get enc sz h l i f x hx hf
    simp only [List.flatMap_cons]
    rw [List.getElem?_append_right (by rw [h, Nat.add_mul]; omega), h]
    rw [← ih]
    congr 1
    rw [Nat.add_mul]; omega

end Go.Proofs.Ytcklmhbcjgiplaa
