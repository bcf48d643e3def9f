/-
  Appends of a string's bytes to a row of bytes of the call's own, at every kind of step: where the row lies. No function of the program in sight.
-/
import Derived.Test.YtbalmfoboaapjaaApp
import Derived.Lib.AppendStr
namespace Go.Proofs.Ytbalmfoboaapjaa
set_option linter.unusedVariables false
set_option linter.unusedSimpArgs false
open Go.RowKit
section
variable {P : Program} (w : World)
theorem run_appS {t u e : TypeId} (E : ElemTy P t e (.int .u8 0) 1 1) (hu : P.underlying u = some .string) (ty : TypeId) (base : Nat) (v : Value) (n : Nat) (xs : List Value) (hown : w.ownsRow base e 1 v n xs) (s : ByteArray)
    (hbytes : n + s.size ≤ 140737488355328) (hbase : base ≤ w.heap.size) (H : Nat) (hH : w.heap.size = H) :
    ∃ a c w', (Builtin.append_ #[t, u] ty #[v, .string s]).run P w = .ok (.slice a (n + s.size) c) w' ∧ w'.ownsRow base e 1 (.slice a (n + s.size) c) (n + s.size) (xs ++ Lib.strCells s) ∧ w.grownBy w' v.ownBlock ∧ ∀ k, (Value.slice a (n + s.size) c).ownBlock = some k → v.ownBlock = some k ∨ H ≤ k := by
  subst hH
  obtain ⟨i, hi, hz0, hz1, hz2⟩ := info_parts E.hi
  have h63 : n + s.size ≤ maxLen := by unfold maxLen; omega
  obtain ⟨v', w', hr, h2, h3, h4⟩ := Lib.run_append_own_string (P := P) w base t u ty e i E.ht hu hi hz0 hz1 hz2 v n xs hown s h63 hbytes hbase
  obtain ⟨a, c, rfl, -, -⟩ := own_slice h2
  refine ⟨a, c, w', hr, h2, h3, fun k hk => ?_⟩
  have hxl : xs.length = n := by simpa using hown.1
  rcases hown.2 with ⟨rfl, rfl⟩ | ⟨g, cap, cur, rfl, hbg, hg, hnc, hcm, hcs, htake⟩
  · by_cases hm : s.size = 0
    · have := h4.2 ⟨rfl, hm⟩
      rw [this] at hk
      cases hk
    · have hr2 := run_append_nil_string (P := P) w t u ty e i (.int .u8 0) E.ht hu hi hz0 s (by omega) (by omega) (by rw [hz2]; omega)
      rw [hr] at hr2
      injection hr2 with e1 _
      rw [e1] at hk
      simp only [Value.ownBlock, Option.map_some, Option.some.injEq] at hk
      exact .inr (by omega)
  · by_cases hroom : n + s.size ≤ cap
    · have hr2 := Lib.run_append_room_string (P := P) w t u ty e i E.ht hu hi hz1 g n cap cur hg s hroom (by have h0 : cur.size = cap := (by simpa using hcs); omega)
      rw [hr] at hr2
      injection hr2 with e1 _
      rw [e1] at hk
      exact .inl hk
    · have holds : ∀ j x, xs[j]? = some x → w.cell? ((⟨g, 0, none⟩ : Addr).add j) = some x := hown.cells (g := g) rfl
      have hr2 := Lib.run_append_grow_string (P := P) w t u ty e i (.int .u8 0) E.ht hu hi hz0 ⟨g, 0, none⟩ n cap xs (by rw [hz1]; simpa using hxl) holds s (by omega) (by omega) (by rw [hz2]; exact growslice_fits (by omega) (by omega))
      rw [hr] at hr2
      injection hr2 with e1 _
      rw [e1] at hk
      simp only [Value.ownBlock, Option.map_some, Option.some.injEq] at hk
      exact .inr (by omega)
theorem wp_appS {t u e : TypeId} (E : ElemTy P t e (.int .u8 0) 1 1) (hu : P.underlying u = some .string) {o : Oper} {a : Act} {K : Act → World → Prop} {Q : Exit → Act → World → Prop} (s x : Operand)
    (ho : o.op = .call { callee := .builtin .append, args := #[s, x], argTypes := #[t, u] })
    (base : Nat) (v : Value) (n : Nat) (xs : List Value) (hs : a.eval s = v) (hown : w.ownsRow base e 1 v n xs) (b : ByteArray) (hx : a.eval x = .string b)
    (hbytes : n + b.size ≤ 140737488355328) (hbase : base ≤ w.heap.size) (H : Nat) (hH : w.heap.size = H)
    (h : ∀ a1 c1 w', w'.ownsRow base e 1 (.slice a1 (n + b.size) c1) (n + b.size) (xs ++ Lib.strCells b) → w.grownBy w' v.ownBlock → (∀ k, (Value.slice a1 (n + b.size) c1).ownBlock = some k → v.ownBlock = some k ∨ H ≤ k) → K (a.put o.dst (.slice a1 (n + b.size) c1)) w') : o.wp P a w K Q := by
  obtain ⟨a1, c1, w', hr, h2, h3, h4⟩ := run_appS (P := P) w E hu o.type base v n xs hown b hbytes hbase H hH
  unfold Oper.wp execOp
  simp only [ho, resolve, invoke, builtin, Sem.run_bind, Sem.run_pure, Result.andThen_ok, List.map_toArray, List.map_cons, List.map_nil, hs, hx, hr]
  exact h a1 c1 w' h2 h3 h4
/-- At a step of a region that draws. -/
theorem step_appS {t u e : TypeId} (E : ElemTy P t e (.int .u8 0) 1 1) (hu : P.underlying u = some .string) {ops : Array Oper} {o : Oper} {a : Act} {K : Act → World → Prop} {Q : Exit → Act → World → Prop} {Ee : Prop} (hgd : o.guard = none) (s x : Operand)
    (ho : o.op = .call { callee := .builtin .append, args := #[s, x], argTypes := #[t, u] })
    (base : Nat) (v : Value) (n : Nat) (xs : List Value) (hs : a.eval s = v) (hown : w.ownsRow base e 1 v n xs) (b : ByteArray) (hx : a.eval x = .string b)
    (hbytes : n + b.size ≤ 140737488355328) (hbase : base ≤ w.heap.size) (H : Nat) (hH : w.heap.size = H)
    (h : ∀ a1 c1 w', w'.ownsRow base e 1 (.slice a1 (n + b.size) c1) (n + b.size) (xs ++ Lib.strCells b) → w.grownBy w' v.ownBlock → (∀ k, (Value.slice a1 (n + b.size) c1).ownBlock = some k → v.ownBlock = some k ∨ H ≤ k) → K (a.put o.dst (.slice a1 (n + b.size) c1)) w') :
    if Region.wanted o (yielded ops a.tmps) = true then Oper.wp P o a w K Q else Ee := by
  rw [if_pos (show Region.wanted o (yielded ops a.tmps) = true by simp [Region.wanted, hgd])]
  exact wp_appS w E hu s x ho base v n xs hs hown b hx hbytes hbase H hH h
/-- At the list of a plain region's operations. -/
theorem wpl_appS {t u e : TypeId} (E : ElemTy P t e (.int .u8 0) 1 1) (hu : P.underlying u = some .string) {ops : Array Oper} {rest : List Oper} {o : Oper} {a : Act} {Q : Exit → Act → World → Prop} (hgd : o.guard = none) (s x : Operand)
    (ho : o.op = .call { callee := .builtin .append, args := #[s, x], argTypes := #[t, u] })
    (base : Nat) (v : Value) (n : Nat) (xs : List Value) (hs : a.eval s = v) (hown : w.ownsRow base e 1 v n xs) (b : ByteArray) (hx : a.eval x = .string b)
    (hbytes : n + b.size ≤ 140737488355328) (hbase : base ≤ w.heap.size) (H : Nat) (hH : w.heap.size = H)
    (h : ∀ a1 c1 w', w'.ownsRow base e 1 (.slice a1 (n + b.size) c1) (n + b.size) (xs ++ Lib.strCells b) → w.grownBy w' v.ownBlock → (∀ k, (Value.slice a1 (n + b.size) c1).ownBlock = some k → v.ownBlock = some k ∨ H ≤ k) → wpList P ops Q rest (a.put o.dst (.slice a1 (n + b.size) c1)) w') : wpList P ops Q (o :: rest) a w :=
  wpList_plain hgd fun _ hK => wp_appS w E hu s x ho base v n xs hs hown b hx hbytes hbase H hH fun a1 c1 w' h2 h3 h4 => hK _ _ (h a1 c1 w' h2 h3 h4)
end
end Go.Proofs.Ytbalmfoboaapjaa
