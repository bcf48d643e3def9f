/-
  Appends of a row that is read, at every kind of step. No function of the program in sight.
-/
import Derived.Test.YtcklmhbcjgiplaaTouch
import Derived.Deep.RegionLaw
import Derived.Deep.AppendLies
namespace Go.Proofs.Ytcklmhbcjgiplaa
set_option linter.unusedVariables false
set_option linter.unusedSimpArgs false
open Go.RowKit
section
variable {P : Program} (w : World)
theorem run_appR {t e : TypeId} {z : Value} {size bytes : Nat} (E : ElemTy P t e z size bytes) (ty : TypeId) (base : Nat) (v : Value) (n : Nat) (xs : List Value) (hown : w.ownsRow base e size v n xs)
    (vx : Value) (m : Nat) (news : List Value) (hr : Rd w size vx m news) (h1 : ∀ u ∈ news, u.oneCell' = true)
    (hbytes : (n + m) * bytes ≤ 140737488355328) (hsmall : n + m ≤ 9223372036854775807) (hbase : base ≤ w.heap.size) (H : Nat) (hH : w.heap.size = H) :
    ∃ a c w', (Builtin.append_ #[t, t] ty #[v, vx]).run P w = .ok (.slice a (n + m) c) w' ∧ w'.ownsRow base e size (.slice a (n + m) c) (n + m) (xs ++ news) ∧ w.grownBy w' v.ownBlock ∧ ∀ k, (Value.slice a (n + m) c).ownBlock = some k → v.ownBlock = some k ∨ H ≤ k := by
  subst hH
  obtain ⟨i, hi, hz0, hz1, hz2⟩ := info_parts E.hi
  have at_ : ∀ (v' : Value), (v'.ownBlock = v.ownBlock ∨ v'.ownBlock = some w.heap.size) → ∀ k, v'.ownBlock = some k → v.ownBlock = some k ∨ w.heap.size ≤ k := by
    intro v' hv k hk
    rcases hv with hv | hv
    · exact .inl (hv ▸ hk)
    · rw [hv] at hk; injection hk with hk; exact .inr (by omega)
  have fin : ∀ (v' : Value) (w' : World), (Builtin.append_ #[t, t] ty #[v, vx]).run P w = .ok v' w' → w'.ownsRow base e size v' (n + m) (xs ++ news) → w.grownBy w' v.ownBlock → (∀ k, v'.ownBlock = some k → v.ownBlock = some k ∨ w.heap.size ≤ k) →
      ∃ a c w', (Builtin.append_ #[t, t] ty #[v, vx]).run P w = .ok (.slice a (n + m) c) w' ∧ w'.ownsRow base e size (.slice a (n + m) c) (n + m) (xs ++ news) ∧ w.grownBy w' v.ownBlock ∧ ∀ k, (Value.slice a (n + m) c).ownBlock = some k → v.ownBlock = some k ∨ w.heap.size ≤ k := by
    intro v' w' h0 h2 h3 h4
    obtain ⟨a, c, rfl, -, -⟩ := own_slice h2
    exact ⟨a, c, w', h0, h2, h3, h4⟩
  rcases hr.parts with ⟨rfl, rfl, ad, c, rfl, _⟩ | ⟨b, off, c, rfl, h0, _, _, hc⟩
  · cases ad with
    | none => exact fin v w (run_append_nothing (P := P) w base t ty e i size E.ht hi v n xs hown c) (by simpa using hown) (World.grownBy.refl w _) (fun k hk => .inl hk)
    | some ad =>
      obtain ⟨v', w', h0, h2, h3, _, h5⟩ := run_append_own_at (P := P) w base t ty e i z size bytes E.ht hi hz0 hz1 hz2 E.hz E.hs v n xs hown ad 0 c [] (by simp) (by simp) (by simp) (by simpa [maxLen] using hsmall) hbytes hbase
      exact fin v' w' h0 h2 h3 (at_ v' h5)
  · obtain ⟨v', w', h0, h2, h3, _, h5⟩ := run_append_own_at (P := P) w base t ty e i z size bytes E.ht hi hz0 hz1 hz2 E.hz E.hs v n xs hown ⟨b, off, none⟩ m c news hr.1 (by
      intro j u hu
      have := hc j u hu
      unfold Addr.add
      split
      · rename_i hj; subst hj; simpa using this
      · exact this) h1 (by simpa [maxLen] using hsmall) hbytes hbase
    exact fin v' w' h0 h2 h3 (at_ v' h5)
theorem wp_appR {t e : TypeId} {z : Value} {size bytes : Nat} (E : ElemTy P t e z size bytes) {o : Oper} {a : Act} {K : Act → World → Prop} {Q : Exit → Act → World → Prop} (s x : Operand)
    (ho : o.op = .call { callee := .builtin .append, args := #[s, x], argTypes := #[t, t] })
    (base : Nat) (v : Value) (n : Nat) (xs : List Value) (hs : a.eval s = v) (hown : w.ownsRow base e size v n xs)
    (vx : Value) (m : Nat) (news : List Value) (hx : a.eval x = vx) (hr : Rd w size vx m news) (h1 : ∀ u ∈ news, u.oneCell' = true)
    (hbytes : (n + m) * bytes ≤ 140737488355328) (hsmall : n + m ≤ 9223372036854775807) (hbase : base ≤ w.heap.size) (H : Nat) (hH : w.heap.size = H)
    (h : ∀ a1 c1 w', w'.ownsRow base e size (.slice a1 (n + m) c1) (n + m) (xs ++ news) → w.grownBy w' v.ownBlock → (∀ k, (Value.slice a1 (n + m) c1).ownBlock = some k → v.ownBlock = some k ∨ H ≤ k) → K (a.put o.dst (.slice a1 (n + m) c1)) w') : o.wp P a w K Q := by
  obtain ⟨a1, c1, w', hr, h2, h3, h4⟩ := run_appR (P := P) w E o.type base v n xs hown vx m news hr h1 hbytes hsmall hbase H hH
  unfold Oper.wp execOp
  simp only [ho, resolve, invoke, builtin, Sem.run_bind, Sem.run_pure, Result.andThen_ok, List.map_toArray, List.map_cons, List.map_nil, hs, hx, hr]
  exact h a1 c1 w' h2 h3 h4
/-- At a step of a region that draws. -/
theorem step_appR {t e : TypeId} {z : Value} {size bytes : Nat} (E : ElemTy P t e z size bytes) {ops : Array Oper} {o : Oper} {a : Act} {K : Act → World → Prop} {Q : Exit → Act → World → Prop} {Ee : Prop} (hgd : o.guard = none) (s x : Operand)
    (ho : o.op = .call { callee := .builtin .append, args := #[s, x], argTypes := #[t, t] })
    (base : Nat) (v : Value) (n : Nat) (xs : List Value) (hs : a.eval s = v) (hown : w.ownsRow base e size v n xs)
    (vx : Value) (m : Nat) (news : List Value) (hx : a.eval x = vx) (hr : Rd w size vx m news) (h1 : ∀ u ∈ news, u.oneCell' = true)
    (hbytes : (n + m) * bytes ≤ 140737488355328) (hsmall : n + m ≤ 9223372036854775807) (hbase : base ≤ w.heap.size) (H : Nat) (hH : w.heap.size = H)
    (h : ∀ a1 c1 w', w'.ownsRow base e size (.slice a1 (n + m) c1) (n + m) (xs ++ news) → w.grownBy w' v.ownBlock → (∀ k, (Value.slice a1 (n + m) c1).ownBlock = some k → v.ownBlock = some k ∨ H ≤ k) → K (a.put o.dst (.slice a1 (n + m) c1)) w') :
    if Region.wanted o (yielded ops a.tmps) = true then Oper.wp P o a w K Q else Ee := by
  rw [if_pos (show Region.wanted o (yielded ops a.tmps) = true by simp [Region.wanted, hgd])]
  exact wp_appR w E s x ho base v n xs hs hown vx m news hx hr h1 hbytes hsmall hbase H hH h
/-- At the list of a plain region's operations. -/
theorem wpl_appR {t e : TypeId} {z : Value} {size bytes : Nat} (E : ElemTy P t e z size bytes) {ops : Array Oper} {rest : List Oper} {o : Oper} {a : Act} {Q : Exit → Act → World → Prop} (hgd : o.guard = none) (s x : Operand)
    (ho : o.op = .call { callee := .builtin .append, args := #[s, x], argTypes := #[t, t] })
    (base : Nat) (v : Value) (n : Nat) (xs : List Value) (hs : a.eval s = v) (hown : w.ownsRow base e size v n xs)
    (vx : Value) (m : Nat) (news : List Value) (hx : a.eval x = vx) (hr : Rd w size vx m news) (h1 : ∀ u ∈ news, u.oneCell' = true)
    (hbytes : (n + m) * bytes ≤ 140737488355328) (hsmall : n + m ≤ 9223372036854775807) (hbase : base ≤ w.heap.size) (H : Nat) (hH : w.heap.size = H)
    (h : ∀ a1 c1 w', w'.ownsRow base e size (.slice a1 (n + m) c1) (n + m) (xs ++ news) → w.grownBy w' v.ownBlock → (∀ k, (Value.slice a1 (n + m) c1).ownBlock = some k → v.ownBlock = some k ∨ H ≤ k) → wpList P ops Q rest (a.put o.dst (.slice a1 (n + m) c1)) w') : wpList P ops Q (o :: rest) a w :=
  wpList_plain hgd fun _ hK => wp_appR w E s x ho base v n xs hs hown vx m news hx hr h1 hbytes hsmall hbase H hH fun a1 c1 w' h2 h3 h4 => hK _ _ (h a1 c1 w' h2 h3 h4)
end
end Go.Proofs.Ytcklmhbcjgiplaa
