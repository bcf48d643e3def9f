/-
  Package kin by contract: Above.
-/
import Derived.Test.YtccbdnlknijcbaaOver
import Derived.RangeFuncBox
namespace Go.Proofs.Ytccbdnlknijcbaa
open Go.RowKit Go.Maps Go.WideMaps Go.Shelf
set_option maxRecDepth 100000
attribute [local go_sem] Oper.semAt_some

/-- As 'wpl_push_at', within a fence. -/
theorem wplIn_push {F : Fence} {nf : Nat} {P : Program} (w : World) {t e : TypeId} {z : Value} {size bytes : Nat} (E : ElemTy P t e z size bytes) {ops : Array Oper} {rest : List Oper} {o : Oper} {a : Act} {Q : Exit → Act → World → Prop} (hgd : o.guard = none) (s x : Operand)
    (ho : o.op = .call { callee := .builtin .append, args := #[s, x], argTypes := #[t, t] })
    (base : Nat) (v : Value) (n : Nat) (xs : List Value) (hs : a.eval s = v) (hown : w.ownsRow base e size v n xs)
    (cs : List Value) (e' : TypeId) (hx : a.eval x = .slice (some ⟨w.heap.size, 0, none⟩) 1 1) (hl : cs.length = size) (h1 : ∀ u ∈ cs, u.oneCell' = true)
    (hbytes : (n + 1) * bytes ≤ 140737488355328) (hsmall : n + 1 ≤ 9223372036854775807) (hbase : base ≤ w.heap.size)
    (h : ∀ v' w', w'.ownsRow base e size v' (n + 1) (xs ++ cs) → w.grownBy w' v.ownBlock → (∀ k, v'.ownBlock = some k → v.ownBlock = some k ∨ w.heap.size ≤ k) → Below base w w' → wpListIn F nf P ops Q rest (a.put o.dst v') w') : wpListIn F nf P ops Q (o :: rest) a (w.alloc (.cells cs.toArray e')) := by
  obtain ⟨i, hi, hz0, hz1, hz2⟩ := info_parts E.hi
  refine wpListIn_plain hgd fun K hK' => ?_
  obtain ⟨v', w', hrun, r1, r2, r3, r4⟩ := run_append_own_at (P := P) (w.alloc (.cells cs.toArray e')) base t o.type e i z size bytes E.ht hi hz0 hz1 hz2 E.hz E.hs v n xs (hown.alloc _) ⟨w.heap.size, 0, none⟩ 1 1 cs (by omega)
    (fun j u hu => by
      have hb := cell_of_row (w.alloc (.cells cs.toArray e')) w.heap.size j cs.toArray e' (0, 0) (heap_alloc_new w _)
      unfold Addr.add
      split
      · rename_i hj; subst hj; rw [hb]; simpa using hu
      · show World.cell? _ ⟨w.heap.size, 0 + j, none⟩ = _
        rw [Nat.zero_add, hb]; simpa using hu) h1 (by simpa [maxLen] using hsmall) hbytes (by simp; omega)
  have hg : w.grownBy w' v.ownBlock := ⟨r2.os, r2.tape, r2.output, by have := r2.size; simp at this; omega, fun k hk hne => by
    rw [r2.block k (by simp; omega) hne]; exact Below.heap_alloc w _ k hk⟩
  unfold Oper.wpIn
  refine ⟨?_, ?_⟩
  · simp [Oper.about, ho, resolve, Target.leads, Sem.run_pure]
  · rw [Oper.semAt_plain F _ _ (by rw [ho]; intro c hc'; cases hc')]
    simp [execOp, ho, resolve, invoke, builtin, hs, hx, hrun, Result.andThen]
    refine hK' _ _ (h v' w' r1 hg (fun k hk => ?_) ((Below.refl base w).grown hg hbase fun k hk => (hown.lt k hk).1))
    rcases r4 with r4 | r4
    · exact .inl (r4 ▸ hk)
    · rw [r4] at hk
      injection hk with hk
      exact .inr (by simp at hk; omega)

/-- A loop whose rounds are told by a relation on the whole activation. -/
theorem wp_loop_R {P : Program} {c : Code} {Q : Exit → Act → World → Prop} (R : Nat → Act → World → Prop) {a : Act} {w : World} (m : Nat) (h0 : R m a w)
    (hz : ∀ a w, ¬ R 0 a w) (step : ∀ m a w, R (m + 1) a w → c.wp P (Exit.then (R m) Q) a w) : (Code.loop c).wp P Q a w := by
  refine wp_loop_rounds m ?_
  have key : ∀ m a w, R m a w → Code.rounds P c Q m a w := by
    intro m
    induction m with
    | zero => exact fun a w h => hz a w h
    | succ m ih =>
      intro a w h
      refine wp_mono (step m a w h) fun e a' w' hq => ?_
      cases e <;> first | exact ih _ _ hq | exact hq
  exact key m a w h0

theorem kin_over (a : Option Addr) (m c : Nat) (s : ByteArray) (w : World) :
    Calls Try.prog 22 #[.slice a m c, .string s] w fun e w' => e = .returned (.func (.func 23) #[] #[.pointer (some ⟨w.heap.size, 0, none⟩), .pointer (some ⟨w.heap.size + 1, 0, none⟩)]) ∧ w' = (w.alloc (.cells #[.slice a m c] 28)).alloc (.cells #[.string s] 9) := by
  go_enter Try.func22, Try.ntmps22
  go_wp2
  go_ret
  exact ⟨rfl, rfl⟩

/-- What a caller that collects texts holds: the box of its row, the row; all of it apart from the iterator's. -/
structure Coll (B bo : Nat) (out : List ByteArray) (X : Nat → Prop) (W : World) : Prop where
  box : ∃ vo, Blk W bo 24 #[vo] ∧ W.ownsRow B 9 1 vo out.length (out.flatMap encS) ∧ ∀ k, vo.ownBlock = some k → ¬ X k
  nb : ¬ X bo

section
variable {B bo : Nat} {out : List ByteArray} {X X' : Nat → Prop} {W W' : World}
theorem Coll.lt (h : Coll B bo out X W) : bo < W.heap.size := by obtain ⟨vo, hb, _⟩ := h.box; exact hb.lt
theorem Coll.step (h : Coll B bo out X W) (st : Step1 X W X' W') : Coll B bo out X' W' := by
  obtain ⟨vo, hb, ho, hn⟩ := h.box
  have far : ∀ k, k < W.heap.size → ¬ X k → ¬ X' k := fun k hk hx hx' => by
    rcases st.new k hx' with h1 | ⟨h1, _⟩
    · exact hx h1
    · omega
  exact ⟨⟨vo, hb.touch st.touch h.nb, st.touch.own ho hn, fun k hk => far k (ho.lt k hk).2 (hn k hk)⟩, far bo hb.lt h.nb⟩
theorem Coll.touch (h : Coll B bo out X W) {S : Nat → Prop} (ht : Touch S W W') (hb : ¬ S bo) (hr : ∀ vo, Blk W bo 24 #[vo] → ∀ k, vo.ownBlock = some k → ¬ S k) : Coll B bo out X W' := by
  obtain ⟨vo, hb', ho, hn⟩ := h.box
  exact ⟨⟨vo, hb'.touch ht hb, ht.own ho (hr vo hb'), hn⟩, h.nb⟩
/-- One more text. -/
theorem Coll.push {vo v2 : Value} {x : ByteArray} (hb : Blk W bo 24 #[vo]) (ho : W.ownsRow B 9 1 vo out.length (out.flatMap encS)) (hn : ∀ k, vo.ownBlock = some k → ¬ X k) (hnb : ¬ X bo) (hX : ∀ k, X k → k < W.heap.size)
    (h2 : W'.ownsRow B 9 1 v2 (out.length + 1) (out.flatMap encS ++ [.string x])) (hg : W.grownBy W' vo.ownBlock) (hk : ∀ k, v2.ownBlock = some k → vo.ownBlock = some k ∨ W.heap.size ≤ k) :
    Coll B bo (out ++ [x]) X (W'.setCell ⟨bo, 0, none⟩ v2) ∧ Touch (fun k => k = bo ∨ vo.ownBlock = some k) W (W'.setCell ⟨bo, 0, none⟩ v2) := by
  have ht : Touch (fun k => k = bo ∨ vo.ownBlock = some k) W W' := Touch.of_grown hg (fun k hk => .inr hk)
  have hb' : Blk W' bo 24 #[vo] := (hg.block bo hb.lt (fun e => own_ne ho hb (by decide) bo e.symm rfl)).trans hb
  have hh := hb'.hold h2 (by decide)
  refine ⟨⟨⟨v2, hh.1, by simpa [encS] using hh.2, fun k hk' hx => ?_⟩, hnb⟩, ht.setCell (.inl (.inl rfl)) _⟩
  rcases hk k hk' with h1 | h1
  · exact hn k h1 hx
  · have := hX k hx
    omega
end

/-- The world w is as it was; what is the iterator's lies behind it. -/
structure Base (w : World) (X : Nat → Prop) (W : World) : Prop where
  kept : Kept w W
  ge : ∀ k, X k → w.heap.size ≤ k
theorem Base.step {w W W' : World} {X X' : Nat → Prop} (h : Base w X W) (st : Step1 X W X' W') : Base w X' W' :=
  ⟨Below.trans h.kept (st.touch.below h.ge h.kept.size), fun k hk => (st.new k hk).elim (h.ge k) (fun h1 => Nat.le_trans h.kept.size h1.1)⟩

/-- The block of the rounds' deferred calls is shut: no row turns. -/
theorem keep_collected {w W : World} {B E : TypeId} {sz m D : Nat} {v : Value} {xs : List Value} {dd : Option (List Deferred)} (h : W.ownsRow B E sz v m xs) (hk : Kept w W) (hD : W.heap[D]? = some (.deferred dd)) (hge : w.heap.size ≤ D) :
    (W.putObj D (.deferred none)).ownsRow B E sz v m xs ∧ Kept w (W.putObj D (.deferred none)) := by
  have ht : Touch (fun k => k = D) W (W.putObj D (.deferred none)) := touch_putObj W _ rfl
  refine ⟨ht.own h fun k hk' e => ?_, Below.trans hk (ht.below (fun b hb => by omega) hk.size)⟩
  subst e
  rcases h.2 with ⟨rfl, _⟩ | ⟨g, cap, cur, rfl, _, hh, _⟩
  · cases hk'
  · obtain rfl : g = k := by simpa [Value.ownBlock] using hk'
    rw [hh] at hD
    cases hD

end Go.Proofs.Ytccbdnlknijcbaa
