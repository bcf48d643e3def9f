/-
  Package kin by contract: Above.
-/
import Derived.Test.YtjljfadfepidjaaOver
import Derived.RangeFuncBox
namespace Go.Proofs.Ytjljfadfepidjaa
open Go.RowKit Go.Maps Go.WideMaps Go.Shelf
set_option maxRecDepth 100000
attribute [local go_sem] Oper.semAt_some

/-- As 'wpl_push_at', within a fence. -/
theorem wplIn_push {F : Fence} {nf : Nat} {P : Program} (w : World) {t e : TypeId} {z : Value} {size bytes : Nat} (E : ElemTy P t e z size bytes) {ops : Array Oper} {rest : List Oper} {o : Oper} {a : Act} {Q : Exit → Act → World → Prop} (hgd : o.guard = none) (s x : Operand)
    (ho : o.op = .call { callee := .builtin .append, args := #[s, x], argTypes := #[t, t] })
    (base : Nat) (v : Value) (n : Nat) (xs : List Value) (hs : a.eval s = v) (hown : w.ownsRow base e size v n xs)
    (cs : List Value) (e' : TypeId) (hx : a.eval x = .slice (some ⟨w.heap.size, 0, none⟩) 1 1) (hl : cs.length = size) (h1 : ∀ u ∈ cs, u.oneCell' = true)
    (hbytes : (n + 1) * bytes ≤ 140737488355328) (hsmall : n + 1 ≤ 9223372036854775807) (hbase : base ≤ w.heap.size)
    (h : ∀ v' w', w'.ownsRow base e size v' (n + 1) (xs ++ cs) → w.grownBy w' v.ownBlock → (∀ k, v'.ownBlock = some k → v.ownBlock = some k ∨ w.heap.size ≤ k) → Below base w w' → wpListIn F nf P ops Q rest (a.put o.dst v') w') : wpListIn F nf P ops Q (o :: rest) a (w.alloc (.cells cs.toArray e')) := by
  obtain ⟨i, hi, hz0, hz1, hz2⟩ := info_parts E.hi
  refine wpListIn_plain hgd fun K hK' => ?_
  obtain ⟨v', w', hrun, r1, r2, r3, r4⟩ := run_append_own_at (P := P) (w.alloc (.cells cs.toArray e')) base t o.type e i z size bytes E.ht hi hz0 hz1 hz2 E.hz E.hs v n xs (hown.alloc _) ⟨w.heap.size, 0, none⟩ 1 1 cs (by omega)
    (fun j u hu => by
      have hb := cell_of_row (w.alloc (.cells cs.toArray e')) w.heap.size j cs.toArray e' (0, 0) (heap_alloc_new w _)
      unfold Addr.add
      split
      · rename_i hj; subst hj; rw [hb]; simpa using hu
      · show World.cell? _ ⟨w.heap.size, 0 + j, none⟩ = _
        rw [Nat.zero_add, hb]; simpa using hu) h1 (by simpa [maxLen] using hsmall) hbytes (by simp; omega)
  have hg : w.grownBy w' v.ownBlock := ⟨r2.os, r2.tape, r2.output, by have := r2.size; simp at this; omega, fun k hk hne => by
    rw [r2.block k (by simp; omega) hne]; exact Below.heap_alloc w _ k hk⟩
  unfold Oper.wpIn
  refine ⟨?_, ?_⟩
  · simp [Oper.about, ho, resolve, Target.leads, Sem.run_pure]
  · rw [Oper.semAt_plain F _ _ (by rw [ho]; intro c hc'; cases hc')]
    simp [execOp, ho, resolve, invoke, builtin, hs, hx, hrun, Result.andThen]
    refine hK' _ _ (h v' w' r1 hg (fun k hk => ?_) ((Below.refl base w).grown hg hbase fun k hk => (hown.lt k hk).1))
    rcases r4 with r4 | r4
    · exact .inl (r4 ▸ hk)
    · rw [r4] at hk
      injection hk with hk
      exact .inr (by simp at hk; omega)

/-- A loop whose rounds are told by a relation on the whole activation. -/
theorem wp_loop_R {P : Program} {c : Code} {Q : Exit → Act → World → Prop} (R : Nat → Act → World → Prop) {a : Act} {w : World} (m : Nat) (h0 : R m a w)
    (hz : ∀ a w, ¬ R 0 a w) (step : ∀ m a w, R (m + 1) a w → c.wp P (Exit.then (R m) Q) a w) : (Code.loop c).wp P Q a w := by
  refine wp_loop_rounds m ?_
  have key : ∀ m a w, R m a w → Code.rounds P c Q m a w := by
    intro m
    induction m with
    | zero => exact fun a w h => hz a w h
    | succ m ih =>
      intro a w h
      refine wp_mono (step m a w h) fun e a' w' hq => ?_
      cases e <;> first | exact ih _ _ hq | exact hq
  exact key m a w h0

theorem kin_over (a : Option Addr) (m c : Nat) (s : ByteArray) (w : World) :
    Calls Try.prog 41 #[.slice a m c, .string s] w fun e w' => e = .returned (.func (.func 46) #[] #[.pointer (some ⟨w.heap.size, 0, none⟩), .pointer (some ⟨w.heap.size + 1, 0, none⟩)]) ∧ w' = (w.alloc (.cells #[.slice a m c] 22)).alloc (.cells #[.string s] 9) := by
  go_enter Try.func41, Try.ntmps41
  go_wp2
  go_ret
  exact ⟨rfl, rfl⟩

/-- What a caller that collects texts holds: the box of its row, the row; all of it apart from the iterator's. -/
structure Coll (B bo : Nat) (out : List ByteArray) (X : Nat → Prop) (W : World) : Prop where
  box : ∃ vo, Blk W bo 40 #[vo] ∧ W.ownsRow B 9 1 vo out.length (out.flatMap encS) ∧ ∀ k, vo.ownBlock = some k → ¬ X k
  nb : ¬ X bo

section
variable {B bo : Nat} {out : List ByteArray} {X X' : Nat → Prop} {W W' : World}
theorem Coll.lt (h : Coll B bo out X W) : bo < W.heap.size := by obtain ⟨vo, hb, _⟩ := h.box; exact hb.lt
theorem Coll.step (h : Coll B bo out X W) (st : Step1 X W X' W') : Coll B bo out X' W' := by
  obtain ⟨vo, hb, ho, hn⟩ := h.box
  have far : ∀ k, k < W.heap.size → ¬ X k → ¬ X' k := fun k hk hx hx' => by
    rcases st.new k hx' with h1 | ⟨h1, _⟩
    · exact hx h1
    · omega
  exact ⟨⟨vo, hb.touch st.touch h.nb, st.touch.own ho hn, fun k hk => far k (ho.lt k hk).2 (hn k hk)⟩, far bo hb.lt h.nb⟩
theorem Coll.touch (h : Coll B bo out X W) {S : Nat → Prop} (ht : Touch S W W') (hb : ¬ S bo) (hr : ∀ vo, Blk W bo 40 #[vo] → ∀ k, vo.ownBlock = some k → ¬ S k) : Coll B bo out X W' := by
  obtain ⟨vo, hb', ho, hn⟩ := h.box
  exact ⟨⟨vo, hb'.touch ht hb, ht.own ho (hr vo hb'), hn⟩, h.nb⟩
/-- One more text. -/
theorem Coll.push {vo v2 : Value} {x : ByteArray} (hb : Blk W bo 40 #[vo]) (ho : W.ownsRow B 9 1 vo out.length (out.flatMap encS)) (hn : ∀ k, vo.ownBlock = some k → ¬ X k) (hnb : ¬ X bo) (hX : ∀ k, X k → k < W.heap.size)
    (h2 : W'.ownsRow B 9 1 v2 (out.length + 1) (out.flatMap encS ++ [.string x])) (hg : W.grownBy W' vo.ownBlock) (hk : ∀ k, v2.ownBlock = some k → vo.ownBlock = some k ∨ W.heap.size ≤ k) :
    Coll B bo (out ++ [x]) X (W'.setCell ⟨bo, 0, none⟩ v2) ∧ Touch (fun k => k = bo ∨ vo.ownBlock = some k) W (W'.setCell ⟨bo, 0, none⟩ v2) := by
  have ht : Touch (fun k => k = bo ∨ vo.ownBlock = some k) W W' := Touch.of_grown hg (fun k hk => .inr hk)
  have hb' : Blk W' bo 40 #[vo] := (hg.block bo hb.lt (fun e => own_ne ho hb (by decide) bo e.symm rfl)).trans hb
  have hh := hb'.hold h2 (by decide)
  refine ⟨⟨⟨v2, hh.1, by simpa [encS] using hh.2, fun k hk' hx => ?_⟩, hnb⟩, ht.setCell (.inl (.inl rfl)) _⟩
  rcases hk k hk' with h1 | h1
  · exact hn k h1 hx
  · have := hX k hx
    omega
end

/-- The world w is as it was; what is the iterator's lies behind it. -/
structure Base (w : World) (X : Nat → Prop) (W : World) : Prop where
  kept : Kept w W
  ge : ∀ k, X k → w.heap.size ≤ k
theorem Base.step {w W W' : World} {X X' : Nat → Prop} (h : Base w X W) (st : Step1 X W X' W') : Base w X' W' :=
  ⟨Below.trans h.kept (st.touch.below h.ge h.kept.size), fun k hk => (st.new k hk).elim (h.ge k) (fun h1 => Nat.le_trans h.kept.size h1.1)⟩

/-- The block of the rounds' deferred calls is shut: no row turns. -/
theorem keep_collected {w W : World} {B E : TypeId} {sz m D : Nat} {v : Value} {xs : List Value} {dd : Option (List Deferred)} (h : W.ownsRow B E sz v m xs) (hk : Kept w W) (hD : W.heap[D]? = some (.deferred dd)) (hge : w.heap.size ≤ D) :
    (W.putObj D (.deferred none)).ownsRow B E sz v m xs ∧ Kept w (W.putObj D (.deferred none)) := by
  have ht : Touch (fun k => k = D) W (W.putObj D (.deferred none)) := touch_putObj W _ rfl
  refine ⟨ht.own h fun k hk' e => ?_, Below.trans hk (ht.below (fun b hb => by omega) hk.size)⟩
  subst e
  rcases h.2 with ⟨rfl, _⟩ | ⟨g, cap, cur, rfl, _, hh, _⟩
  · cases hk'
  · obtain rfl : g = k := by simpa [Value.ownBlock] using hk'
    rw [hh] at hD
    cases hD

set_option maxHeartbeats 1000000 in
theorem kin_Above_in (n : Nat) (hn : 4 ≤ n) (D : List TD) (s : ByteArray) (v : Value) (w : World) (h : TyR w v D) (hs : s.size ≤ maxLen) :
    CallsIn Fence.wide n Try.prog 25 #[v, .string s] w fun e w' => ∃ v', e = .returned v' ∧ RowS w.heap.size (aboveL D s) w' v' ∧ Kept w w' := by
  have h1 : 1 ≤ n := by omega
  have H := Lib.hid h
  obtain ⟨a, c, rfl, hc1, hc2⟩ := h.slice
  have hl := h.len
  clear h
  refine callsIn_of_wp_marks Try.func25 rfl trivial ?_ rfl
  refine wpIn_wide.2 ?_
  simp only [Try.ntmps25, List.size_toArray, List.length_cons, List.length_nil, Nat.reduceAdd, Nat.reduceSub, Array.replicate_succ, Array.replicate_zero, List.push_toArray, List.append_toArray, List.nil_append, List.cons_append]
  go_wp2_with fail
  refine (kin_over _ _ _ s _).mono ?_
  rintro e w1 ⟨rfl, hw1⟩
  have k0 : Kept w (w.alloc (.cells #[.slice none 0 0] 40)) := (Below.refl _ _).alloc (Nat.le_refl _) _
  have bo : Blk (w.alloc (.cells #[.slice none 0 0] 40)) w.heap.size 40 #[.slice none 0 0] := Blk.new _ _ _
  have z0 : (w.alloc (.cells #[.slice none 0 0] 40)).heap.size = w.heap.size + 1 := by simp
  generalize (w.alloc (.cells #[.slice none 0 0] 40)) = w0 at *
  have k1 : Kept w0 w1 := by rw [hw1]; exact ((Below.refl _ _).alloc (Nat.le_refl _) _).alloc (by simp) _
  have bb1 : Blk w1 w0.heap.size 22 #[.slice a D.length c] := by rw [hw1]; exact (Blk.new _ _ _).alloc _
  have bb2 : Blk w1 (w0.heap.size + 1) 9 #[.string s] := by rw [hw1]; have := Blk.new (w0.alloc (.cells #[.slice a D.length c] 22)) 9 #[.string s]; rwa [World.size_alloc] at this
  have zw1 : w1.heap.size = w0.heap.size + 1 + 1 := by rw [hw1]; simp
  have bo1 := bo.kept k1
  have kw1 := Kept.trans k0 k1
  have BO := Lib.hid bo1
  have B1 := Lib.hid bb1
  have B2 := Lib.hid bb2
  have KW := Lib.hid kw1
  have Z0 := Lib.hid z0
  have Z1 := Lib.hid zw1
  clear hw1 k0 bo z0 k1 bb1 bb2 zw1 bo1 kw1
  go_wp2_with fail
  refine (wpIn_wide (n := n)).1 ?_
  have hX0 : ∀ k, (k = w0.heap.size ∨ k = w0.heap.size + 1) → w.heap.size ≤ k ∧ k < w1.heap.size := fun k hk => by
    have h1 := Z0.out
    have h2 := Z1.out
    omega
  have HX0 := Lib.hid hX0
  clear hX0
  refine wpIn_rangeFunc_X rfl h1 (gf := 46) (lb := #[.pointer (some ⟨w0.heap.size, 0, none⟩), .pointer (some ⟨w0.heap.size + 1, 0, none⟩)]) rfl trivial (enters_of Try.func46 (by kernel_rfl) rfl)
    (enc := Value.string) (X0 := fun k => k = w0.heap.size ∨ k = w0.heap.size + 1)
    (fun o o' => over_seq (n - 1) (by omega) D s _ w _ _ _ (fun k => k = w0.heap.size ∨ k = w0.heap.size + 1) H.out hs (Below.trans KW.out (((Below.refl _ _).alloc KW.out.size _).alloc (by simp; have := KW.out.size; omega) _)) ((B1.out.alloc _).alloc _) ((B2.out.alloc _).alloc _) (.inl rfl) (.inr rfl) (fun k hk => by have := HX0.out k hk; simp; omega))
    (fun k hk => (HX0.out k hk).2) KW.out.size rfl
    (fun pre X W => Coll w.heap.size w.heap.size pre X W ∧ Base w X W) (fun _ _ _ _ => False)
    (fun s X W X' W' hs st => ⟨hs.1.step st, hs.2.step st⟩) (fun _ _ _ _ _ _ hs _ => hs)
    ⟨⟨⟨_, BO.out, World.ownsRow_nil _ _ _ _, fun k hk => by cases hk⟩, fun e => by have := Z0.out; omega⟩, KW.out, fun k hk => (HX0.out k hk).1⟩
    (fun x => { tmps := #[.slice a D.length c, .string s, undef, undef, .slice none 0 0, .pointer (some ⟨w.heap.size, 0, none⟩), .string x, .slice a D.length c, .string s, .func (.func 46) #[] #[.pointer (some ⟨w0.heap.size, 0, none⟩), .pointer (some ⟨w0.heap.size + 1, 0, none⟩)], .string x, undef, undef, undef, undef, undef], defers := [] }) ?assign ?body ?done ?stop
  case assign =>
    intro l x W K hK
    gi_wp2
    exact hK
  case body =>
    rintro l pre X x W ⟨hC, hBs⟩ hX hlen -
    obtain ⟨⟨vo, hb, ho, hn⟩, hnb⟩ := hC
    have c0 := hb.cell 0
    have f0 := hb.frozen 0
    simp only [List.getElem?_toArray, List.getElem?_cons_zero] at c0
    have HB := Lib.hid hb
    have HO := Lib.hid ho
    have HN := Lib.hid hn
    have HNB := Lib.hid hnb
    have HX := Lib.hid hX
    have HBS := Lib.hid hBs
    have zW := hBs.kept.size
    clear hb ho hn hnb hX hBs
    have hle : w.heap.size ≤ w.heap.size := Nat.le_refl _
    gi_wp2_with (gi_at_builtin; refine wplIn_push _ elem_str rfl _ _ rfl w.heap.size vo pre.length _ rfl HO.out [.string x] _ rfl rfl (one_S x) (by omega) (by omega) zW ?_; intro v2 w2 ho2 hg2 hk2 hb2; obtain ⟨av, cv, rfl, -, -⟩ := own_slice ho2; have hb3 : Blk w2 w.heap.size 40 #[vo] := (hg2.block _ HB.out.lt (fun e => own_ne HO.out HB.out (by decide) _ e.symm rfl)).trans HB.out; have d0 := hb3.cell 0; have d1 := hb3.frozen 0; simp only [List.getElem?_toArray, List.getElem?_cons_zero] at d0; have hp := Coll.push HB.out HO.out HN.out HNB.out HX.out ho2 hg2 hk2; have HP := Lib.hid hp; have HB2 := Lib.hid hb2; clear ho2 hg2 hk2 hb2 hb3 hp c0 f0)
    have hbel : Below w.heap.size W (w2.setCell ⟨w.heap.size, 0, none⟩ (.slice av (pre.length + 1) cv)) := HB2.out.setCell (p := ⟨w.heap.size, 0, none⟩) hle _
    exact ⟨Apart.of_touch HP.out.2 (fun k hk => hk.elim (fun e => e ▸ HNB.out) (HN.out k)), hbel, HP.out.1, Below.trans HBS.out.kept hbel, HBS.out.ge⟩
  case done =>
    rintro DD ys X W hD rfl ⟨hC, hBs⟩ hK
    obtain ⟨⟨vo, hb, ho, hn⟩, hnb⟩ := hC
    have c0 := hb.cell 0
    simp only [List.getElem?_toArray, List.getElem?_cons_zero] at c0
    have HO := Lib.hid ho
    have HK := Lib.hid hK
    have HBS := Lib.hid hBs
    clear hb ho hn hnb hK hBs
    obtain ⟨ao, co, rfl, -, -⟩ := own_slice HO.out
    go_wp2_with fail
    refine leaves_collected (fun W' => W'.ownsRow w.heap.size 9 1 (.slice ao (aboveL D s).length co) (aboveL D s).length ((aboveL D s).flatMap encS) ∧ Kept w W') [DD] W (by simp) (by simpa using HK.out) ⟨HO.out, HBS.out.kept⟩ ?_ ?_
    · rintro D' W' hD' ⟨q1, q2⟩ q3
      have hge : w.heap.size ≤ D' := by
        obtain rfl : D' = DD := by simpa using hD'
        rw [hD]
        exact KW.out.size
      exact keep_collected q1 q2 q3 hge
    · rintro W' ⟨q1, q2⟩
      exact ⟨.slice ao (aboveL D s).length co, by simp [results, Try.f25, go_sem], _, rfl, Row.of_own q1, q2⟩
  case stop =>
    rintro D c pre X W _ _ hf
    exact hf.elim

theorem kin_Above (D : List TD) (s : ByteArray) (v : Value) (w : World) (h : TyR w v D) (hs : s.size ≤ maxLen) :
    Calls Try.prog 25 #[v, .string s] w fun e w' => ∃ v', e = .returned v' ∧ RowS w.heap.size (aboveL D s) w' v' ∧ Kept w w' :=
  callsIn_wide.1 (kin_Above_in 4 (by omega) D s v w h hs)
end Go.Proofs.Ytjljfadfepidjaa
