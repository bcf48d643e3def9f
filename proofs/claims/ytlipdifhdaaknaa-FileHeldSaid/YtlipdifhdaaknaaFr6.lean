/-
  The document's own reader of class files by contract: the class that it gathers.
-/
import Derived.Test.YtlipdifhdaaknaaFr5
import Derived.Test.YtlipdifhdaaknaaFr1
import Derived.Test.YtlipdifhdaaknaaFileF
import Derived.Test.YtlipdifhdaaknaaWord
namespace Go.Proofs.Ytlipdifhdaaknaa
open Go.RowKit
set_option maxRecDepth 100000

/-- As 'step_pushH', where the element has been laid ahead of the draw. -/
theorem step_pushD {P : Program} (w : World) {t e : TypeId} {z : Value} {size bytes : Nat} (E : ElemTy P t e z size bytes) {ops : Array Oper} {o : Oper} {a : Act} {K : Act → World → Prop} {Q : Exit → Act → World → Prop} {Ee : Prop} (hgd : o.guard = none) (s x : Operand)
    (ho : o.op = .call { callee := .builtin .append, args := #[s, x], argTypes := #[t, t] })
    (base : Nat) (v : Value) (n : Nat) (xs : List Value) (hs : a.eval s = v) (hown : w.drew.ownsRow base e size v n xs)
    (cs : List Value) (e' : TypeId) (H : Nat) (hx : a.eval x = .slice (some ⟨H, 0, none⟩) 1 1) (hH : w.heap.size = H) (hl : cs.length = size) (h1 : ∀ u ∈ cs, u.oneCell' = true)
    (hbytes : (n + 1) * bytes ≤ 140737488355328) (hsmall : n + 1 ≤ 9223372036854775807) (hbase : base ≤ H)
    (h : ∀ v' w', w'.ownsRow base e size v' (n + 1) (xs ++ cs) → w.drew.grownBy w' v.ownBlock → (∀ k, v'.ownBlock = some k → v.ownBlock = some k ∨ H ≤ k) → K (a.put o.dst v') w') :
    if Region.wanted o (yielded ops a.tmps) = true then Oper.wp P o a (w.alloc (.cells cs.toArray e')).drew K Q else Ee :=
  step_pushH w.drew E hgd s x ho base v n xs hs hown cs e' H hx hH hl h1 hbytes hsmall hbase h
/-- The document's reader with its class's rows. -/
structure QX (g : Nat) (L : List UInt8) (vb : Value) (q : QS) (mv : List (MethC × Value × Value)) (vP vI vF vM : Value) (W : World) : Prop where
  rx : RX W g L vb vP vI vF vM q
  rows : CR (g + 1) q.c mv vP vI vF vM W
  nb : 0 < L.length → ∀ k, vb.ownBlock = some k → k < g
section
variable {g : Nat} {L : List UInt8} {vb vP vI vF vM v : Value} {q q' : QS} {mv : List (MethC × Value × Value)} {W W' : World}
theorem QX.rg (h : QX g L vb q mv vP vI vF vM W) (hr : RG g L vb vP vI vF vM q' W W') (hc : q'.c = q.c) : QX g L vb q' mv vP vI vF vM W' :=
  ⟨hr.1, hc ▸ h.rows.touch hr.2 fun k hk => by omega, h.nb⟩
theorem QX.same (h : QX g L vb q mv vP vI vF vM W) (ht : Touch (fun b => W.heap.size ≤ b) W W') : QX g L vb q mv vP vI vF vM W' := by
  refine ⟨h.rx.same ht fun k hk => hk, ?_, h.nb⟩
  have hr := h.rows
  exact ⟨ht.own hr.p fun k hk => by have := (hr.p.lt k hk).2; omega, ht.own hr.i fun k hk => by have := (hr.i.lt k hk).2; omega, ht.own hr.f fun k hk => by have := (hr.f.lt k hk).2; omega, ht.own hr.m fun k hk => by have := (hr.m.lt k hk).2; omega,
    fun x hx => ⟨ht.own (hr.r x hx).code fun k hk => by have := ((hr.r x hx).code.lt k hk).2; omega, ht.own (hr.r x hx).traps fun k hk => by have := ((hr.r x hx).traps.lt k hk).2; omega, (hr.r x hx).ne⟩, hr.ms⟩
theorem QX.alloc (h : QX g L vb q mv vP vI vF vM W) (o : Obj) : QX g L vb q mv vP vI vF vM (W.alloc o) := h.same ((Touch.refl _ W).alloc o)
theorem QX.drewN (h : QX g L vb q mv vP vI vF vM W) (n : Nat) : QX g L vb q mv vP vI vF vM (W.drewN n) := h.same ((Touch.refl _ W).drewN n)
theorem QX.drew (h : QX g L vb q mv vP vI vF vM W) : QX g L vb q mv vP vI vF vM W.drew := h.drewN 1
/-- A row grows, and is laid into the class. -/
theorem QX.push (h : QX g L vb q mv vP vI vF vM W) {e sz n : Nat} {u : Value} {xs : List Value} (hrow : W.ownsRow (g + 1) e sz u n xs) (hg : W.grownBy W' u.ownBlock) (i : Nat) {q' : QS} {mv' : List (MethC × Value × Value)} {vP' vI' vF' vM' : Value}
    (hr : CR (g + 1) q'.c mv' vP' vI' vF' vM' W') (hc : (rdV vb vP vI vF vM q).toArray.setIfInBounds i v = (rdV vb vP' vI' vF' vM' q').toArray) (ha : q'.at_ = q.at_) (hm : q'.most = q.most) (hp : q'.c.pool.length ≤ 65536) : QX g L vb q' mv' vP' vI' vF' vM' (W'.setCell ⟨g, i, none⟩ v) := by
  have hT0 : Touch (fun b => u.ownBlock = some b) W W' := Touch.of_grown hg fun k hk => hk
  have hT1 : Touch (fun b => b = g) W' (W'.setCell ⟨g, i, none⟩ v) := (Touch.refl _ _).one i v
  have hb : ∀ k, u.ownBlock = some k → g + 1 ≤ k := fun k hk => (hrow.lt k hk).1
  have hr2 := hr.touch hT1 fun k hk => by omega
  refine ⟨⟨hc ▸ (h.rx.blk.touch hT0 fun e => by have := hb _ e; omega).set_ i v, ?_, h.rx.nb, Rd.of_own hr2.p, fun _ k hk => by have := (hr2.p.lt k hk).1; omega, h.rx.len, hp, by rw [ha]; exact h.rx.at_, by rw [hm]; exact h.rx.most⟩, hr2, h.nb⟩
  exact (h.rx.rb.touch hT0 fun h0 k hk e => by have := hb k e; have := h.nb h0 k hk; omega).touch hT1 fun h0 k hk => h.rx.nb h0 k hk
theorem QX.grow (h : QX g L vb q mv vP vI vF vM W) {e sz n : Nat} {u : Value} {xs : List Value} (hrow : W.ownsRow (g + 1) e sz u n xs) (hg : W.grownBy W' u.ownBlock) (i : Nat) (x : Value) (hx : (rdV vb vP vI vF vM q)[i]? = some x) : W'.cell? ⟨g, i, none⟩ = some x ∧ W'.frozen? ⟨g, i, none⟩ = false ∧ g < W'.heap.size := by
  have hb : Blk W' g 54 (rdV vb vP vI vF vM q).toArray := h.rx.blk.touch (S := fun b => u.ownBlock = some b) (Touch.of_grown hg fun k hk => hk) fun e => by have := (hrow.lt _ e).1; omega
  exact ⟨by rw [hb.cell i, List.getElem?_toArray, hx], hb.frozen i, hb.lt⟩
end
/-- Besides, a block z of the part's own, laid behind w1. -/
structure QZ (g : Nat) (L : List UInt8) (vb : Value) (q : QS) (mv : List (MethC × Value × Value)) (vP vI vF vM : Value) (w1 : World) (z : Nat) (t : TypeId) (cs : Array Value) (W : World) : Prop where
  hq : ∃ q0, q0.c = q.c ∧ QX g L vb q0 mv vP vI vF vM w1
  rx : RX W g L vb vP vI vF vM q
  zb : Blk W z t cs
  hz : w1.heap.size ≤ z
  tch : Touch (fun b => b = g ∨ w1.heap.size ≤ b) w1 W
section
variable {g : Nat} {L : List UInt8} {vb vP vI vF vM v : Value} {q q' : QS} {mv : List (MethC × Value × Value)} {w1 W W' : World} {z : Nat} {t : TypeId} {cs : Array Value}
theorem QX.lay (h : QX g L vb q mv vP vI vF vM W) (t : TypeId) (cs : Array Value) : QZ g L vb q mv vP vI vF vM W W.heap.size t cs (W.alloc (.cells cs t)) :=
  ⟨⟨q, rfl, h⟩, h.rx.alloc _, Blk.new W t cs, Nat.le_refl _, (Touch.refl _ _).alloc _⟩
theorem QZ.gz (h : QZ g L vb q mv vP vI vF vM w1 z t cs W) : g < w1.heap.size ∧ ¬ z = g ∧ ¬ g = z := by
  obtain ⟨q0, _, hq⟩ := h.hq
  have := hq.rx.blk.lt
  have := h.hz
  exact ⟨by omega, by omega, by omega⟩
theorem QZ.rg (h : QZ g L vb q mv vP vI vF vM w1 z t cs W) (hr : RG g L vb vP vI vF vM q' W W') (hc : q'.c = q.c) : QZ g L vb q' mv vP vI vF vM w1 z t cs W' := by
  obtain ⟨q0, e0, hq⟩ := h.hq
  exact ⟨⟨q0, e0.trans hc.symm, hq⟩, hr.1, h.zb.touch hr.2 h.gz.2.1, h.hz, h.tch.trans hr.2 fun b hb => .inl (.inl hb)⟩
theorem QZ.put (h : QZ g L vb q mv vP vI vF vM w1 z t cs W) (i : Nat) (u : Value) : QZ g L vb q mv vP vI vF vM w1 z t (cs.setIfInBounds i u) (W.setCell ⟨z, i, none⟩ u) := by
  obtain ⟨q0, e0, hq⟩ := h.hq
  have hz := h.hz
  have hg := h.gz
  have hT : Touch (fun b => b = z) W (W.setCell ⟨z, i, none⟩ u) := (Touch.refl _ _).one i u
  refine ⟨⟨q0, e0, hq⟩, ?_, h.zb.set_ i u, h.hz, h.tch.setCell (p := ⟨z, i, none⟩) (.inl (.inr hz)) u⟩
  exact ⟨h.rx.blk.touch hT hg.2.2, h.rx.rb.touch hT fun h0 k hk e => by have := hq.nb h0 k hk; omega, h.rx.nb, h.rx.rp.touch hT fun h0 k hk e => by have := (hq.rows.p.lt k hk).2; omega, h.rx.np, h.rx.len, h.rx.plen, h.rx.at_, h.rx.most⟩
theorem QZ.qx (h : QZ g L vb q mv vP vI vF vM w1 z t cs W) : QX g L vb q mv vP vI vF vM W := by
  obtain ⟨q0, e0, hq⟩ := h.hq
  refine ⟨h.rx, ?_, hq.nb⟩
  have ht := h.tch
  have hr := hq.rows
  rw [← e0]
  exact ⟨ht.own hr.p fun k hk => by have := hr.p.lt k hk; omega, ht.own hr.i fun k hk => by have := hr.i.lt k hk; omega, ht.own hr.f fun k hk => by have := hr.f.lt k hk; omega, ht.own hr.m fun k hk => by have := hr.m.lt k hk; omega,
    fun x hx => ⟨ht.own (hr.r x hx).code fun k hk => by have := (hr.r x hx).code.lt k hk; omega, ht.own (hr.r x hx).traps fun k hk => by have := (hr.r x hx).traps.lt k hk; omega, (hr.r x hx).ne⟩, hr.ms⟩
theorem QZ.drewN (h : QZ g L vb q mv vP vI vF vM w1 z t cs W) (n : Nat) : QZ g L vb q mv vP vI vF vM w1 z t cs (W.drewN n) := h.rg ⟨h.rx.drewN n, (Touch.refl _ _).drewN n⟩ rfl
end
theorem constR_c (L : List UInt8) (p t : Int) (q : QS) : (constRQ L p t q).2.c = q.c := by
  unfold constRQ
  split
  · rw [bytes_c, num_c]
  · split
    · rw [num_c]
    · split
      · rw [num_c]
      · split
        · rw [num_c, num_c]
        · exact fail_c _ _ _
theorem const_q (L : List UInt8) (q : QS) {t : Int} {q1 q2 : QS} {x : ConstC} (h1 : numQ L 1 q = (t, q1)) (h2 : constRQ L q.at_ t q1 = (x, q2)) : constQ L q = { q2 with c := { q2.c with pool := q2.c.pool ++ [x] } } := by
  have hc : q2.c = q.c := by
    have e1 := constR_c L q.at_ t q1
    have e2 := num_c L 1 q
    rw [h2] at e1
    rw [h1] at e2
    exact e1.trans e2
  unfold constQ
  rw [h1]
  dsimp only
  rw [h2, hc]
def ConstQ (g : Nat) (L : List UInt8) (vb : Value) (q : QS) (mv : List (MethC × Value × Value)) (vI vF vM : Value) (w : World) (e : Ending) (w' : World) : Prop :=
  e = .returned (.tuple #[]) ∧ ∃ vP, QX g L vb q mv vP vI vF vM w' ∧ Touch (fun b => g ≤ b) w w'
set_option maxHeartbeats 4000000 in
theorem ref3_constant_1 (g : Nat) (L : List UInt8) (vb : Value) (q : QS) (mv : List (MethC × Value × Value)) (vP vI vF vM : Value) (w : World) (h : QX g L vb q mv vP vI vF vM w) (hp : q.c.pool.length ≤ 65535) (q1 : QS) (h1 : numQ L 1 q = (1, q1)) :
    Calls Try.prog 19 #[.pointer (some ⟨g, 0, none⟩)] w (ConstQ g L vb (constQ L q) mv vI vF vM w) := by
  have h1c : q1.c = q.c := by have := num_c L 1 q; rw [h1] at this; exact this
  obtain ⟨n2, q2, h2, h2c, h20, h21⟩ := num_eq2 L q1
  obtain ⟨l3, q3, h3, h3c⟩ := bytes_eq L n2 q2
  have hR := const_q L q h1 (x := ⟨1, ⟨l3.toArray⟩, 0, 0, 0⟩) (q2 := q3) (by unfold constRQ; rw [if_pos rfl, h2]; dsimp only; rw [h3])
  rw [hR]
  have C1 := ref3_num g L vb vP vI vF vM q 1 w h.rx (by omega) 1 rfl
  rw [h1] at C1
  have c1 := h.rx.c1
  have H0 := Lib.hid h
  have H1c := Lib.hid h1c
  have H2 := Lib.hid h2
  have H2c := Lib.hid h2c
  have H3 := Lib.hid h3
  have H3c := Lib.hid h3c
  have h22 : n2 ≤ 4294967295 := by omega
  clear h2 h2c h3 h3c h21
  clear h h1 h1c hR
  go_enter Try.func19, Try.ntmps19
  go_wp2_with fail
  refine C1.mono ?_
  rintro e w1 ⟨rfl, hx1⟩
  have K1 := Lib.hid (H0.out.rg hx1 H1c.out)
  have T1 := Lib.hid (hx1.2.mono (S' := fun b => g ≤ b) fun b hb => by omega)
  clear hx1 C1 H0
  go_upto_region 2 with fail
  have Z2 := Lib.hid (K1.out.lay 58 #[.int .i64 1, .string ⟨#[]⟩, .int .i64 0, .int .i64 0, .int .i64 0])
  have T2 := Lib.hid (T1.out.alloc (.cells #[.int .i64 1, .string ⟨#[]⟩, .int .i64 0, .int .i64 0, .int .i64 0] 58))
  obtain ⟨z, hz⟩ : ∃ z, z = w1.heap.size := ⟨_, rfl⟩
  rw [← hz] at Z2 ⊢
  generalize w1.alloc (.cells #[.int .i64 1, .string ⟨#[]⟩, .int .i64 0, .int .i64 0, .int .i64 0] 58) = W2 at *
  have e0 := Z2.out.zb.cell 0
  simp only [List.getElem?_toArray, List.getElem?_cons_zero] at e0
  clear K1 T1 hz
  have C2 := ref3_num g L vb vP vI vF vM q1 2 W2 Z2.out.rx (by omega) 2 rfl
  rw [H2.out] at C2
  go_wp2_with fail
  refine C2.mono ?_
  rintro e w2 ⟨rfl, hx2⟩
  have Z3 := Lib.hid (Z2.out.rg hx2 H2c.out)
  have T3 := Lib.hid (T2.out.trans hx2.2 fun b hb => .inl (by omega))
  clear hx2 C2 Z2 T2 e0
  have C3 := ref3_bytes g L vb vP vI vF vM q2 n2 w2 Z3.out.rx ⟨h20, h22⟩
  rw [H3.out] at C3
  go_wp2_with fail
  refine C3.mono ?_
  rintro e w3 ⟨v3, rfl, ho3, hx3⟩
  have Z4 := Lib.hid (Z3.out.rg hx3 H3c.out)
  have T4 := Lib.hid (T3.out.trans hx3.2 fun b hb => .inl (by omega))
  have hcv : (convert 22 9 v3).run Try.prog w3 = .ok (.string ⟨l3.toArray⟩) w3 := conv_bytes (Rd.of_own ho3)
  have e1 := Z4.out.zb.cell 1
  simp only [List.getElem?_toArray, List.getElem?_cons_succ, List.getElem?_cons_zero] at e1
  have f1 := Z4.out.zb.frozen 1
  have lz := Z4.out.zb.lt
  clear hx3 ho3 C3 Z3 T3
  go_upto_region 17 with fail
  have Z9 : Hid (QZ g L vb q3 mv vP vI vF vM w1 z 58 (encC ⟨1, ⟨l3.toArray⟩, 0, 0, 0⟩).toArray (w3.setCell ⟨z, 1, none⟩ (.string ⟨l3.toArray⟩))) := Lib.hid (by simpa [encC] using Z4.out.put 1 (.string ⟨l3.toArray⟩))
  have T9 := Lib.hid (T4.out.setCell (p := ⟨z, 1, none⟩) (.inl (by have := Z4.out.gz; have := Z4.out.hz; show g ≤ z; omega)) (.string ⟨l3.toArray⟩))
  clear Z4 T4 e1 f1 lz hcv
  generalize w3.setCell ⟨z, 1, none⟩ (.string ⟨l3.toArray⟩) = W9 at *
  have HPL := Lib.hid (show q3.c.pool.length + 1 ≤ 65536 by rw [H3c.out, H2c.out, H1c.out]; omega)
  have K9 := Lib.hid Z9.out.qx
  have c8 := K9.out.rx.cell 8 _ rfl
  have f8 := K9.out.rx.blk.frozen 8
  have lg := K9.out.rx.blk.lt
  have d0 := Z9.out.zb.cell 0
  have d1 := Z9.out.zb.cell 1
  have d2 := Z9.out.zb.cell 2
  have d3 := Z9.out.zb.cell 3
  have d4 := Z9.out.zb.cell 4
  simp only [encC, List.getElem?_toArray, List.getElem?_cons_succ, List.getElem?_cons_zero] at d0 d1 d2 d3 d4
  have lz := Z9.out.zb.lt
  obtain ⟨aP, cP, rfl, -, -⟩ := own_slice K9.out.rows.p
  go_region_law (first
    | (refine step_pushD _ elem_const rfl (.tmp 53) (.tmp 55) rfl (g + 1) _ q3.c.pool.length _ rfl K9.out.drew.rows.p (encC ⟨1, ⟨l3.toArray⟩, 0, 0, 0⟩) _ _ rfl rfl rfl (by intro u hu; simp [encC] at hu; rcases hu with rfl | rfl | rfl | rfl | rfl <;> rfl) (by have := HPL.out; omega) (by have := HPL.out; omega) (by omega) ?_
       intro v5 w9 ho5 hg5 hk5
       obtain ⟨a5, e5, rfl, -, -⟩ := own_slice (n := q3.c.pool.length + 1) ho5
       obtain ⟨y8, i8, l8⟩ := QX.grow K9.out.drew K9.out.drew.rows.p hg5 8 _ rfl
       have HQ := Lib.hid (QX.push (v := .slice a5 (q3.c.pool.length + 1) e5) (q' := { q3 with c := { q3.c with pool := q3.c.pool ++ [⟨1, ⟨l3.toArray⟩, 0, 0, 0⟩] } }) K9.out.drew K9.out.drew.rows.p hg5 8 (CR.pushP K9.out.drew.rows hg5 ho5) rfl rfl rfl (by rw [List.length_append]; exact HPL.out))
       have HTT := Lib.hid (((T9.out.trans (S' := fun b => g ≤ b) (Touch.refl _ _).drew fun b hb => .inl hb).trans (Touch.of_grown (S := fun b => g ≤ b) hg5 fun k hk => by have := (K9.out.rows.p.lt k hk).1; omega) fun b hb => .inl hb).setCell (p := ⟨g, 8, none⟩) (.inl (Nat.le_refl g)) (.slice a5 (q3.c.pool.length + 1) e5))
       clear ho5 hg5 hk5))
  all_goals
    exact bodyPost_end (results_none rfl _ _ _) rfl ⟨rfl, _, HQ.out, HTT.out⟩
set_option maxHeartbeats 4000000 in
theorem ref3_constant_3 (g : Nat) (L : List UInt8) (vb : Value) (q : QS) (mv : List (MethC × Value × Value)) (vP vI vF vM : Value) (w : World) (h : QX g L vb q mv vP vI vF vM w) (hp : q.c.pool.length ≤ 65535) (q1 : QS) (h1 : numQ L 1 q = (3, q1)) :
    Calls Try.prog 19 #[.pointer (some ⟨g, 0, none⟩)] w (ConstQ g L vb (constQ L q) mv vI vF vM w) := by
  have h1c : q1.c = q.c := by have := num_c L 1 q; rw [h1] at this; exact this
  obtain ⟨n2, q2, h2, h2c, h20, h21⟩ := num_eq4 L q1
  have hw : wrap32 n2 = wrapW n2 := by unfold wrap32 wrapW; split <;> omega
  have HW := Lib.hid hw
  clear hw
  have hR := const_q L q h1 (x := ⟨3, ⟨#[]⟩, wrapW n2, 0, 0⟩) (q2 := q2) (by unfold constRQ; rw [if_neg (by decide), if_pos rfl, h2])
  rw [hR]
  have C1 := ref3_num g L vb vP vI vF vM q 1 w h.rx (by omega) 1 rfl
  rw [h1] at C1
  have c1 := h.rx.c1
  have H0 := Lib.hid h
  have H1c := Lib.hid h1c
  have H2 := Lib.hid h2
  have H2c := Lib.hid h2c
  clear h2 h2c
  clear h h1 h1c hR
  go_enter Try.func19, Try.ntmps19
  go_wp2_with fail
  refine C1.mono ?_
  rintro e w1 ⟨rfl, hx1⟩
  have K1 := Lib.hid (H0.out.rg hx1 H1c.out)
  have T1 := Lib.hid (hx1.2.mono (S' := fun b => g ≤ b) fun b hb => by omega)
  clear hx1 C1 H0
  go_upto_region 2 with fail
  have Z2 := Lib.hid (K1.out.lay 58 #[.int .i64 3, .string ⟨#[]⟩, .int .i64 0, .int .i64 0, .int .i64 0])
  have T2 := Lib.hid (T1.out.alloc (.cells #[.int .i64 3, .string ⟨#[]⟩, .int .i64 0, .int .i64 0, .int .i64 0] 58))
  obtain ⟨z, hz⟩ : ∃ z, z = w1.heap.size := ⟨_, rfl⟩
  rw [← hz] at Z2 ⊢
  generalize w1.alloc (.cells #[.int .i64 3, .string ⟨#[]⟩, .int .i64 0, .int .i64 0, .int .i64 0] 58) = W2 at *
  have e0 := Z2.out.zb.cell 0
  simp only [List.getElem?_toArray, List.getElem?_cons_zero] at e0
  clear K1 T1 hz
  have C2 := ref3_num g L vb vP vI vF vM q1 4 W2 Z2.out.rx (by omega) 4 rfl
  rw [H2.out] at C2
  go_wp2_with fail
  refine C2.mono ?_
  rintro e w2 ⟨rfl, hx2⟩
  have Z3 := Lib.hid (Z2.out.rg hx2 H2c.out)
  have T3 := Lib.hid (T2.out.trans hx2.2 fun b hb => .inl (by omega))
  clear hx2 C2 Z2 T2 e0
  go_wp2_with fail
  refine (ref1_Wrap n2 _).mono ?_
  rintro e w4 ⟨rfl, rfl⟩
  rw [HW.out]
  have e1 := Z3.out.zb.cell 2
  simp only [List.getElem?_toArray, List.getElem?_cons_succ, List.getElem?_cons_zero] at e1
  have f1 := Z3.out.zb.frozen 2
  have lz := Z3.out.zb.lt
  go_upto_region 17 with fail
  have Z9 : Hid (QZ g L vb q2 mv vP vI vF vM w1 z 58 (encC ⟨3, ⟨#[]⟩, wrapW n2, 0, 0⟩).toArray (w2.setCell ⟨z, 2, none⟩ (.int .i64 (wrapW n2)))) := Lib.hid (by simpa [encC] using Z3.out.put 2 (.int .i64 (wrapW n2)))
  have T9 := Lib.hid (T3.out.setCell (p := ⟨z, 2, none⟩) (.inl (by have := Z3.out.gz; have := Z3.out.hz; show g ≤ z; omega)) (.int .i64 (wrapW n2)))
  clear Z3 T3 e1 f1 lz
  generalize w2.setCell ⟨z, 2, none⟩ (.int .i64 (wrapW n2)) = W9 at *
  have HPL := Lib.hid (show q2.c.pool.length + 1 ≤ 65536 by rw [H2c.out, H1c.out]; omega)
  have K9 := Lib.hid Z9.out.qx
  have c8 := K9.out.rx.cell 8 _ rfl
  have f8 := K9.out.rx.blk.frozen 8
  have lg := K9.out.rx.blk.lt
  have d0 := Z9.out.zb.cell 0
  have d1 := Z9.out.zb.cell 1
  have d2 := Z9.out.zb.cell 2
  have d3 := Z9.out.zb.cell 3
  have d4 := Z9.out.zb.cell 4
  simp only [encC, List.getElem?_toArray, List.getElem?_cons_succ, List.getElem?_cons_zero] at d0 d1 d2 d3 d4
  have lz := Z9.out.zb.lt
  obtain ⟨aP, cP, rfl, -, -⟩ := own_slice K9.out.rows.p
  go_region_law (first
    | (refine step_pushD _ elem_const rfl (.tmp 53) (.tmp 55) rfl (g + 1) _ q2.c.pool.length _ rfl K9.out.drew.rows.p (encC ⟨3, ⟨#[]⟩, wrapW n2, 0, 0⟩) _ _ rfl rfl rfl (by intro u hu; simp [encC] at hu; rcases hu with rfl | rfl | rfl | rfl | rfl <;> rfl) (by have := HPL.out; omega) (by have := HPL.out; omega) (by omega) ?_
       intro v5 w9 ho5 hg5 hk5
       obtain ⟨a5, e5, rfl, -, -⟩ := own_slice (n := q2.c.pool.length + 1) ho5
       obtain ⟨y8, i8, l8⟩ := QX.grow K9.out.drew K9.out.drew.rows.p hg5 8 _ rfl
       have HQ := Lib.hid (QX.push (v := .slice a5 (q2.c.pool.length + 1) e5) (q' := { q2 with c := { q2.c with pool := q2.c.pool ++ [⟨3, ⟨#[]⟩, wrapW n2, 0, 0⟩] } }) K9.out.drew K9.out.drew.rows.p hg5 8 (CR.pushP K9.out.drew.rows hg5 ho5) rfl rfl rfl (by rw [List.length_append]; exact HPL.out))
       have HTT := Lib.hid (((T9.out.trans (S' := fun b => g ≤ b) (Touch.refl _ _).drew fun b hb => .inl hb).trans (Touch.of_grown (S := fun b => g ≤ b) hg5 fun k hk => by have := (K9.out.rows.p.lt k hk).1; omega) fun b hb => .inl hb).setCell (p := ⟨g, 8, none⟩) (.inl (Nat.le_refl g)) (.slice a5 (q2.c.pool.length + 1) e5))
       clear ho5 hg5 hk5))
  all_goals
    exact bodyPost_end (results_none rfl _ _ _) rfl ⟨rfl, _, HQ.out, HTT.out⟩
set_option maxHeartbeats 4000000 in
theorem ref3_constant_7 (g : Nat) (L : List UInt8) (vb : Value) (q : QS) (mv : List (MethC × Value × Value)) (vP vI vF vM : Value) (w : World) (h : QX g L vb q mv vP vI vF vM w) (hp : q.c.pool.length ≤ 65535) (q1 : QS) (h1 : numQ L 1 q = (7, q1)) :
    Calls Try.prog 19 #[.pointer (some ⟨g, 0, none⟩)] w (ConstQ g L vb (constQ L q) mv vI vF vM w) := by
  have h1c : q1.c = q.c := by have := num_c L 1 q; rw [h1] at this; exact this
  obtain ⟨n2, q2, h2, h2c, h20, h21⟩ := num_eq2 L q1
  have hR := const_q L q h1 (x := ⟨7, ⟨#[]⟩, 0, n2, 0⟩) (q2 := q2) (by unfold constRQ; rw [if_neg (by decide), if_neg (by decide), if_pos rfl, h2])
  rw [hR]
  have C1 := ref3_num g L vb vP vI vF vM q 1 w h.rx (by omega) 1 rfl
  rw [h1] at C1
  have c1 := h.rx.c1
  have H0 := Lib.hid h
  have H1c := Lib.hid h1c
  have H2 := Lib.hid h2
  have H2c := Lib.hid h2c
  clear h2 h2c
  clear h h1 h1c hR
  go_enter Try.func19, Try.ntmps19
  go_wp2_with fail
  refine C1.mono ?_
  rintro e w1 ⟨rfl, hx1⟩
  have K1 := Lib.hid (H0.out.rg hx1 H1c.out)
  have T1 := Lib.hid (hx1.2.mono (S' := fun b => g ≤ b) fun b hb => by omega)
  clear hx1 C1 H0
  go_upto_region 2 with fail
  have Z2 := Lib.hid (K1.out.lay 58 #[.int .i64 7, .string ⟨#[]⟩, .int .i64 0, .int .i64 0, .int .i64 0])
  have T2 := Lib.hid (T1.out.alloc (.cells #[.int .i64 7, .string ⟨#[]⟩, .int .i64 0, .int .i64 0, .int .i64 0] 58))
  obtain ⟨z, hz⟩ : ∃ z, z = w1.heap.size := ⟨_, rfl⟩
  rw [← hz] at Z2 ⊢
  generalize w1.alloc (.cells #[.int .i64 7, .string ⟨#[]⟩, .int .i64 0, .int .i64 0, .int .i64 0] 58) = W2 at *
  have e0 := Z2.out.zb.cell 0
  simp only [List.getElem?_toArray, List.getElem?_cons_zero] at e0
  clear K1 T1 hz
  have C2 := ref3_num g L vb vP vI vF vM q1 2 W2 Z2.out.rx (by omega) 2 rfl
  rw [H2.out] at C2
  go_wp2_with fail
  refine C2.mono ?_
  rintro e w2 ⟨rfl, hx2⟩
  have Z3 := Lib.hid (Z2.out.rg hx2 H2c.out)
  have T3 := Lib.hid (T2.out.trans hx2.2 fun b hb => .inl (by omega))
  clear hx2 C2 Z2 T2 e0
  have e1 := Z3.out.zb.cell 3
  simp only [List.getElem?_toArray, List.getElem?_cons_succ, List.getElem?_cons_zero] at e1
  have f1 := Z3.out.zb.frozen 3
  have lz := Z3.out.zb.lt
  go_upto_region 17 with fail
  have Z9 : Hid (QZ g L vb q2 mv vP vI vF vM w1 z 58 (encC ⟨7, ⟨#[]⟩, 0, n2, 0⟩).toArray (w2.setCell ⟨z, 3, none⟩ (.int .i64 n2))) := Lib.hid (by simpa [encC] using Z3.out.put 3 (.int .i64 n2))
  have T9 := Lib.hid (T3.out.setCell (p := ⟨z, 3, none⟩) (.inl (by have := Z3.out.gz; have := Z3.out.hz; show g ≤ z; omega)) (.int .i64 n2))
  clear Z3 T3 e1 f1 lz
  generalize w2.setCell ⟨z, 3, none⟩ (.int .i64 n2) = W9 at *
  have HPL := Lib.hid (show q2.c.pool.length + 1 ≤ 65536 by rw [H2c.out, H1c.out]; omega)
  have K9 := Lib.hid Z9.out.qx
  have c8 := K9.out.rx.cell 8 _ rfl
  have f8 := K9.out.rx.blk.frozen 8
  have lg := K9.out.rx.blk.lt
  have d0 := Z9.out.zb.cell 0
  have d1 := Z9.out.zb.cell 1
  have d2 := Z9.out.zb.cell 2
  have d3 := Z9.out.zb.cell 3
  have d4 := Z9.out.zb.cell 4
  simp only [encC, List.getElem?_toArray, List.getElem?_cons_succ, List.getElem?_cons_zero] at d0 d1 d2 d3 d4
  have lz := Z9.out.zb.lt
  obtain ⟨aP, cP, rfl, -, -⟩ := own_slice K9.out.rows.p
  go_region_law (first
    | (refine step_pushD _ elem_const rfl (.tmp 53) (.tmp 55) rfl (g + 1) _ q2.c.pool.length _ rfl K9.out.drew.rows.p (encC ⟨7, ⟨#[]⟩, 0, n2, 0⟩) _ _ rfl rfl rfl (by intro u hu; simp [encC] at hu; rcases hu with rfl | rfl | rfl | rfl | rfl <;> rfl) (by have := HPL.out; omega) (by have := HPL.out; omega) (by omega) ?_
       intro v5 w9 ho5 hg5 hk5
       obtain ⟨a5, e5, rfl, -, -⟩ := own_slice (n := q2.c.pool.length + 1) ho5
       obtain ⟨y8, i8, l8⟩ := QX.grow K9.out.drew K9.out.drew.rows.p hg5 8 _ rfl
       have HQ := Lib.hid (QX.push (v := .slice a5 (q2.c.pool.length + 1) e5) (q' := { q2 with c := { q2.c with pool := q2.c.pool ++ [⟨7, ⟨#[]⟩, 0, n2, 0⟩] } }) K9.out.drew K9.out.drew.rows.p hg5 8 (CR.pushP K9.out.drew.rows hg5 ho5) rfl rfl rfl (by rw [List.length_append]; exact HPL.out))
       have HTT := Lib.hid (((T9.out.trans (S' := fun b => g ≤ b) (Touch.refl _ _).drew fun b hb => .inl hb).trans (Touch.of_grown (S := fun b => g ≤ b) hg5 fun k hk => by have := (K9.out.rows.p.lt k hk).1; omega) fun b hb => .inl hb).setCell (p := ⟨g, 8, none⟩) (.inl (Nat.le_refl g)) (.slice a5 (q2.c.pool.length + 1) e5))
       clear ho5 hg5 hk5))
  all_goals
    exact bodyPost_end (results_none rfl _ _ _) rfl ⟨rfl, _, HQ.out, HTT.out⟩
set_option maxHeartbeats 4000000 in
theorem ref3_constant_9 (g : Nat) (L : List UInt8) (vb : Value) (q : QS) (mv : List (MethC × Value × Value)) (vP vI vF vM : Value) (w : World) (h : QX g L vb q mv vP vI vF vM w) (hp : q.c.pool.length ≤ 65535) (q1 : QS) (h1 : numQ L 1 q = (9, q1)) :
    Calls Try.prog 19 #[.pointer (some ⟨g, 0, none⟩)] w (ConstQ g L vb (constQ L q) mv vI vF vM w) := by
  have h1c : q1.c = q.c := by have := num_c L 1 q; rw [h1] at this; exact this
  obtain ⟨n2, q2, h2, h2c, h20, h21⟩ := num_eq2 L q1
  obtain ⟨n3, q3, h3, h3c, h30, h31⟩ := num_eq2 L q2
  have hR := const_q L q h1 (x := ⟨9, ⟨#[]⟩, 0, n2, n3⟩) (q2 := q3) (by unfold constRQ; rw [if_neg (by decide), if_neg (by decide), if_neg (by decide), if_pos (by decide), h2]; dsimp only; rw [h3])
  rw [hR]
  have C1 := ref3_num g L vb vP vI vF vM q 1 w h.rx (by omega) 1 rfl
  rw [h1] at C1
  have c1 := h.rx.c1
  have H0 := Lib.hid h
  have H1c := Lib.hid h1c
  have H2 := Lib.hid h2
  have H2c := Lib.hid h2c
  have H3 := Lib.hid h3
  have H3c := Lib.hid h3c
  clear h2 h2c h3 h3c
  clear h h1 h1c hR
  go_enter Try.func19, Try.ntmps19
  go_wp2_with fail
  refine C1.mono ?_
  rintro e w1 ⟨rfl, hx1⟩
  have K1 := Lib.hid (H0.out.rg hx1 H1c.out)
  have T1 := Lib.hid (hx1.2.mono (S' := fun b => g ≤ b) fun b hb => by omega)
  clear hx1 C1 H0
  go_upto_region 2 with fail
  have Z2 := Lib.hid (K1.out.lay 58 #[.int .i64 9, .string ⟨#[]⟩, .int .i64 0, .int .i64 0, .int .i64 0])
  have T2 := Lib.hid (T1.out.alloc (.cells #[.int .i64 9, .string ⟨#[]⟩, .int .i64 0, .int .i64 0, .int .i64 0] 58))
  obtain ⟨z, hz⟩ : ∃ z, z = w1.heap.size := ⟨_, rfl⟩
  rw [← hz] at Z2 ⊢
  generalize w1.alloc (.cells #[.int .i64 9, .string ⟨#[]⟩, .int .i64 0, .int .i64 0, .int .i64 0] 58) = W2 at *
  have e0 := Z2.out.zb.cell 0
  simp only [List.getElem?_toArray, List.getElem?_cons_zero] at e0
  clear K1 T1 hz
  have C2 := ref3_num g L vb vP vI vF vM q1 2 W2 Z2.out.rx (by omega) 2 rfl
  rw [H2.out] at C2
  go_wp2_with fail
  refine C2.mono ?_
  rintro e w2 ⟨rfl, hx2⟩
  have Z3 := Lib.hid (Z2.out.rg hx2 H2c.out)
  have T3 := Lib.hid (T2.out.trans hx2.2 fun b hb => .inl (by omega))
  clear hx2 C2 Z2 T2 e0
  have e1 := Z3.out.zb.cell 3
  simp only [List.getElem?_toArray, List.getElem?_cons_succ, List.getElem?_cons_zero] at e1
  have f1 := Z3.out.zb.frozen 3
  have lz := Z3.out.zb.lt
  go_upto_region 16 with fail
  have Y3 : Hid (QZ g L vb q2 mv vP vI vF vM w1 z 58 #[.int .i64 9, .string ⟨#[]⟩, .int .i64 0, .int .i64 n2, .int .i64 0] (w2.setCell ⟨z, 3, none⟩ (.int .i64 n2))) := Lib.hid (by simpa using Z3.out.put 3 (.int .i64 n2))
  have S3 := Lib.hid (T3.out.setCell (p := ⟨z, 3, none⟩) (.inl (by have := Z3.out.gz; have := Z3.out.hz; show g ≤ z; omega)) (.int .i64 n2))
  clear Z3 T3 e1 f1 lz
  generalize w2.setCell ⟨z, 3, none⟩ (.int .i64 n2) = W3 at *
  have Z3 := Lib.hid Y3.out
  have T3 := Lib.hid S3.out
  clear Y3 S3
  have C3 := ref3_num g L vb vP vI vF vM q2 2 W3 Z3.out.rx (by omega) 2 rfl
  rw [H3.out] at C3
  go_wp2_with fail
  refine C3.mono ?_
  rintro e w3 ⟨rfl, hx3⟩
  have Z4 := Lib.hid (Z3.out.rg hx3 H3c.out)
  have T4 := Lib.hid (T3.out.trans hx3.2 fun b hb => .inl (by omega))
  clear hx3 C3 Z3 T3
  have e1 := Z4.out.zb.cell 4
  simp only [List.getElem?_toArray, List.getElem?_cons_succ, List.getElem?_cons_zero] at e1
  have f1 := Z4.out.zb.frozen 4
  have lz := Z4.out.zb.lt
  go_upto_region 17 with fail
  have Z9 : Hid (QZ g L vb q3 mv vP vI vF vM w1 z 58 (encC ⟨9, ⟨#[]⟩, 0, n2, n3⟩).toArray (w3.setCell ⟨z, 4, none⟩ (.int .i64 n3))) := Lib.hid (by simpa [encC] using Z4.out.put 4 (.int .i64 n3))
  have T9 := Lib.hid (T4.out.setCell (p := ⟨z, 4, none⟩) (.inl (by have := Z4.out.gz; have := Z4.out.hz; show g ≤ z; omega)) (.int .i64 n3))
  clear Z4 T4 e1 f1 lz
  generalize w3.setCell ⟨z, 4, none⟩ (.int .i64 n3) = W9 at *
  have HPL := Lib.hid (show q3.c.pool.length + 1 ≤ 65536 by rw [H3c.out, H2c.out, H1c.out]; omega)
  have K9 := Lib.hid Z9.out.qx
  have c8 := K9.out.rx.cell 8 _ rfl
  have f8 := K9.out.rx.blk.frozen 8
  have lg := K9.out.rx.blk.lt
  have d0 := Z9.out.zb.cell 0
  have d1 := Z9.out.zb.cell 1
  have d2 := Z9.out.zb.cell 2
  have d3 := Z9.out.zb.cell 3
  have d4 := Z9.out.zb.cell 4
  simp only [encC, List.getElem?_toArray, List.getElem?_cons_succ, List.getElem?_cons_zero] at d0 d1 d2 d3 d4
  have lz := Z9.out.zb.lt
  obtain ⟨aP, cP, rfl, -, -⟩ := own_slice K9.out.rows.p
  go_region_law (first
    | (refine step_pushD _ elem_const rfl (.tmp 53) (.tmp 55) rfl (g + 1) _ q3.c.pool.length _ rfl K9.out.drew.rows.p (encC ⟨9, ⟨#[]⟩, 0, n2, n3⟩) _ _ rfl rfl rfl (by intro u hu; simp [encC] at hu; rcases hu with rfl | rfl | rfl | rfl | rfl <;> rfl) (by have := HPL.out; omega) (by have := HPL.out; omega) (by omega) ?_
       intro v5 w9 ho5 hg5 hk5
       obtain ⟨a5, e5, rfl, -, -⟩ := own_slice (n := q3.c.pool.length + 1) ho5
       obtain ⟨y8, i8, l8⟩ := QX.grow K9.out.drew K9.out.drew.rows.p hg5 8 _ rfl
       have HQ := Lib.hid (QX.push (v := .slice a5 (q3.c.pool.length + 1) e5) (q' := { q3 with c := { q3.c with pool := q3.c.pool ++ [⟨9, ⟨#[]⟩, 0, n2, n3⟩] } }) K9.out.drew K9.out.drew.rows.p hg5 8 (CR.pushP K9.out.drew.rows hg5 ho5) rfl rfl rfl (by rw [List.length_append]; exact HPL.out))
       have HTT := Lib.hid (((T9.out.trans (S' := fun b => g ≤ b) (Touch.refl _ _).drew fun b hb => .inl hb).trans (Touch.of_grown (S := fun b => g ≤ b) hg5 fun k hk => by have := (K9.out.rows.p.lt k hk).1; omega) fun b hb => .inl hb).setCell (p := ⟨g, 8, none⟩) (.inl (Nat.le_refl g)) (.slice a5 (q3.c.pool.length + 1) e5))
       clear ho5 hg5 hk5))
  all_goals
    exact bodyPost_end (results_none rfl _ _ _) rfl ⟨rfl, _, HQ.out, HTT.out⟩
set_option maxHeartbeats 4000000 in
theorem ref3_constant_10 (g : Nat) (L : List UInt8) (vb : Value) (q : QS) (mv : List (MethC × Value × Value)) (vP vI vF vM : Value) (w : World) (h : QX g L vb q mv vP vI vF vM w) (hp : q.c.pool.length ≤ 65535) (q1 : QS) (h1 : numQ L 1 q = (10, q1)) :
    Calls Try.prog 19 #[.pointer (some ⟨g, 0, none⟩)] w (ConstQ g L vb (constQ L q) mv vI vF vM w) := by
  have h1c : q1.c = q.c := by have := num_c L 1 q; rw [h1] at this; exact this
  obtain ⟨n2, q2, h2, h2c, h20, h21⟩ := num_eq2 L q1
  obtain ⟨n3, q3, h3, h3c, h30, h31⟩ := num_eq2 L q2
  have hR := const_q L q h1 (x := ⟨10, ⟨#[]⟩, 0, n2, n3⟩) (q2 := q3) (by unfold constRQ; rw [if_neg (by decide), if_neg (by decide), if_neg (by decide), if_pos (by decide), h2]; dsimp only; rw [h3])
  rw [hR]
  have C1 := ref3_num g L vb vP vI vF vM q 1 w h.rx (by omega) 1 rfl
  rw [h1] at C1
  have c1 := h.rx.c1
  have H0 := Lib.hid h
  have H1c := Lib.hid h1c
  have H2 := Lib.hid h2
  have H2c := Lib.hid h2c
  have H3 := Lib.hid h3
  have H3c := Lib.hid h3c
  clear h2 h2c h3 h3c
  clear h h1 h1c hR
  go_enter Try.func19, Try.ntmps19
  go_wp2_with fail
  refine C1.mono ?_
  rintro e w1 ⟨rfl, hx1⟩
  have K1 := Lib.hid (H0.out.rg hx1 H1c.out)
  have T1 := Lib.hid (hx1.2.mono (S' := fun b => g ≤ b) fun b hb => by omega)
  clear hx1 C1 H0
  go_upto_region 2 with fail
  have Z2 := Lib.hid (K1.out.lay 58 #[.int .i64 10, .string ⟨#[]⟩, .int .i64 0, .int .i64 0, .int .i64 0])
  have T2 := Lib.hid (T1.out.alloc (.cells #[.int .i64 10, .string ⟨#[]⟩, .int .i64 0, .int .i64 0, .int .i64 0] 58))
  obtain ⟨z, hz⟩ : ∃ z, z = w1.heap.size := ⟨_, rfl⟩
  rw [← hz] at Z2 ⊢
  generalize w1.alloc (.cells #[.int .i64 10, .string ⟨#[]⟩, .int .i64 0, .int .i64 0, .int .i64 0] 58) = W2 at *
  have e0 := Z2.out.zb.cell 0
  simp only [List.getElem?_toArray, List.getElem?_cons_zero] at e0
  clear K1 T1 hz
  have C2 := ref3_num g L vb vP vI vF vM q1 2 W2 Z2.out.rx (by omega) 2 rfl
  rw [H2.out] at C2
  go_wp2_with fail
  refine C2.mono ?_
  rintro e w2 ⟨rfl, hx2⟩
  have Z3 := Lib.hid (Z2.out.rg hx2 H2c.out)
  have T3 := Lib.hid (T2.out.trans hx2.2 fun b hb => .inl (by omega))
  clear hx2 C2 Z2 T2 e0
  have e1 := Z3.out.zb.cell 3
  simp only [List.getElem?_toArray, List.getElem?_cons_succ, List.getElem?_cons_zero] at e1
  have f1 := Z3.out.zb.frozen 3
  have lz := Z3.out.zb.lt
  go_upto_region 16 with fail
  have Y3 : Hid (QZ g L vb q2 mv vP vI vF vM w1 z 58 #[.int .i64 10, .string ⟨#[]⟩, .int .i64 0, .int .i64 n2, .int .i64 0] (w2.setCell ⟨z, 3, none⟩ (.int .i64 n2))) := Lib.hid (by simpa using Z3.out.put 3 (.int .i64 n2))
  have S3 := Lib.hid (T3.out.setCell (p := ⟨z, 3, none⟩) (.inl (by have := Z3.out.gz; have := Z3.out.hz; show g ≤ z; omega)) (.int .i64 n2))
  clear Z3 T3 e1 f1 lz
  generalize w2.setCell ⟨z, 3, none⟩ (.int .i64 n2) = W3 at *
  have Z3 := Lib.hid Y3.out
  have T3 := Lib.hid S3.out
  clear Y3 S3
  have C3 := ref3_num g L vb vP vI vF vM q2 2 W3 Z3.out.rx (by omega) 2 rfl
  rw [H3.out] at C3
  go_wp2_with fail
  refine C3.mono ?_
  rintro e w3 ⟨rfl, hx3⟩
  have Z4 := Lib.hid (Z3.out.rg hx3 H3c.out)
  have T4 := Lib.hid (T3.out.trans hx3.2 fun b hb => .inl (by omega))
  clear hx3 C3 Z3 T3
  have e1 := Z4.out.zb.cell 4
  simp only [List.getElem?_toArray, List.getElem?_cons_succ, List.getElem?_cons_zero] at e1
  have f1 := Z4.out.zb.frozen 4
  have lz := Z4.out.zb.lt
  go_upto_region 17 with fail
  have Z9 : Hid (QZ g L vb q3 mv vP vI vF vM w1 z 58 (encC ⟨10, ⟨#[]⟩, 0, n2, n3⟩).toArray (w3.setCell ⟨z, 4, none⟩ (.int .i64 n3))) := Lib.hid (by simpa [encC] using Z4.out.put 4 (.int .i64 n3))
  have T9 := Lib.hid (T4.out.setCell (p := ⟨z, 4, none⟩) (.inl (by have := Z4.out.gz; have := Z4.out.hz; show g ≤ z; omega)) (.int .i64 n3))
  clear Z4 T4 e1 f1 lz
  generalize w3.setCell ⟨z, 4, none⟩ (.int .i64 n3) = W9 at *
  have HPL := Lib.hid (show q3.c.pool.length + 1 ≤ 65536 by rw [H3c.out, H2c.out, H1c.out]; omega)
  have K9 := Lib.hid Z9.out.qx
  have c8 := K9.out.rx.cell 8 _ rfl
  have f8 := K9.out.rx.blk.frozen 8
  have lg := K9.out.rx.blk.lt
  have d0 := Z9.out.zb.cell 0
  have d1 := Z9.out.zb.cell 1
  have d2 := Z9.out.zb.cell 2
  have d3 := Z9.out.zb.cell 3
  have d4 := Z9.out.zb.cell 4
  simp only [encC, List.getElem?_toArray, List.getElem?_cons_succ, List.getElem?_cons_zero] at d0 d1 d2 d3 d4
  have lz := Z9.out.zb.lt
  obtain ⟨aP, cP, rfl, -, -⟩ := own_slice K9.out.rows.p
  go_region_law (first
    | (refine step_pushD _ elem_const rfl (.tmp 53) (.tmp 55) rfl (g + 1) _ q3.c.pool.length _ rfl K9.out.drew.rows.p (encC ⟨10, ⟨#[]⟩, 0, n2, n3⟩) _ _ rfl rfl rfl (by intro u hu; simp [encC] at hu; rcases hu with rfl | rfl | rfl | rfl | rfl <;> rfl) (by have := HPL.out; omega) (by have := HPL.out; omega) (by omega) ?_
       intro v5 w9 ho5 hg5 hk5
       obtain ⟨a5, e5, rfl, -, -⟩ := own_slice (n := q3.c.pool.length + 1) ho5
       obtain ⟨y8, i8, l8⟩ := QX.grow K9.out.drew K9.out.drew.rows.p hg5 8 _ rfl
       have HQ := Lib.hid (QX.push (v := .slice a5 (q3.c.pool.length + 1) e5) (q' := { q3 with c := { q3.c with pool := q3.c.pool ++ [⟨10, ⟨#[]⟩, 0, n2, n3⟩] } }) K9.out.drew K9.out.drew.rows.p hg5 8 (CR.pushP K9.out.drew.rows hg5 ho5) rfl rfl rfl (by rw [List.length_append]; exact HPL.out))
       have HTT := Lib.hid (((T9.out.trans (S' := fun b => g ≤ b) (Touch.refl _ _).drew fun b hb => .inl hb).trans (Touch.of_grown (S := fun b => g ≤ b) hg5 fun k hk => by have := (K9.out.rows.p.lt k hk).1; omega) fun b hb => .inl hb).setCell (p := ⟨g, 8, none⟩) (.inl (Nat.le_refl g)) (.slice a5 (q3.c.pool.length + 1) e5))
       clear ho5 hg5 hk5))
  all_goals
    exact bodyPost_end (results_none rfl _ _ _) rfl ⟨rfl, _, HQ.out, HTT.out⟩
set_option maxHeartbeats 4000000 in
theorem ref3_constant_11 (g : Nat) (L : List UInt8) (vb : Value) (q : QS) (mv : List (MethC × Value × Value)) (vP vI vF vM : Value) (w : World) (h : QX g L vb q mv vP vI vF vM w) (hp : q.c.pool.length ≤ 65535) (q1 : QS) (h1 : numQ L 1 q = (11, q1)) :
    Calls Try.prog 19 #[.pointer (some ⟨g, 0, none⟩)] w (ConstQ g L vb (constQ L q) mv vI vF vM w) := by
  have h1c : q1.c = q.c := by have := num_c L 1 q; rw [h1] at this; exact this
  obtain ⟨n2, q2, h2, h2c, h20, h21⟩ := num_eq2 L q1
  obtain ⟨n3, q3, h3, h3c, h30, h31⟩ := num_eq2 L q2
  have hR := const_q L q h1 (x := ⟨11, ⟨#[]⟩, 0, n2, n3⟩) (q2 := q3) (by unfold constRQ; rw [if_neg (by decide), if_neg (by decide), if_neg (by decide), if_pos (by decide), h2]; dsimp only; rw [h3])
  rw [hR]
  have C1 := ref3_num g L vb vP vI vF vM q 1 w h.rx (by omega) 1 rfl
  rw [h1] at C1
  have c1 := h.rx.c1
  have H0 := Lib.hid h
  have H1c := Lib.hid h1c
  have H2 := Lib.hid h2
  have H2c := Lib.hid h2c
  have H3 := Lib.hid h3
  have H3c := Lib.hid h3c
  clear h2 h2c h3 h3c
  clear h h1 h1c hR
  go_enter Try.func19, Try.ntmps19
  go_wp2_with fail
  refine C1.mono ?_
  rintro e w1 ⟨rfl, hx1⟩
  have K1 := Lib.hid (H0.out.rg hx1 H1c.out)
  have T1 := Lib.hid (hx1.2.mono (S' := fun b => g ≤ b) fun b hb => by omega)
  clear hx1 C1 H0
  go_upto_region 2 with fail
  have Z2 := Lib.hid (K1.out.lay 58 #[.int .i64 11, .string ⟨#[]⟩, .int .i64 0, .int .i64 0, .int .i64 0])
  have T2 := Lib.hid (T1.out.alloc (.cells #[.int .i64 11, .string ⟨#[]⟩, .int .i64 0, .int .i64 0, .int .i64 0] 58))
  obtain ⟨z, hz⟩ : ∃ z, z = w1.heap.size := ⟨_, rfl⟩
  rw [← hz] at Z2 ⊢
  generalize w1.alloc (.cells #[.int .i64 11, .string ⟨#[]⟩, .int .i64 0, .int .i64 0, .int .i64 0] 58) = W2 at *
  have e0 := Z2.out.zb.cell 0
  simp only [List.getElem?_toArray, List.getElem?_cons_zero] at e0
  clear K1 T1 hz
  have C2 := ref3_num g L vb vP vI vF vM q1 2 W2 Z2.out.rx (by omega) 2 rfl
  rw [H2.out] at C2
  go_wp2_with fail
  refine C2.mono ?_
  rintro e w2 ⟨rfl, hx2⟩
  have Z3 := Lib.hid (Z2.out.rg hx2 H2c.out)
  have T3 := Lib.hid (T2.out.trans hx2.2 fun b hb => .inl (by omega))
  clear hx2 C2 Z2 T2 e0
  have e1 := Z3.out.zb.cell 3
  simp only [List.getElem?_toArray, List.getElem?_cons_succ, List.getElem?_cons_zero] at e1
  have f1 := Z3.out.zb.frozen 3
  have lz := Z3.out.zb.lt
  go_upto_region 16 with fail
  have Y3 : Hid (QZ g L vb q2 mv vP vI vF vM w1 z 58 #[.int .i64 11, .string ⟨#[]⟩, .int .i64 0, .int .i64 n2, .int .i64 0] (w2.setCell ⟨z, 3, none⟩ (.int .i64 n2))) := Lib.hid (by simpa using Z3.out.put 3 (.int .i64 n2))
  have S3 := Lib.hid (T3.out.setCell (p := ⟨z, 3, none⟩) (.inl (by have := Z3.out.gz; have := Z3.out.hz; show g ≤ z; omega)) (.int .i64 n2))
  clear Z3 T3 e1 f1 lz
  generalize w2.setCell ⟨z, 3, none⟩ (.int .i64 n2) = W3 at *
  have Z3 := Lib.hid Y3.out
  have T3 := Lib.hid S3.out
  clear Y3 S3
  have C3 := ref3_num g L vb vP vI vF vM q2 2 W3 Z3.out.rx (by omega) 2 rfl
  rw [H3.out] at C3
  go_wp2_with fail
  refine C3.mono ?_
  rintro e w3 ⟨rfl, hx3⟩
  have Z4 := Lib.hid (Z3.out.rg hx3 H3c.out)
  have T4 := Lib.hid (T3.out.trans hx3.2 fun b hb => .inl (by omega))
  clear hx3 C3 Z3 T3
  have e1 := Z4.out.zb.cell 4
  simp only [List.getElem?_toArray, List.getElem?_cons_succ, List.getElem?_cons_zero] at e1
  have f1 := Z4.out.zb.frozen 4
  have lz := Z4.out.zb.lt
  go_upto_region 17 with fail
  have Z9 : Hid (QZ g L vb q3 mv vP vI vF vM w1 z 58 (encC ⟨11, ⟨#[]⟩, 0, n2, n3⟩).toArray (w3.setCell ⟨z, 4, none⟩ (.int .i64 n3))) := Lib.hid (by simpa [encC] using Z4.out.put 4 (.int .i64 n3))
  have T9 := Lib.hid (T4.out.setCell (p := ⟨z, 4, none⟩) (.inl (by have := Z4.out.gz; have := Z4.out.hz; show g ≤ z; omega)) (.int .i64 n3))
  clear Z4 T4 e1 f1 lz
  generalize w3.setCell ⟨z, 4, none⟩ (.int .i64 n3) = W9 at *
  have HPL := Lib.hid (show q3.c.pool.length + 1 ≤ 65536 by rw [H3c.out, H2c.out, H1c.out]; omega)
  have K9 := Lib.hid Z9.out.qx
  have c8 := K9.out.rx.cell 8 _ rfl
  have f8 := K9.out.rx.blk.frozen 8
  have lg := K9.out.rx.blk.lt
  have d0 := Z9.out.zb.cell 0
  have d1 := Z9.out.zb.cell 1
  have d2 := Z9.out.zb.cell 2
  have d3 := Z9.out.zb.cell 3
  have d4 := Z9.out.zb.cell 4
  simp only [encC, List.getElem?_toArray, List.getElem?_cons_succ, List.getElem?_cons_zero] at d0 d1 d2 d3 d4
  have lz := Z9.out.zb.lt
  obtain ⟨aP, cP, rfl, -, -⟩ := own_slice K9.out.rows.p
  go_region_law (first
    | (refine step_pushD _ elem_const rfl (.tmp 53) (.tmp 55) rfl (g + 1) _ q3.c.pool.length _ rfl K9.out.drew.rows.p (encC ⟨11, ⟨#[]⟩, 0, n2, n3⟩) _ _ rfl rfl rfl (by intro u hu; simp [encC] at hu; rcases hu with rfl | rfl | rfl | rfl | rfl <;> rfl) (by have := HPL.out; omega) (by have := HPL.out; omega) (by omega) ?_
       intro v5 w9 ho5 hg5 hk5
       obtain ⟨a5, e5, rfl, -, -⟩ := own_slice (n := q3.c.pool.length + 1) ho5
       obtain ⟨y8, i8, l8⟩ := QX.grow K9.out.drew K9.out.drew.rows.p hg5 8 _ rfl
       have HQ := Lib.hid (QX.push (v := .slice a5 (q3.c.pool.length + 1) e5) (q' := { q3 with c := { q3.c with pool := q3.c.pool ++ [⟨11, ⟨#[]⟩, 0, n2, n3⟩] } }) K9.out.drew K9.out.drew.rows.p hg5 8 (CR.pushP K9.out.drew.rows hg5 ho5) rfl rfl rfl (by rw [List.length_append]; exact HPL.out))
       have HTT := Lib.hid (((T9.out.trans (S' := fun b => g ≤ b) (Touch.refl _ _).drew fun b hb => .inl hb).trans (Touch.of_grown (S := fun b => g ≤ b) hg5 fun k hk => by have := (K9.out.rows.p.lt k hk).1; omega) fun b hb => .inl hb).setCell (p := ⟨g, 8, none⟩) (.inl (Nat.le_refl g)) (.slice a5 (q3.c.pool.length + 1) e5))
       clear ho5 hg5 hk5))
  all_goals
    exact bodyPost_end (results_none rfl _ _ _) rfl ⟨rfl, _, HQ.out, HTT.out⟩
set_option maxHeartbeats 4000000 in
theorem ref3_constant_12 (g : Nat) (L : List UInt8) (vb : Value) (q : QS) (mv : List (MethC × Value × Value)) (vP vI vF vM : Value) (w : World) (h : QX g L vb q mv vP vI vF vM w) (hp : q.c.pool.length ≤ 65535) (q1 : QS) (h1 : numQ L 1 q = (12, q1)) :
    Calls Try.prog 19 #[.pointer (some ⟨g, 0, none⟩)] w (ConstQ g L vb (constQ L q) mv vI vF vM w) := by
  have h1c : q1.c = q.c := by have := num_c L 1 q; rw [h1] at this; exact this
  obtain ⟨n2, q2, h2, h2c, h20, h21⟩ := num_eq2 L q1
  obtain ⟨n3, q3, h3, h3c, h30, h31⟩ := num_eq2 L q2
  have hR := const_q L q h1 (x := ⟨12, ⟨#[]⟩, 0, n2, n3⟩) (q2 := q3) (by unfold constRQ; rw [if_neg (by decide), if_neg (by decide), if_neg (by decide), if_pos (by decide), h2]; dsimp only; rw [h3])
  rw [hR]
  have C1 := ref3_num g L vb vP vI vF vM q 1 w h.rx (by omega) 1 rfl
  rw [h1] at C1
  have c1 := h.rx.c1
  have H0 := Lib.hid h
  have H1c := Lib.hid h1c
  have H2 := Lib.hid h2
  have H2c := Lib.hid h2c
  have H3 := Lib.hid h3
  have H3c := Lib.hid h3c
  clear h2 h2c h3 h3c
  clear h h1 h1c hR
  go_enter Try.func19, Try.ntmps19
  go_wp2_with fail
  refine C1.mono ?_
  rintro e w1 ⟨rfl, hx1⟩
  have K1 := Lib.hid (H0.out.rg hx1 H1c.out)
  have T1 := Lib.hid (hx1.2.mono (S' := fun b => g ≤ b) fun b hb => by omega)
  clear hx1 C1 H0
  go_upto_region 2 with fail
  have Z2 := Lib.hid (K1.out.lay 58 #[.int .i64 12, .string ⟨#[]⟩, .int .i64 0, .int .i64 0, .int .i64 0])
  have T2 := Lib.hid (T1.out.alloc (.cells #[.int .i64 12, .string ⟨#[]⟩, .int .i64 0, .int .i64 0, .int .i64 0] 58))
  obtain ⟨z, hz⟩ : ∃ z, z = w1.heap.size := ⟨_, rfl⟩
  rw [← hz] at Z2 ⊢
  generalize w1.alloc (.cells #[.int .i64 12, .string ⟨#[]⟩, .int .i64 0, .int .i64 0, .int .i64 0] 58) = W2 at *
  have e0 := Z2.out.zb.cell 0
  simp only [List.getElem?_toArray, List.getElem?_cons_zero] at e0
  clear K1 T1 hz
  have C2 := ref3_num g L vb vP vI vF vM q1 2 W2 Z2.out.rx (by omega) 2 rfl
  rw [H2.out] at C2
  go_wp2_with fail
  refine C2.mono ?_
  rintro e w2 ⟨rfl, hx2⟩
  have Z3 := Lib.hid (Z2.out.rg hx2 H2c.out)
  have T3 := Lib.hid (T2.out.trans hx2.2 fun b hb => .inl (by omega))
  clear hx2 C2 Z2 T2 e0
  have e1 := Z3.out.zb.cell 3
  simp only [List.getElem?_toArray, List.getElem?_cons_succ, List.getElem?_cons_zero] at e1
  have f1 := Z3.out.zb.frozen 3
  have lz := Z3.out.zb.lt
  go_upto_region 16 with fail
  have Y3 : Hid (QZ g L vb q2 mv vP vI vF vM w1 z 58 #[.int .i64 12, .string ⟨#[]⟩, .int .i64 0, .int .i64 n2, .int .i64 0] (w2.setCell ⟨z, 3, none⟩ (.int .i64 n2))) := Lib.hid (by simpa using Z3.out.put 3 (.int .i64 n2))
  have S3 := Lib.hid (T3.out.setCell (p := ⟨z, 3, none⟩) (.inl (by have := Z3.out.gz; have := Z3.out.hz; show g ≤ z; omega)) (.int .i64 n2))
  clear Z3 T3 e1 f1 lz
  generalize w2.setCell ⟨z, 3, none⟩ (.int .i64 n2) = W3 at *
  have Z3 := Lib.hid Y3.out
  have T3 := Lib.hid S3.out
  clear Y3 S3
  have C3 := ref3_num g L vb vP vI vF vM q2 2 W3 Z3.out.rx (by omega) 2 rfl
  rw [H3.out] at C3
  go_wp2_with fail
  refine C3.mono ?_
  rintro e w3 ⟨rfl, hx3⟩
  have Z4 := Lib.hid (Z3.out.rg hx3 H3c.out)
  have T4 := Lib.hid (T3.out.trans hx3.2 fun b hb => .inl (by omega))
  clear hx3 C3 Z3 T3
  have e1 := Z4.out.zb.cell 4
  simp only [List.getElem?_toArray, List.getElem?_cons_succ, List.getElem?_cons_zero] at e1
  have f1 := Z4.out.zb.frozen 4
  have lz := Z4.out.zb.lt
  go_upto_region 17 with fail
  have Z9 : Hid (QZ g L vb q3 mv vP vI vF vM w1 z 58 (encC ⟨12, ⟨#[]⟩, 0, n2, n3⟩).toArray (w3.setCell ⟨z, 4, none⟩ (.int .i64 n3))) := Lib.hid (by simpa [encC] using Z4.out.put 4 (.int .i64 n3))
  have T9 := Lib.hid (T4.out.setCell (p := ⟨z, 4, none⟩) (.inl (by have := Z4.out.gz; have := Z4.out.hz; show g ≤ z; omega)) (.int .i64 n3))
  clear Z4 T4 e1 f1 lz
  generalize w3.setCell ⟨z, 4, none⟩ (.int .i64 n3) = W9 at *
  have HPL := Lib.hid (show q3.c.pool.length + 1 ≤ 65536 by rw [H3c.out, H2c.out, H1c.out]; omega)
  have K9 := Lib.hid Z9.out.qx
  have c8 := K9.out.rx.cell 8 _ rfl
  have f8 := K9.out.rx.blk.frozen 8
  have lg := K9.out.rx.blk.lt
  have d0 := Z9.out.zb.cell 0
  have d1 := Z9.out.zb.cell 1
  have d2 := Z9.out.zb.cell 2
  have d3 := Z9.out.zb.cell 3
  have d4 := Z9.out.zb.cell 4
  simp only [encC, List.getElem?_toArray, List.getElem?_cons_succ, List.getElem?_cons_zero] at d0 d1 d2 d3 d4
  have lz := Z9.out.zb.lt
  obtain ⟨aP, cP, rfl, -, -⟩ := own_slice K9.out.rows.p
  go_region_law (first
    | (refine step_pushD _ elem_const rfl (.tmp 53) (.tmp 55) rfl (g + 1) _ q3.c.pool.length _ rfl K9.out.drew.rows.p (encC ⟨12, ⟨#[]⟩, 0, n2, n3⟩) _ _ rfl rfl rfl (by intro u hu; simp [encC] at hu; rcases hu with rfl | rfl | rfl | rfl | rfl <;> rfl) (by have := HPL.out; omega) (by have := HPL.out; omega) (by omega) ?_
       intro v5 w9 ho5 hg5 hk5
       obtain ⟨a5, e5, rfl, -, -⟩ := own_slice (n := q3.c.pool.length + 1) ho5
       obtain ⟨y8, i8, l8⟩ := QX.grow K9.out.drew K9.out.drew.rows.p hg5 8 _ rfl
       have HQ := Lib.hid (QX.push (v := .slice a5 (q3.c.pool.length + 1) e5) (q' := { q3 with c := { q3.c with pool := q3.c.pool ++ [⟨12, ⟨#[]⟩, 0, n2, n3⟩] } }) K9.out.drew K9.out.drew.rows.p hg5 8 (CR.pushP K9.out.drew.rows hg5 ho5) rfl rfl rfl (by rw [List.length_append]; exact HPL.out))
       have HTT := Lib.hid (((T9.out.trans (S' := fun b => g ≤ b) (Touch.refl _ _).drew fun b hb => .inl hb).trans (Touch.of_grown (S := fun b => g ≤ b) hg5 fun k hk => by have := (K9.out.rows.p.lt k hk).1; omega) fun b hb => .inl hb).setCell (p := ⟨g, 8, none⟩) (.inl (Nat.le_refl g)) (.slice a5 (q3.c.pool.length + 1) e5))
       clear ho5 hg5 hk5))
  all_goals
    exact bodyPost_end (results_none rfl _ _ _) rfl ⟨rfl, _, HQ.out, HTT.out⟩
set_option maxHeartbeats 4000000 in
theorem ref3_constant_0 (g : Nat) (L : List UInt8) (vb : Value) (q : QS) (mv : List (MethC × Value × Value)) (vP vI vF vM : Value) (w : World) (h : QX g L vb q mv vP vI vF vM w) (hp : q.c.pool.length ≤ 65535) (q1 : QS) (t : Int) (hn : ¬ t = 1 ∧ ¬ t = 3 ∧ ¬ t = 7 ∧ ¬ t = 9 ∧ ¬ t = 10 ∧ ¬ t = 11 ∧ ¬ t = 12) (h1 : numQ L 1 q = (t, q1)) :
    Calls Try.prog 19 #[.pointer (some ⟨g, 0, none⟩)] w (ConstQ g L vb (constQ L q) mv vI vF vM w) := by
  have h1c : q1.c = q.c := by have := num_c L 1 q; rw [h1] at this; exact this
  obtain ⟨n1, n3, n7, n9, n10, n11, n12⟩ := hn
  have hR := const_q L q h1 (x := ⟨t, ⟨#[]⟩, 0, 0, 0⟩) (q2 := failQ q1 q.at_ 13) (by unfold constRQ; rw [if_neg n1, if_neg n3, if_neg n7, if_neg (by omega)])
  rw [hR]
  have C1 := ref3_num g L vb vP vI vF vM q 1 w h.rx (by omega) 1 rfl
  rw [h1] at C1
  have c1 := h.rx.c1
  have H0 := Lib.hid h
  have H1c := Lib.hid h1c
  clear h h1 h1c hR
  go_enter Try.func19, Try.ntmps19
  go_wp2_with fail
  refine C1.mono ?_
  rintro e w1 ⟨rfl, hx1⟩
  have K1 := Lib.hid (H0.out.rg hx1 H1c.out)
  have T1 := Lib.hid (hx1.2.mono (S' := fun b => g ≤ b) fun b hb => by omega)
  clear hx1 C1 H0
  go_upto_region 2 with fail
  have Z2 := Lib.hid (K1.out.lay 58 #[.int .i64 t, .string ⟨#[]⟩, .int .i64 0, .int .i64 0, .int .i64 0])
  have T2 := Lib.hid (T1.out.alloc (.cells #[.int .i64 t, .string ⟨#[]⟩, .int .i64 0, .int .i64 0, .int .i64 0] 58))
  obtain ⟨z, hz⟩ : ∃ z, z = w1.heap.size := ⟨_, rfl⟩
  rw [← hz] at Z2 ⊢
  generalize w1.alloc (.cells #[.int .i64 t, .string ⟨#[]⟩, .int .i64 0, .int .i64 0, .int .i64 0] 58) = W2 at *
  have e0 := Z2.out.zb.cell 0
  simp only [List.getElem?_toArray, List.getElem?_cons_zero] at e0
  clear K1 T1 hz
  have C2 := ref3_fail g L vb vP vI vF vM q1 q.at_ 13 W2 Z2.out.rx
  go_wp2_with fail
  refine C2.mono ?_
  rintro e w2 ⟨rfl, hx2⟩
  have Z9 : Hid (QZ g L vb (failQ q1 q.at_ 13) mv vP vI vF vM w1 z 58 (encC ⟨t, ⟨#[]⟩, 0, 0, 0⟩).toArray w2) := Lib.hid (Z2.out.rg hx2 (fail_c _ _ _))
  have T9 := Lib.hid (T2.out.trans hx2.2 fun b hb => .inl (by omega))
  clear hx2 C2 Z2 T2 e0
  have HPL := Lib.hid (show (failQ q1 q.at_ 13).c.pool.length + 1 ≤ 65536 by rw [fail_c, H1c.out]; omega)
  generalize failQ q1 q.at_ 13 = qe at *
  go_upto_region 17 with fail
  have W9E := Lib.hid (rfl : w2 = w2)
  have K9 := Lib.hid Z9.out.qx
  have c8 := K9.out.rx.cell 8 _ rfl
  have f8 := K9.out.rx.blk.frozen 8
  have lg := K9.out.rx.blk.lt
  have d0 := Z9.out.zb.cell 0
  have d1 := Z9.out.zb.cell 1
  have d2 := Z9.out.zb.cell 2
  have d3 := Z9.out.zb.cell 3
  have d4 := Z9.out.zb.cell 4
  simp only [encC, List.getElem?_toArray, List.getElem?_cons_succ, List.getElem?_cons_zero] at d0 d1 d2 d3 d4
  have lz := Z9.out.zb.lt
  obtain ⟨aP, cP, rfl, -, -⟩ := own_slice K9.out.rows.p
  go_region_law (first
    | (refine step_pushD _ elem_const rfl (.tmp 53) (.tmp 55) rfl (g + 1) _ qe.c.pool.length _ rfl K9.out.drew.rows.p (encC ⟨t, ⟨#[]⟩, 0, 0, 0⟩) _ _ rfl rfl rfl (by intro u hu; simp [encC] at hu; rcases hu with rfl | rfl | rfl | rfl | rfl <;> rfl) (by have := HPL.out; omega) (by have := HPL.out; omega) (by omega) ?_
       intro v5 w9 ho5 hg5 hk5
       obtain ⟨a5, e5, rfl, -, -⟩ := own_slice (n := qe.c.pool.length + 1) ho5
       obtain ⟨y8, i8, l8⟩ := QX.grow K9.out.drew K9.out.drew.rows.p hg5 8 _ rfl
       have HQ := Lib.hid (QX.push (v := .slice a5 (qe.c.pool.length + 1) e5) (q' := { qe with c := { qe.c with pool := qe.c.pool ++ [⟨t, ⟨#[]⟩, 0, 0, 0⟩] } }) K9.out.drew K9.out.drew.rows.p hg5 8 (CR.pushP K9.out.drew.rows hg5 ho5) rfl rfl rfl (by rw [List.length_append]; exact HPL.out))
       have HTT := Lib.hid (((T9.out.trans (S' := fun b => g ≤ b) (Touch.refl _ _).drew fun b hb => .inl hb).trans (Touch.of_grown (S := fun b => g ≤ b) hg5 fun k hk => by have := (K9.out.rows.p.lt k hk).1; omega) fun b hb => .inl hb).setCell (p := ⟨g, 8, none⟩) (.inl (Nat.le_refl g)) (.slice a5 (qe.c.pool.length + 1) e5))
       clear ho5 hg5 hk5))
  all_goals
    exact bodyPost_end (results_none rfl _ _ _) rfl ⟨rfl, _, HQ.out, HTT.out⟩
theorem ref3_constant (g : Nat) (L : List UInt8) (vb : Value) (q : QS) (mv : List (MethC × Value × Value)) (vP vI vF vM : Value) (w : World) (h : QX g L vb q mv vP vI vF vM w) (hp : q.c.pool.length ≤ 65535) :
    Calls Try.prog 19 #[.pointer (some ⟨g, 0, none⟩)] w (ConstQ g L vb (constQ L q) mv vI vF vM w) := by
  obtain ⟨t, q1, h1, -, -, -⟩ := num_eq1 L q
  by_cases n1 : t = 1
  · subst n1; exact ref3_constant_1 g L vb q mv vP vI vF vM w h hp q1 h1
  by_cases n3 : t = 3
  · subst n3; exact ref3_constant_3 g L vb q mv vP vI vF vM w h hp q1 h1
  by_cases n7 : t = 7
  · subst n7; exact ref3_constant_7 g L vb q mv vP vI vF vM w h hp q1 h1
  by_cases n9 : t = 9
  · subst n9; exact ref3_constant_9 g L vb q mv vP vI vF vM w h hp q1 h1
  by_cases n10 : t = 10
  · subst n10; exact ref3_constant_10 g L vb q mv vP vI vF vM w h hp q1 h1
  by_cases n11 : t = 11
  · subst n11; exact ref3_constant_11 g L vb q mv vP vI vF vM w h hp q1 h1
  by_cases n12 : t = 12
  · subst n12; exact ref3_constant_12 g L vb q mv vP vI vF vM w h hp q1 h1
  exact ref3_constant_0 g L vb q mv vP vI vF vM w h hp q1 t ⟨n1, n3, n7, n9, n10, n11, n12⟩ h1
end Go.Proofs.Ytlipdifhdaaknaa
