/-
  Several texts in one: XBg XLf1 XLf2.
-/
import Derived.Test.YtcklmhbcjgiplaaSmB
import Derived.BigQuiet
import Derived.Test.YtcklmhbcjgiplaaSaM
import Derived.Deep.RegionHeld2
import Derived.Deep.CutBlock
import Derived.Deep.RegionLaw
import Derived.Deep.AppendLies
import Derived.BigRegion
namespace Go.Proofs.Ytcklmhbcjgiplaa
set_option linter.unusedVariables false
set_option linter.unusedSimpArgs false
open Go.RowKit
set_option maxRecDepth 100000

/-- What Big tells, as far as it is used. -/
def BigG (c : ClassC) (w : World) (e : Ending) (w' : World) : Prop := ∃ b, e = .returned (.bool b) ∧ (b = false → c.pool.length ≤ 3000 ∧ c.ifaces.length ≤ 3000 ∧ c.fields.length ≤ 3000 ∧ c.methods.length ≤ 200) ∧ Kept w w'
set_option maxHeartbeats 8000000 in
theorem law4_Big (c : ClassC) (mv : List (MethC × Value × Value)) (vP vI vF vM : Value) (w : World) (h : CRd w c mv vP vI vF vM) (hl : c.pool.length ≤ 140737488351232 ∧ c.ifaces.length ≤ 140737488351232 ∧ c.fields.length ≤ 140737488351232) :
    Calls Try.prog 14 #[.agg (classV c vP vI vF vM).toArray] w (BigG c w) := by
  have HLL := Lib.hid hl
  clear hl
  obtain ⟨aP, kP, aI, kI, aF, kF, aM, kM, rfl, rfl, rfl, rfl⟩ := h.forms
  obtain ⟨nP, hnP⟩ : ∃ n, n = c.pool.length := ⟨_, rfl⟩
  obtain ⟨nI, hnI⟩ : ∃ n, n = c.ifaces.length := ⟨_, rfl⟩
  obtain ⟨nF, hnF⟩ : ∃ n, n = c.fields.length := ⟨_, rfl⟩
  obtain ⟨nM, hnM⟩ : ∃ n, n = mv.length := ⟨_, rfl⟩
  change Calls Try.prog 14 #[.agg #[.int .i64 c.minor, .int .i64 c.major, .slice aP c.pool.length kP, .int .i64 c.access, .int .i64 c.this, .int .i64 c.super, .slice aI c.ifaces.length kI, .slice aF c.fields.length kF, .slice aM mv.length kM]] w _
  have HMS := Lib.hid h.ms
  rw [← hnP, ← hnI, ← hnF, ← hnM] at h ⊢
  have r1 := h.p
  have r2 := h.i
  have r3 := h.f
  have r4 := h.m
  rw [← hnP] at r1
  rw [← hnI] at r2
  rw [← hnF] at r3
  rw [← hnM] at r4
  have m1 : nP ≤ 9223372036854775807 := by obtain ⟨_, _, _, e, q1, q2, _⟩ := r1; cases e; omega
  have m2 : nI ≤ 9223372036854775807 := by obtain ⟨_, _, _, e, q1, q2, _⟩ := r2; cases e; omega
  have m3 : nF ≤ 9223372036854775807 := by obtain ⟨_, _, _, e, q1, q2, _⟩ := r3; cases e; omega
  have m4 : nM ≤ 9223372036854775807 := by obtain ⟨_, _, _, e, q1, q2, _⟩ := r4; cases e; omega
  have N1 := Lib.hid hnP
  have N2 := Lib.hid hnI
  have N3 := Lib.hid hnF
  have N4 := Lib.hid hnM
  clear hnP hnI hnF hnM
  have hk : Kept w (w.alloc (.cells #[.int .i64 c.minor, .int .i64 c.major, .slice aP nP kP, .int .i64 c.access, .int .i64 c.this, .int .i64 c.super, .slice aI nI kI, .slice aF nF kF, .slice aM nM kM] 27)) := (Below.refl _ _).alloc (Nat.le_refl _) _
  have HK := Lib.hid hk
  have HPP := Lib.hid (r1.kept hk)
  have HII := Lib.hid (r2.kept hk)
  have HFF := Lib.hid (r3.kept hk)
  have HMM := Lib.hid (r4.kept hk)
  have HRR := Lib.hid (fun x hx => (h.r x hx).kept hk)
  clear r1 r2 r3 r4
  have HB := Lib.hid (Blk.new w 27 #[.int .i64 c.minor, .int .i64 c.major, .slice aP nP kP, .int .i64 c.access, .int .i64 c.this, .int .i64 c.super, .slice aI nI kI, .slice aF nF kF, .slice aM nM kM])
  have HH := Lib.hid (show w.heap.size < (w.alloc (.cells #[.int .i64 c.minor, .int .i64 c.major, .slice aP nP kP, .int .i64 c.access, .int .i64 c.this, .int .i64 c.super, .slice aI nI kI, .slice aF nF kF, .slice aM nM kM] 27)).heap.size by simp)
  clear hk h
  have t1 : nP ≤ 140737488351232 := by have := HLL.out; have := N1.out; omega
  have t2 : nI ≤ 140737488351232 := by have := HLL.out; have := N2.out; omega
  have t3 : nF ≤ 140737488351232 := by have := HLL.out; have := N3.out; omega
  go_enter Try.func14, Try.ntmps14
  go_upto_region 1 with fail
  generalize (w.alloc (.cells #[.int .i64 c.minor, .int .i64 c.major, .slice aP nP kP, .int .i64 c.access, .int .i64 c.this, .int .i64 c.super, .slice aI nI kI, .slice aF nF kF, .slice aM nM kM] 27)) = W at *
  have c0 := HB.out.cell 0
  have c1 := HB.out.cell 1
  have c2 := HB.out.cell 2
  have c3 := HB.out.cell 3
  have c4 := HB.out.cell 4
  have c5 := HB.out.cell 5
  have c6 := HB.out.cell 6
  have c7 := HB.out.cell 7
  have c8 := HB.out.cell 8
  simp only [List.getElem?_toArray, List.getElem?_cons_succ, List.getElem?_cons_zero] at c0 c1 c2 c3 c4 c5 c6 c7 c8
  by_cases h1 : 3000 < nP + nI + nF
  · have h1I : (3000 : Int) < (nP : Int) + (nI : Int) + (nF : Int) := by omega
    go_wp2_with fail
    go_ret
    exact ⟨true, rfl, fun e => (by cases e), HK.out⟩
  have h1I : ¬ (3000 : Int) < (nP : Int) + (nI : Int) + (nF : Int) := by omega
  by_cases h2 : 200 < nM
  · have h2I : (200 : Int) < (nM : Int) := by omega
    go_wp2_with fail
    go_ret
    exact ⟨true, rfl, fun e => (by cases e), HK.out⟩
  have h2I : ¬ (200 : Int) < (nM : Int) := by omega
  have HFIN := Lib.hid (show c.pool.length ≤ 3000 ∧ c.ifaces.length ≤ 3000 ∧ c.fields.length ≤ 3000 ∧ c.methods.length ≤ 200 by
    have := N1.out; have := N2.out; have := N3.out; have := N4.out
    have h0 : c.methods.length = mv.length := by rw [HMS.out, List.length_map]
    omega)
  clear h1 h2
  go_wp2_with fail
  go_loopw [3, 4] (fun s3 s4 wr => ∃ (k : Nat) (n : Int), k ≤ nP ∧ s3 = .int .i64 n ∧ s4 = .int .i64 k ∧ W = wr) (fun _ s4 _ => nP - (intOf s4).toNat)
  case atStart => exact ⟨0, _, Nat.zero_le _, rfl, rfl, rfl⟩
  case round =>
    obtain ⟨k, n, hk, rfl, rfl, rfl⟩ := hrel
    by_cases hgo : k < nP ∧ n ≤ 80000
    · obtain ⟨hlt, hn⟩ := hgo
      obtain ⟨x, hx⟩ : ∃ x, c.pool[k]? = some x := ⟨_, List.getElem?_eq_getElem (by have := N1.out; omega)⟩
      obtain ⟨b1, o1, d1, hv1, e0, e1, e2, e3, e4⟩ := const_cells N1.out (HPP.out.kept (Below.refl _ W)) hx
      simp only [Value.slice.injEq] at hv1
      obtain ⟨rfl, -, rfl⟩ := hv1
      have hkI : (k : Int) < (nP : Int) := by omega
      have h0I : (0 : Int) ≤ (k : Int) := by omega
      have HX := Lib.hid hx
      clear hx
      go_wp2_with fail
      go_roundw
      case rel => exact ⟨k + 1, _, by omega, rfl, by go_num, trivial⟩
      case measure => simp [intOf]; omega
    · have hcase : (¬ k < nP) ∨ (k < nP ∧ ¬ n ≤ 80000) := by omega
      clear hgo
      obtain ⟨kq, hkq⟩ : ∃ x, x = k := ⟨_, rfl⟩
      subst hkq
      rcases hcase with hlt | ⟨hlt, hn⟩
      all_goals
        (go_wp2_with fail
         go_loopw [3, 5] (fun s3 s5 wr => ∃ (k : Nat) (n : Int), k ≤ nM ∧ s3 = .int .i64 n ∧ s5 = .int .i64 k ∧ (∃ q, wr = W.drewN q)) (fun _ s5 _ => nM - (intOf s5).toNat)
         case atStart => exact ⟨0, _, Nat.zero_le _, rfl, rfl, ⟨0, rfl⟩⟩
         case round =>
           obtain ⟨k, n2, hk, rfl, rfl, ⟨q, rfl⟩⟩ := hrel
           by_cases hgo : k < nM ∧ n2 ≤ 80000
           · obtain ⟨hlt2, hn2⟩ := hgo
             obtain ⟨⟨m, vc, vt⟩, hx⟩ : ∃ x, mv[k]? = some x := ⟨_, List.getElem?_eq_getElem (by have := N4.out; omega)⟩
             obtain ⟨b1, o1, d1, hv1, e0, e1, e2, e3, e4, e5, e6, e7⟩ := meth_cells N4.out (HMM.out.kept (Below.refl _ W)) hx
             have hrm : MRd W m vc vt := (HRR.out _ (List.mem_of_getElem? hx)).kept (Below.refl _ W)
             simp only [Value.slice.injEq] at hv1
             obtain ⟨rfl, -, rfl⟩ := hv1
             dsimp only at e0 e1 e2 e3 e4 e5 e6 e7
             obtain ⟨lc, hlc⟩ : ∃ lc, lc = m.code.length := ⟨_, rfl⟩
             obtain ⟨lt, hlt'⟩ : ∃ lt, lt = m.traps.length := ⟨_, rfl⟩
             have hrc := hrm.code
             have hrt := hrm.traps
             clear hrm
             rw [← hlc] at hrc
             rw [← hlt'] at hrt
             have HRc := Lib.hid hrc
             have HRt := Lib.hid hrt
             obtain ⟨_, ac, kc, rfl, -⟩ := hrc
             obtain ⟨_, at_, kt, rfl, -⟩ := hrt
             have hkJ : (k : Int) < (nM : Int) := by omega
             have h0J : (0 : Int) ≤ (k : Int) := by omega
             have HX := Lib.hid hx
             have HLC := Lib.hid hlc
             have HLT := Lib.hid hlt'
             clear hx hlc hlt' 
             go_wp2_with fail
             go_quiet (fail)
             go_wp2_with fail
             go_roundw
             case rel => exact ⟨k + 1, _, by omega, rfl, by go_num, ⟨_, rfl⟩⟩
             case measure => simp [intOf]; omega
           · have hcase : (¬ k < nM) ∨ (k < nM ∧ ¬ n2 ≤ 80000) := by omega
             clear hgo
             rcases hcase with hlt2 | ⟨hlt2, hn2⟩
             all_goals
               (go_wp2_with fail
                go_ret
                exact ⟨_, rfl, fun _ => HFIN.out, kept_drewN HK.out _⟩))
end Go.Proofs.Ytcklmhbcjgiplaa

namespace Go.Proofs.Ytcklmhbcjgiplaa
set_option linter.unusedVariables false
set_option linter.unusedSimpArgs false
open Go.RowKit
set_option maxRecDepth 100000

theorem step_append {P : Program} {w : World} {t e : TypeId} {z : Value} {size bytes : Nat} (E : ElemTy P t e z size bytes) {ops : Array Oper} {o : Oper} {a : Act} {K : Act → World → Prop} {F : Prop} (hgd : o.guard = none) (s x : Operand)
    (ho : o.op = .call { callee := .builtin .append, args := #[s, x], argTypes := #[t, t] })
    (base : Nat) (v : Value) (n : Nat) (xs : List Value) (hs : a.eval s = v) (hown : w.ownsRow base e size v n xs)
    (vx : Value) (m : Nat) (news : List Value) (hx : a.eval x = vx) (hr : Rd w size vx m news) (h1 : ∀ u ∈ news, u.oneCell' = true)
    (hbytes : (n + m) * bytes ≤ 140737488355328) (hsmall : n + m ≤ 9223372036854775807) (hbase : base ≤ w.heap.size) {Q : Exit → Act → World → Prop}
    (h : ∀ v' w', w'.ownsRow base e size v' (n + m) (xs ++ news) → w.grownBy w' v.ownBlock → (v'.ownBlock = v.ownBlock ∨ v'.ownBlock = some w.heap.size) → K (a.put o.dst v') w') :
    if Region.wanted o (yielded ops a.tmps) = true then Oper.wp P o a w K Q else F := by
  have hw : Region.wanted o (yielded ops a.tmps) = true := by simp [Region.wanted, hgd]
  rw [if_pos hw]
  obtain ⟨i, hi, hz0, hz1, hz2⟩ := info_parts E.hi
  rcases hr.parts with ⟨rfl, rfl, ad, c, rfl, _⟩ | ⟨b, off, c, rfl, h0, _, _, hc⟩
  · cases ad with
    | none =>
      have hrun := run_append_nothing (P := P) w base t o.type e i size E.ht hi v n xs hown c
      unfold Oper.wp
      simp only [execOp, ho, resolve, invoke, builtin, Sem.run_bind, Sem.run_pure, Result.andThen_ok, List.map_toArray, List.map_cons, List.map_nil, hs, hx, hrun]
      exact h v w (by simpa using hown) (World.grownBy.refl w _) (.inl rfl)
    | some ad =>
      obtain ⟨v', w', hr, h2, h3, -, h5⟩ := run_append_own_at (P := P) w base t o.type e i z size bytes E.ht hi hz0 hz1 hz2 E.hz E.hs v n xs hown ad 0 c [] (by simp) (by simp) (by simp) (by simpa [maxLen] using hsmall) hbytes hbase
      unfold Oper.wp execOp
      simp only [ho, resolve, invoke, builtin, Sem.run_bind, Sem.run_pure, Result.andThen_ok, List.map_toArray, List.map_cons, List.map_nil, hs, hx, hr]
      exact h v' w' h2 h3 h5
  · obtain ⟨v', w', hr, h2, h3, -, h5⟩ := run_append_own_at (P := P) w base t o.type e i z size bytes E.ht hi hz0 hz1 hz2 E.hz E.hs v n xs hown ⟨b, off, none⟩ m c news hr.1 (by
      intro j u hu
      have := hc j u hu
      unfold Addr.add
      split
      · rename_i hj; subst hj; simpa using this
      · exact this) h1 (by simpa [maxLen] using hsmall) hbytes hbase
    unfold Oper.wp execOp
    simp only [ho, resolve, invoke, builtin, Sem.run_bind, Sem.run_pure, Result.andThen_ok, List.map_toArray, List.map_cons, List.map_nil, hs, hx, hr]
    exact h v' w' h2 h3 h5

theorem elL_byte : ElemTy Try.prog 49 5 (.int .u8 0) 1 1 := ⟨Try.underlying49, by kernel_rfl, rfl, by decide⟩
theorem elL_trap : ElemTy Try.prog 50 59 (.agg #[.int .i64 0, .int .i64 0, .int .i64 0, .int .i64 0]) 4 32 := ⟨Try.underlying50, by kernel_rfl, rfl, by decide⟩
theorem elL_const : ElemTy Try.prog 22 47 (.agg #[.int .i64 0, .string ⟨#[]⟩, .int .i64 0, .int .i64 0, .int .i64 0]) 5 48 := ⟨Try.underlying22, by kernel_rfl, rfl, by decide⟩
theorem elL_int : ElemTy Try.prog 23 3 (.int .i64 0) 1 8 := ⟨Try.underlying23, by kernel_rfl, rfl, by decide⟩
theorem elL_field : ElemTy Try.prog 24 55 (.agg #[.int .i64 0, .int .i64 0, .int .i64 0, .int .i64 0]) 4 32 := ⟨Try.underlying24, by kernel_rfl, rfl, by decide⟩
theorem elL_meth : ElemTy Try.prog 25 52 (.agg #[.int .i64 0, .int .i64 0, .int .i64 0, .bool false, .int .i64 0, .int .i64 0, .slice none 0 0, .slice none 0 0]) 8 96 := ⟨Try.underlying25, by kernel_rfl, rfl, by decide⟩
theorem lent_k {e : Nat} {W w4 w5 : World} {o : Obj} {v : Value} {sz n : Nat} {xs : List Value} (h : Kept W.drew w4) (hg : (w4.alloc o).grownBy w5 v.ownBlock) (ho : w4.ownsRow W.drew.heap.size e sz v n xs) : Kept W w5 := by
  have t5 : Touch (fun k => v.ownBlock = some k) w4 w5 := ((Touch.refl (fun k => v.ownBlock = some k) w4).alloc o).trans (Touch.of_grown hg (fun k hk => hk)) fun b => .inl
  have h1 : Kept W w4 := ⟨h.os, h.tape, h.output, h.size, fun k hk => Below.block h k hk⟩
  exact Below.trans h1 (t5.below (fun b hb => (ho.lt b hb).1) h1.size)

theorem lent_k2 {e : Nat} {W w6 w5 : World} {o : Obj} {v : Value} {sz n : Nat} {xs : List Value} (h : Kept (W.drew.alloc o) w6) (hg : w6.grownBy w5 v.ownBlock) (ho : w6.ownsRow W.drew.heap.size e sz v n xs) : Kept W w5 := by
  have h1 : Kept W w6 := Below.trans (((Below.refl W.heap.size W).drew).alloc (Nat.le_refl _) o) (h.mono (by simp))
  exact Below.trans h1 ((Touch.of_grown (S := fun k => v.ownBlock = some k) hg (fun k hk => hk)).below (fun b hb => (ho.lt b hb).1) h1.size)
theorem lent_close {e sz n t i T : Nat} {W w5 : World} {v u : Value} {xs : List Value} {cs : Array Value} (hb : Blk W t T cs) (k : Kept W w5) (ho : w5.ownsRow W.drew.heap.size e sz v n xs) :
    Blk (w5.setCell ⟨t, i, none⟩ u) t T (cs.setIfInBounds i u) ∧ Row (w5.setCell ⟨t, i, none⟩ u) (t + 1) e sz v n xs ∧ Touch (fun b => b = t) W (w5.setCell ⟨t, i, none⟩ u) := by
  have hr := Row.of_own ho
  have hlt := hb.lt
  have hr1 : Row w5 (t + 1) e sz v n xs := hr.base hlt
  refine ⟨(hb.kept k).set_ i u, hr1.touch (((Touch.refl (fun b => b = t) w5)).setCell (p := ⟨t, i, none⟩) (.inl rfl) u) (fun b hb' e => ?_), (Touch.of_kept (S := fun b => b = t) k).setCell (p := ⟨t, i, none⟩) (.inl rfl) u⟩
  have := (hr1.lt b hb').1
  omega
theorem kept_touch {t : Nat} {wr W W' : World} (h : Kept wr W) (ht : wr.heap.size ≤ t) (k : Touch (fun b => b = t) W W') : Kept wr W' :=
  Below.trans h (k.below (fun b hb => by omega) h.size)
theorem Row.pre {w : World} {B e sz n g c : Nat} {xs ys : List Value} (h : Row w B e sz (.slice (some ⟨g, 0, none⟩) (n + 1) c) (n + 1) (xs ++ ys)) (hx : xs.length = n * sz) (hn : n + 1 ≤ c) (hc : c ≤ 9223372036854775807) : Rd w sz (.slice (some ⟨g, 0, none⟩) n c) n xs :=
  Rd.mk_ hx (by omega) hc fun j u hu => by
    rw [Nat.zero_add]
    refine h.cells.1 j u ?_
    rw [List.getElem?_append_left (List.getElem?_eq_some_iff.1 hu).1]
    exact hu
theorem Row.bounds {w : World} {B e sz n c : Nat} {a : Option Addr} {xs : List Value} (h : Row w B e sz (.slice a n c) n xs) : n ≤ c ∧ c ≤ 9223372036854775807 := by
  obtain ⟨_, _, hv, h1, h2⟩ := h.form
  simp only [Value.slice.injEq] at hv
  obtain ⟨-, -, rfl⟩ := hv
  exact ⟨h1, h2⟩

/-- A list in a row of its own, with one element more behind it. -/
def LRow (w : World) (B e sz : Nat) (v : Value) (n : Nat) (xs x : List Value) : Prop := ∃ g c, v = .slice (some ⟨g, 0, none⟩) n c ∧ Row w B e sz (.slice (some ⟨g, 0, none⟩) (n + 1) c) (n + 1) (xs ++ x) ∧ xs.length = n * sz
section
variable {w w' : World} {B B' e sz n : Nat} {v : Value} {xs x : List Value}
theorem LRow.rd (h : LRow w B e sz v n xs x) : Rd w sz v n xs := by
  obtain ⟨g, c, rfl, h, hx⟩ := h
  exact h.pre hx h.bounds.1 h.bounds.2
theorem LRow.touch {S : Nat → Prop} (h : LRow w B e sz v n xs x) (ht : Touch S w w') (hn : ∀ k, v.ownBlock = some k → ¬ S k) : LRow w' B e sz v n xs x := by
  obtain ⟨g, c, rfl, h, hx⟩ := h
  exact ⟨g, c, rfl, h.touch ht hn, hx⟩
theorem LRow.kept (h : LRow w B e sz v n xs x) (hk : Kept w w') : LRow w' B e sz v n xs x := h.touch (S := fun _ => False) (Touch.of_kept hk) (fun _ _ => id)
theorem LRow.base (h : LRow w B' e sz v n xs x) (hB : B ≤ B') : LRow w B e sz v n xs x := by
  obtain ⟨g, c, rfl, h, hx⟩ := h
  exact ⟨g, c, rfl, h.base hB, hx⟩
theorem LRow.lt (h : LRow w B e sz v n xs x) : ∀ k, v.ownBlock = some k → B ≤ k ∧ k < w.heap.size := by
  obtain ⟨g, c, rfl, h, _⟩ := h
  exact h.lt
theorem LRow.ty (h : LRow w B e sz v n xs x) : ∀ k, v.ownBlock = some k → TyAt w k e := by
  obtain ⟨g, c, rfl, h, _⟩ := h
  exact h.ty
end
/-- A lent method. -/
structure LMt (w : World) (B : Nat) (m : MethC) (vc vt : Value) : Prop where
  code : LRow w B 5 1 vc m.code.length (m.code.map byteV) [.int .u8 167]
  traps : LRow w B 59 4 vt m.traps.length (m.traps.flatMap encT) [.int .i64 (-74), .int .i64 0, .int .i64 0, .int .i64 0]
theorem LMt.touch {w w' : World} {B : Nat} {m : MethC} {vc vt : Value} {S : Nat → Prop} (h : LMt w B m vc vt) (ht : Touch S w w') (hs : ∀ k, S k → k < w.heap.size → TyAt w k 52) : LMt w' B m vc vt :=
  ⟨h.code.touch ht fun k hk hS => TyAt.ne (h.code.ty k hk) (hs k hS (h.code.lt k hk).2) (by decide) rfl, h.traps.touch ht fun k hk hS => TyAt.ne (h.traps.ty k hk) (hs k hS (h.traps.lt k hk).2) (by decide) rfl⟩
theorem LMt.kept {w w' : World} {B : Nat} {m : MethC} {vc vt : Value} (h : LMt w B m vc vt) (hk : Kept w w') : LMt w' B m vc vt := ⟨h.code.kept hk, h.traps.kept hk⟩
/-- A lent class. -/
structure LC (B : Nat) (c : ClassC) (mv : List (MethC × Value × Value)) (vP vI vF vM : Value) (w : World) : Prop where
  p : LRow w B 47 5 vP c.pool.length (c.pool.flatMap encC) [.int .i64 (-71), .string ⟨#[]⟩, .int .i64 0, .int .i64 0, .int .i64 0]
  i : LRow w B 3 1 vI c.ifaces.length (c.ifaces.flatMap encI) [.int .i64 (-72)]
  f : LRow w B 55 4 vF c.fields.length (c.fields.flatMap encF) [.int .i64 (-73), .int .i64 0, .int .i64 0, .int .i64 0]
  m : LRow w B 52 8 vM mv.length (mv.flatMap encM) [.int .i64 (-75), .int .i64 0, .int .i64 0, .bool false, .int .i64 0, .int .i64 0, .slice none 0 0, .slice none 0 0]
  r : ∀ x ∈ mv, LMt w B x.1 x.2.1 x.2.2
  ms : c.methods = mv.map fun x => x.1
theorem LC.rd {B : Nat} {c : ClassC} {mv : List (MethC × Value × Value)} {vP vI vF vM : Value} {w : World} (h : LC B c mv vP vI vF vM w) : CRd w c mv vP vI vF vM :=
  ⟨h.p.rd, h.i.rd, h.f.rd, h.m.rd, fun x hx => ⟨(h.r x hx).code.rd, (h.r x hx).traps.rd⟩, h.ms⟩
theorem LC.kept {B : Nat} {c : ClassC} {mv : List (MethC × Value × Value)} {vP vI vF vM : Value} {w w' : World} (h : LC B c mv vP vI vF vM w) (hk : Kept w w') : LC B c mv vP vI vF vM w' :=
  ⟨h.p.kept hk, h.i.kept hk, h.f.kept hk, h.m.kept hk, fun x hx => (h.r x hx).kept hk, h.ms⟩
/-- A class of which a copy can be made. -/
structure SizeC (c : ClassC) : Prop where
  p : c.pool.length ≤ 3000
  i : c.ifaces.length ≤ 3000
  f : c.fields.length ≤ 3000
  m : c.methods.length ≤ 3000
  r : ∀ x ∈ c.methods, x.code.length ≤ 140737488351232 ∧ x.traps.length * 32 ≤ 140737488351232
theorem enc_oneC (l : List ConstC) : ∀ u ∈ l.flatMap encC, u.oneCell' = true := by
  intro u hu
  obtain ⟨y, _, hy⟩ := List.mem_flatMap.1 hu
  simp [encC] at hy
  rcases hy with rfl | rfl | rfl | rfl | rfl <;> rfl
theorem enc_oneI (l : List Int) : ∀ u ∈ l.flatMap encI, u.oneCell' = true := by
  intro u hu
  obtain ⟨y, _, hy⟩ := List.mem_flatMap.1 hu
  simp [encI] at hy
  rcases hy with rfl <;> rfl
theorem enc_oneF (l : List FieldC) : ∀ u ∈ l.flatMap encF, u.oneCell' = true := by
  intro u hu
  obtain ⟨y, _, hy⟩ := List.mem_flatMap.1 hu
  simp [encF] at hy
  rcases hy with rfl | rfl | rfl | rfl <;> rfl
theorem enc_oneT (l : List TrapC) : ∀ u ∈ l.flatMap encT, u.oneCell' = true := by
  intro u hu
  obtain ⟨y, _, hy⟩ := List.mem_flatMap.1 hu
  simp [encT] at hy
  rcases hy with rfl | rfl | rfl | rfl <;> rfl
theorem enc_oneB (l : List UInt8) : ∀ u ∈ l.map byteV, u.oneCell' = true := by
  intro u hu
  obtain ⟨y, _, rfl⟩ := List.mem_map.1 hu
  rfl

set_option maxHeartbeats 16000000 in
theorem law4_Lent (c : ClassC) (mv : List (MethC × Value × Value)) (vP vI vF vM : Value) (w : World) (h : CRd w c mv vP vI vF vM) (hsz : SizeC c) :
    Calls Try.prog 15 #[.agg (classV c vP vI vF vM).toArray] w fun e w' => ∃ mv' gP dP gI dI gF dF gM dM, e = .returned (.agg #[.int .i64 c.minor, .int .i64 c.major, .slice (some ⟨gP, 0, none⟩) c.pool.length dP, .int .i64 c.access, .int .i64 c.this, .int .i64 c.super, .slice (some ⟨gI, 0, none⟩) c.ifaces.length dI, .slice (some ⟨gF, 0, none⟩) c.fields.length dF, .slice (some ⟨gM, 0, none⟩) mv'.length dM]) ∧ LC w.heap.size c mv' (.slice (some ⟨gP, 0, none⟩) c.pool.length dP) (.slice (some ⟨gI, 0, none⟩) c.ifaces.length dI) (.slice (some ⟨gF, 0, none⟩) c.fields.length dF) (.slice (some ⟨gM, 0, none⟩) mv'.length dM) w' ∧ Kept w w' := by
  have HSZ := Lib.hid hsz
  have RWA := Lib.hid h
  clear hsz
  obtain ⟨aP, kP, aI, kI, aF, kF, aM, kM, rfl, rfl, rfl, rfl⟩ := h.forms
  obtain ⟨nP, hnP⟩ : ∃ n, n = c.pool.length := ⟨_, rfl⟩
  obtain ⟨nI, hnI⟩ : ∃ n, n = c.ifaces.length := ⟨_, rfl⟩
  obtain ⟨nF, hnF⟩ : ∃ n, n = c.fields.length := ⟨_, rfl⟩
  obtain ⟨nM, hnM⟩ : ∃ n, n = mv.length := ⟨_, rfl⟩
  change Calls Try.prog 15 #[.agg #[.int .i64 c.minor, .int .i64 c.major, .slice aP c.pool.length kP, .int .i64 c.access, .int .i64 c.this, .int .i64 c.super, .slice aI c.ifaces.length kI, .slice aF c.fields.length kF, .slice aM mv.length kM]] w _
  have HMS := Lib.hid h.ms
  rw [← hnP, ← hnI, ← hnF, ← hnM] at h ⊢
  have r1 := h.p
  have r2 := h.i
  have r3 := h.f
  have r4 := h.m
  rw [← hnP] at r1
  rw [← hnI] at r2
  rw [← hnF] at r3
  rw [← hnM] at r4
  have m1 : nP ≤ 9223372036854775807 := by obtain ⟨_, _, _, e, q1, q2, _⟩ := r1; cases e; omega
  have m2 : nI ≤ 9223372036854775807 := by obtain ⟨_, _, _, e, q1, q2, _⟩ := r2; cases e; omega
  have m3 : nF ≤ 9223372036854775807 := by obtain ⟨_, _, _, e, q1, q2, _⟩ := r3; cases e; omega
  have m4 : nM ≤ 9223372036854775807 := by obtain ⟨_, _, _, e, q1, q2, _⟩ := r4; cases e; omega
  have N1 := Lib.hid hnP
  have N2 := Lib.hid hnI
  have N3 := Lib.hid hnF
  have N4 := Lib.hid hnM
  clear hnP hnI hnF hnM
  have hk : Kept w (w.alloc (.cells #[.int .i64 c.minor, .int .i64 c.major, .slice aP nP kP, .int .i64 c.access, .int .i64 c.this, .int .i64 c.super, .slice aI nI kI, .slice aF nF kF, .slice aM nM kM] 27)) := (Below.refl _ _).alloc (Nat.le_refl _) _
  have HK := Lib.hid hk
  have HPP := Lib.hid (r1.kept hk)
  have HII := Lib.hid (r2.kept hk)
  have HFF := Lib.hid (r3.kept hk)
  have HMM := Lib.hid (r4.kept hk)
  have HRR := Lib.hid (fun x hx => (h.r x hx).kept hk)
  clear r1 r2 r3 r4
  have HB := Lib.hid (Blk.new w 27 #[.int .i64 c.minor, .int .i64 c.major, .slice aP nP kP, .int .i64 c.access, .int .i64 c.this, .int .i64 c.super, .slice aI nI kI, .slice aF nF kF, .slice aM nM kM])
  have HH := Lib.hid (show w.heap.size < (w.alloc (.cells #[.int .i64 c.minor, .int .i64 c.major, .slice aP nP kP, .int .i64 c.access, .int .i64 c.this, .int .i64 c.super, .slice aI nI kI, .slice aF nF kF, .slice aM nM kM] 27)).heap.size by simp)
  clear hk h
  have b1 : nP ≤ 3000 := by have := HSZ.out.p; have := N1.out; omega
  have b2 : nI ≤ 3000 := by have := HSZ.out.i; have := N2.out; omega
  have b3 : nF ≤ 3000 := by have := HSZ.out.f; have := N3.out; omega
  have b4 : nM ≤ 3000 := by have := HSZ.out.m; have := N4.out; have := congrArg List.length HMS.out; simp only [List.length_map] at this; omega
  have RW1 : Hid (Rd w 5 (.slice aP nP kP) nP (c.pool.flatMap encC)) := Lib.hid (by have := RWA.out.p; rw [← N1.out] at this; exact this)
  have RW2 : Hid (Rd w 1 (.slice aI nI kI) nI (c.ifaces.flatMap encI)) := Lib.hid (by have := RWA.out.i; rw [← N2.out] at this; exact this)
  have RW3 : Hid (Rd w 4 (.slice aF nF kF) nF (c.fields.flatMap encF)) := Lib.hid (by have := RWA.out.f; rw [← N3.out] at this; exact this)
  have RWM : Hid (Rd w 8 (.slice aM nM kM) nM (mv.flatMap encM)) := Lib.hid (by have := RWA.out.m; rw [← N4.out] at this; exact this)
  have q1 : nP ≤ kP ∧ kP ≤ 9223372036854775807 := by obtain ⟨_, _, _, e, x1, x2, _⟩ := RW1.out; cases e; exact ⟨x1, x2⟩
  have q2 : nI ≤ kI ∧ kI ≤ 9223372036854775807 := by obtain ⟨_, _, _, e, x1, x2, _⟩ := RW2.out; cases e; exact ⟨x1, x2⟩
  have q3 : nF ≤ kF ∧ kF ≤ 9223372036854775807 := by obtain ⟨_, _, _, e, x1, x2, _⟩ := RW3.out; cases e; exact ⟨x1, x2⟩
  clear HK HPP HII HFF HMM HRR HB HH
  go_enter Try.func15, Try.ntmps15
  go_upto_region 1 with fail
  obtain ⟨t, ht⟩ : ∃ t, t = w.heap.size := ⟨_, rfl⟩
  have kB : Kept w ((w.alloc (.cells #[.int .i64 c.minor, .int .i64 c.major, .slice aP nP kP, .int .i64 c.access, .int .i64 c.this, .int .i64 c.super, .slice aI nI kI, .slice aF nF kF, .slice aM nM kM] 27)).alloc (.cells #[.int .i64 0, .int .i64 0, .slice none 0 0, .int .i64 0, .int .i64 0, .int .i64 0, .slice none 0 0, .slice none 0 0, .slice none 0 0] 27)) := ((Below.refl _ _).alloc (Nat.le_refl _) _).alloc (by simp) _
  have bT : Blk ((w.alloc (.cells #[.int .i64 c.minor, .int .i64 c.major, .slice aP nP kP, .int .i64 c.access, .int .i64 c.this, .int .i64 c.super, .slice aI nI kI, .slice aF nF kF, .slice aM nM kM] 27)).alloc (.cells #[.int .i64 0, .int .i64 0, .slice none 0 0, .int .i64 0, .int .i64 0, .int .i64 0, .slice none 0 0, .slice none 0 0, .slice none 0 0] 27)) t 27 #[.int .i64 c.minor, .int .i64 c.major, .slice aP nP kP, .int .i64 c.access, .int .i64 c.this, .int .i64 c.super, .slice aI nI kI, .slice aF nF kF, .slice aM nM kM] := by rw [ht]; exact (Blk.new w 27 #[.int .i64 c.minor, .int .i64 c.major, .slice aP nP kP, .int .i64 c.access, .int .i64 c.this, .int .i64 c.super, .slice aI nI kI, .slice aF nF kF, .slice aM nM kM]).alloc _
  have bR : Blk ((w.alloc (.cells #[.int .i64 c.minor, .int .i64 c.major, .slice aP nP kP, .int .i64 c.access, .int .i64 c.this, .int .i64 c.super, .slice aI nI kI, .slice aF nF kF, .slice aM nM kM] 27)).alloc (.cells #[.int .i64 0, .int .i64 0, .slice none 0 0, .int .i64 0, .int .i64 0, .int .i64 0, .slice none 0 0, .slice none 0 0, .slice none 0 0] 27)) (t + 1) 27 #[.int .i64 0, .int .i64 0, .slice none 0 0, .int .i64 0, .int .i64 0, .int .i64 0, .slice none 0 0, .slice none 0 0, .slice none 0 0] := by
    have := Blk.new (w.alloc (.cells #[.int .i64 c.minor, .int .i64 c.major, .slice aP nP kP, .int .i64 c.access, .int .i64 c.this, .int .i64 c.super, .slice aI nI kI, .slice aF nF kF, .slice aM nM kM] 27)) 27 #[.int .i64 0, .int .i64 0, .slice none 0 0, .int .i64 0, .int .i64 0, .int .i64 0, .slice none 0 0, .slice none 0 0, .slice none 0 0]
    rw [ht]
    simpa using this
  rw [← ht]
  generalize ((w.alloc (.cells #[.int .i64 c.minor, .int .i64 c.major, .slice aP nP kP, .int .i64 c.access, .int .i64 c.this, .int .i64 c.super, .slice aI nI kI, .slice aF nF kF, .slice aM nM kM] 27)).alloc (.cells #[.int .i64 0, .int .i64 0, .slice none 0 0, .int .i64 0, .int .i64 0, .int .i64 0, .slice none 0 0, .slice none 0 0, .slice none 0 0] 27)) = W1 at *
  have KA1 := Lib.hid kB
  have BT1 := Lib.hid bT
  have BR1 := Lib.hid bR
  have HTQt := Lib.hid (Nat.le_of_eq ht.symm)
  have HT := Lib.hid ht
  clear kB bT bR ht
  go_upto_region 1 with fail
  have RD1 := Lib.hid (RW1.out.kept KA1.out)
  go_cut [] from 6 to 16 (fun wx => ∃ g q, Blk wx t 27 #[.int .i64 c.minor, .int .i64 c.major, .slice (some ⟨g, 0, none⟩) nP q, .int .i64 c.access, .int .i64 c.this, .int .i64 c.super, .slice aI nI kI, .slice aF nF kF, .slice aM nM kM] ∧ Row wx (t + 1) 47 5 (.slice (some ⟨g, 0, none⟩) (nP + 1) q) (nP + 1) (c.pool.flatMap encC ++ [.int .i64 (-71), .string ⟨#[]⟩, .int .i64 0, .int .i64 0, .int .i64 0]) ∧ Touch (fun b => b = t) W1 wx ∧ nP + 1 ≤ q ∧ q ≤ 9223372036854775807)
  case first =>
    have cf1 := BT1.out.cell 2
    simp only [List.getElem?_toArray, List.getElem?_cons_succ, List.getElem?_cons_zero] at cf1
    have fz1 := BT1.out.frozen 2
    have sW1 : t < W1.heap.size := BT1.out.lt
    have hI1 : (nP : Int) ≤ (kP : Int) := by omega
    have h01 : (0 : Int) ≤ (nP : Int) := by omega
    have cx1 := Kept.cell (show Kept W1 (W1.drew.alloc (Obj.cells #[.int .i64 (-71), .string ⟨#[]⟩, .int .i64 0, .int .i64 0, .int .i64 0] 47)) from ((Below.refl _ _).drew).alloc (Nat.le_refl _) _) cf1
    go_region_law
      (first
      | (refine step_append (P := Try.prog) elL_const rfl (.const (.slice none 0 0)) (.tmp 7) rfl W1.drew.heap.size _ 0 [] rfl (World.ownsRow_nil _ _ _ _) (.slice aP nP kP) nP (c.pool.flatMap encC) ?_ (show Rd W1.drew 5 _ nP _ from RD1.out) (enc_oneC c.pool) (by omega) (by omega) (Nat.le_refl _) ?_; rfl; intro v4 w4 ho4 hg4 hq4; rw [Nat.zero_add, List.nil_append] at ho4; obtain ⟨e4, d4, hv4, _, _⟩ := own_slice ho4; subst hv4; have HO4 := Lib.hid ho4; have K4 := Lib.hid (show Kept W1.drew w4 from (Below.refl _ _).grown hg4 (Nat.le_refl _) (fun k hk => by cases hk)); have ce4 := Kept.cell K4.out cf1; have ca4 := Kept.cell ((Below.refl _ w4).alloc (Nat.le_refl _) (Obj.cells #[.int .i64 (-71), .string ⟨#[]⟩, .int .i64 0, .int .i64 0, .int .i64 0] 47)) ce4; clear ho4 hg4 hq4)
      | (refine step_append (P := Try.prog) elL_const rfl (.tmp 8) (.tmp 10) rfl W1.drew.heap.size (.slice e4 nP d4) nP (c.pool.flatMap encC) ?_ (HO4.out.alloc _) (.slice (some ⟨w4.heap.size, 0, none⟩) 1 1) 1 ([.int .i64 (-71), .string ⟨#[]⟩, .int .i64 0, .int .i64 0, .int .i64 0]) ?_ (Rd.one w4 ([.int .i64 (-71), .string ⟨#[]⟩, .int .i64 0, .int .i64 0, .int .i64 0]) 47 rfl) (by intro u hu; simp at hu; rcases hu with rfl | rfl | rfl | rfl | rfl <;> rfl) (by omega) (by omega) (by rw [World.size_alloc]; exact Nat.le_succ_of_le K4.out.size) ?_; rfl; rfl; intro v5 w5 ho5 hg5 hq5; obtain ⟨g5, e5, hv5, hcc5, hcd5, _, _, _, _⟩ := own_form ho5 (by omega); subst hv5; have HO5 := Lib.hid ho5; have K5 := Lib.hid (show Kept W1 w5 from lent_k K4.out hg5 HO4.out); have ce5 := Kept.cell K5.out cf1; have fe5 := (BT1.out.kept K5.out).frozen 2; have hs5 : (nP : Int) ≤ (e5 : Int) := (by omega); clear ho5 hg5 hq5)
      | (refine step_append (P := Try.prog) elL_const rfl (.const (.slice none 0 0)) (.tmp 7) rfl W1.drew.heap.size _ 0 [] rfl (World.ownsRow_nil _ _ _ _) (.slice aP nP kP) nP (c.pool.flatMap encC) ?_ (show Rd (W1.drew.alloc (.cells ([.int .i64 (-71), .string ⟨#[]⟩, .int .i64 0, .int .i64 0, .int .i64 0]).toArray 47)) 5 _ nP _ from (show Rd W1.drew 5 _ nP _ from RD1.out).kept ((Below.refl _ _).alloc (Nat.le_refl _) _)) (enc_oneC c.pool) (by omega) (by omega) (by rw [World.size_alloc]; exact Nat.le_succ _) ?_; rfl; intro v6 w6 ho6 hg6 hq6; rw [Nat.zero_add, List.nil_append] at ho6; obtain ⟨e6, d6, hv6, _, _⟩ := own_slice ho6; subst hv6; have HO6 := Lib.hid ho6; have K6 := Lib.hid (show Kept (W1.drew.alloc (.cells ([.int .i64 (-71), .string ⟨#[]⟩, .int .i64 0, .int .i64 0, .int .i64 0]).toArray 47)) w6 from (Below.refl _ _).grown hg6 (Nat.le_refl _) (fun k hk => by cases hk)); have RT := Lib.hid ((Rd.one W1.drew ([.int .i64 (-71), .string ⟨#[]⟩, .int .i64 0, .int .i64 0, .int .i64 0]) 47 rfl).kept K6.out); have ce6 := Kept.cell K6.out (Kept.cell (show Kept W1 (W1.drew.alloc (.cells ([.int .i64 (-71), .string ⟨#[]⟩, .int .i64 0, .int .i64 0, .int .i64 0]).toArray 47)) from ((Below.refl _ _).drew).alloc (Nat.le_refl _) _) cf1); clear ho6 hg6 hq6)
      | (refine step_append (P := Try.prog) elL_const rfl (.tmp 8) (.tmp 10) rfl W1.drew.heap.size (.slice e6 nP d6) nP (c.pool.flatMap encC) ?_ HO6.out (.slice (some ⟨W1.drew.heap.size, 0, none⟩) 1 1) 1 ([.int .i64 (-71), .string ⟨#[]⟩, .int .i64 0, .int .i64 0, .int .i64 0]) ?_ RT.out (by intro u hu; simp at hu; rcases hu with rfl | rfl | rfl | rfl | rfl <;> rfl) (by omega) (by omega) (Nat.le_trans (by rw [World.size_alloc]; exact Nat.le_succ _) K6.out.size) ?_; rfl; rfl; intro v5 w5 ho5 hg5 hq5; obtain ⟨g5, e5, hv5, hcc5, hcd5, _, _, _, _⟩ := own_form ho5 (by omega); subst hv5; have HO5 := Lib.hid ho5; have K5 := Lib.hid (show Kept W1 w5 from lent_k2 K6.out hg5 HO6.out); have ce5 := Kept.cell K5.out cf1; have fe5 := (BT1.out.kept K5.out).frozen 2; have hs5 : (nP : Int) ≤ (e5 : Int) := (by omega); clear ho5 hg5 hq5))
    all_goals go_wp2_with fail
    all_goals go_meet
    all_goals have HC := lent_close (i := 2) (u := .slice (some ⟨g5, 0, none⟩) nP e5) BT1.out K5.out HO5.out
    all_goals exact ⟨g5, e5, by simpa using HC.1, HC.2.1, HC.2.2, by omega, hcd5⟩
  case rest =>
    obtain ⟨g1, d1, bb1, rr1, tt1, le1, lf1⟩ := hcut
    have BT2 := Lib.hid bb1
    have RO1 := Lib.hid rr1
    have TC1 := Lib.hid tt1
    have KA2 := Lib.hid (kept_touch KA1.out (HTQt.out) tt1)
    clear bb1 rr1 tt1
    rename World => W2

    go_upto_region 2 with fail
    have RD2 := Lib.hid (RW2.out.kept KA2.out)
    go_cut [] from 17 to 26 (fun wx => ∃ g q, Blk wx t 27 #[.int .i64 c.minor, .int .i64 c.major, .slice (some ⟨g1, 0, none⟩) nP d1, .int .i64 c.access, .int .i64 c.this, .int .i64 c.super, .slice (some ⟨g, 0, none⟩) nI q, .slice aF nF kF, .slice aM nM kM] ∧ Row wx (t + 1) 3 1 (.slice (some ⟨g, 0, none⟩) (nI + 1) q) (nI + 1) (c.ifaces.flatMap encI ++ [.int .i64 (-72)]) ∧ Touch (fun b => b = t) W2 wx ∧ nI + 1 ≤ q ∧ q ≤ 9223372036854775807)
    case first =>
      have cf2 := BT2.out.cell 6
      simp only [List.getElem?_toArray, List.getElem?_cons_succ, List.getElem?_cons_zero] at cf2
      have fz2 := BT2.out.frozen 6
      have sW2 : t < W2.heap.size := BT2.out.lt
      have hI2 : (nI : Int) ≤ (kI : Int) := by omega
      have h02 : (0 : Int) ≤ (nI : Int) := by omega
      have cx2 := Kept.cell (show Kept W2 (W2.drew.alloc (Obj.cells #[.int .i64 (-72)] 3)) from ((Below.refl _ _).drew).alloc (Nat.le_refl _) _) cf2
      go_region_law
        (first
        | (refine step_append (P := Try.prog) elL_int rfl (.const (.slice none 0 0)) (.tmp 18) rfl W2.drew.heap.size _ 0 [] rfl (World.ownsRow_nil _ _ _ _) (.slice aI nI kI) nI (c.ifaces.flatMap encI) ?_ (show Rd W2.drew 1 _ nI _ from RD2.out) (enc_oneI c.ifaces) (by omega) (by omega) (Nat.le_refl _) ?_; rfl; intro v4 w4 ho4 hg4 hq4; rw [Nat.zero_add, List.nil_append] at ho4; obtain ⟨e4, d4, hv4, _, _⟩ := own_slice ho4; subst hv4; have HO4 := Lib.hid ho4; have K4 := Lib.hid (show Kept W2.drew w4 from (Below.refl _ _).grown hg4 (Nat.le_refl _) (fun k hk => by cases hk)); have ce4 := Kept.cell K4.out cf2; have ca4 := Kept.cell ((Below.refl _ w4).alloc (Nat.le_refl _) (Obj.cells #[.int .i64 (-72)] 3)) ce4; clear ho4 hg4 hq4)
        | (refine step_append (P := Try.prog) elL_int rfl (.tmp 19) (.tmp 20) rfl W2.drew.heap.size (.slice e4 nI d4) nI (c.ifaces.flatMap encI) ?_ (HO4.out.alloc _) (.slice (some ⟨w4.heap.size, 0, none⟩) 1 1) 1 ([.int .i64 (-72)]) ?_ (Rd.one w4 ([.int .i64 (-72)]) 3 rfl) (by intro u hu; simp at hu; rcases hu with rfl <;> rfl) (by omega) (by omega) (by rw [World.size_alloc]; exact Nat.le_succ_of_le K4.out.size) ?_; rfl; rfl; intro v5 w5 ho5 hg5 hq5; obtain ⟨g5, e5, hv5, hcc5, hcd5, _, _, _, _⟩ := own_form ho5 (by omega); subst hv5; have HO5 := Lib.hid ho5; have K5 := Lib.hid (show Kept W2 w5 from lent_k K4.out hg5 HO4.out); have ce5 := Kept.cell K5.out cf2; have fe5 := (BT2.out.kept K5.out).frozen 6; have hs5 : (nI : Int) ≤ (e5 : Int) := (by omega); clear ho5 hg5 hq5)
        | (refine step_append (P := Try.prog) elL_int rfl (.const (.slice none 0 0)) (.tmp 18) rfl W2.drew.heap.size _ 0 [] rfl (World.ownsRow_nil _ _ _ _) (.slice aI nI kI) nI (c.ifaces.flatMap encI) ?_ (show Rd (W2.drew.alloc (.cells ([.int .i64 (-72)]).toArray 3)) 1 _ nI _ from (show Rd W2.drew 1 _ nI _ from RD2.out).kept ((Below.refl _ _).alloc (Nat.le_refl _) _)) (enc_oneI c.ifaces) (by omega) (by omega) (by rw [World.size_alloc]; exact Nat.le_succ _) ?_; rfl; intro v6 w6 ho6 hg6 hq6; rw [Nat.zero_add, List.nil_append] at ho6; obtain ⟨e6, d6, hv6, _, _⟩ := own_slice ho6; subst hv6; have HO6 := Lib.hid ho6; have K6 := Lib.hid (show Kept (W2.drew.alloc (.cells ([.int .i64 (-72)]).toArray 3)) w6 from (Below.refl _ _).grown hg6 (Nat.le_refl _) (fun k hk => by cases hk)); have RT := Lib.hid ((Rd.one W2.drew ([.int .i64 (-72)]) 3 rfl).kept K6.out); have ce6 := Kept.cell K6.out (Kept.cell (show Kept W2 (W2.drew.alloc (.cells ([.int .i64 (-72)]).toArray 3)) from ((Below.refl _ _).drew).alloc (Nat.le_refl _) _) cf2); clear ho6 hg6 hq6)
        | (refine step_append (P := Try.prog) elL_int rfl (.tmp 19) (.tmp 20) rfl W2.drew.heap.size (.slice e6 nI d6) nI (c.ifaces.flatMap encI) ?_ HO6.out (.slice (some ⟨W2.drew.heap.size, 0, none⟩) 1 1) 1 ([.int .i64 (-72)]) ?_ RT.out (by intro u hu; simp at hu; rcases hu with rfl <;> rfl) (by omega) (by omega) (Nat.le_trans (by rw [World.size_alloc]; exact Nat.le_succ _) K6.out.size) ?_; rfl; rfl; intro v5 w5 ho5 hg5 hq5; obtain ⟨g5, e5, hv5, hcc5, hcd5, _, _, _, _⟩ := own_form ho5 (by omega); subst hv5; have HO5 := Lib.hid ho5; have K5 := Lib.hid (show Kept W2 w5 from lent_k2 K6.out hg5 HO6.out); have ce5 := Kept.cell K5.out cf2; have fe5 := (BT2.out.kept K5.out).frozen 6; have hs5 : (nI : Int) ≤ (e5 : Int) := (by omega); clear ho5 hg5 hq5))
      all_goals go_wp2_with fail
      all_goals go_meet
      all_goals have HC := lent_close (i := 6) (u := .slice (some ⟨g5, 0, none⟩) nI e5) BT2.out K5.out HO5.out
      all_goals exact ⟨g5, e5, by simpa using HC.1, HC.2.1, HC.2.2, by omega, hcd5⟩
    case rest =>
      obtain ⟨g2, d2, bb2, rr2, tt2, le2, lf2⟩ := hcut
      have BT3 := Lib.hid bb2
      have RO2 := Lib.hid rr2
      have TC2 := Lib.hid tt2
      have KA3 := Lib.hid (kept_touch KA2.out (HTQt.out) tt2)
      clear bb2 rr2 tt2
      rename World => W3

      go_upto_region 3 with fail
      have RD3 := Lib.hid (RW3.out.kept KA3.out)
      go_cut [] from 27 to 37 (fun wx => ∃ g q, Blk wx t 27 #[.int .i64 c.minor, .int .i64 c.major, .slice (some ⟨g1, 0, none⟩) nP d1, .int .i64 c.access, .int .i64 c.this, .int .i64 c.super, .slice (some ⟨g2, 0, none⟩) nI d2, .slice (some ⟨g, 0, none⟩) nF q, .slice aM nM kM] ∧ Row wx (t + 1) 55 4 (.slice (some ⟨g, 0, none⟩) (nF + 1) q) (nF + 1) (c.fields.flatMap encF ++ [.int .i64 (-73), .int .i64 0, .int .i64 0, .int .i64 0]) ∧ Touch (fun b => b = t) W3 wx ∧ nF + 1 ≤ q ∧ q ≤ 9223372036854775807)
      case first =>
        have cf3 := BT3.out.cell 7
        simp only [List.getElem?_toArray, List.getElem?_cons_succ, List.getElem?_cons_zero] at cf3
        have fz3 := BT3.out.frozen 7
        have sW3 : t < W3.heap.size := BT3.out.lt
        have hI3 : (nF : Int) ≤ (kF : Int) := by omega
        have h03 : (0 : Int) ≤ (nF : Int) := by omega
        have cx3 := Kept.cell (show Kept W3 (W3.drew.alloc (Obj.cells #[.int .i64 (-73), .int .i64 0, .int .i64 0, .int .i64 0] 55)) from ((Below.refl _ _).drew).alloc (Nat.le_refl _) _) cf3
        go_region_law
          (first
          | (refine step_append (P := Try.prog) elL_field rfl (.const (.slice none 0 0)) (.tmp 28) rfl W3.drew.heap.size _ 0 [] rfl (World.ownsRow_nil _ _ _ _) (.slice aF nF kF) nF (c.fields.flatMap encF) ?_ (show Rd W3.drew 4 _ nF _ from RD3.out) (enc_oneF c.fields) (by omega) (by omega) (Nat.le_refl _) ?_; rfl; intro v4 w4 ho4 hg4 hq4; rw [Nat.zero_add, List.nil_append] at ho4; obtain ⟨e4, d4, hv4, _, _⟩ := own_slice ho4; subst hv4; have HO4 := Lib.hid ho4; have K4 := Lib.hid (show Kept W3.drew w4 from (Below.refl _ _).grown hg4 (Nat.le_refl _) (fun k hk => by cases hk)); have ce4 := Kept.cell K4.out cf3; have ca4 := Kept.cell ((Below.refl _ w4).alloc (Nat.le_refl _) (Obj.cells #[.int .i64 (-73), .int .i64 0, .int .i64 0, .int .i64 0] 55)) ce4; clear ho4 hg4 hq4)
          | (refine step_append (P := Try.prog) elL_field rfl (.tmp 29) (.tmp 31) rfl W3.drew.heap.size (.slice e4 nF d4) nF (c.fields.flatMap encF) ?_ (HO4.out.alloc _) (.slice (some ⟨w4.heap.size, 0, none⟩) 1 1) 1 ([.int .i64 (-73), .int .i64 0, .int .i64 0, .int .i64 0]) ?_ (Rd.one w4 ([.int .i64 (-73), .int .i64 0, .int .i64 0, .int .i64 0]) 55 rfl) (by intro u hu; simp at hu; rcases hu with rfl | rfl | rfl | rfl <;> rfl) (by omega) (by omega) (by rw [World.size_alloc]; exact Nat.le_succ_of_le K4.out.size) ?_; rfl; rfl; intro v5 w5 ho5 hg5 hq5; obtain ⟨g5, e5, hv5, hcc5, hcd5, _, _, _, _⟩ := own_form ho5 (by omega); subst hv5; have HO5 := Lib.hid ho5; have K5 := Lib.hid (show Kept W3 w5 from lent_k K4.out hg5 HO4.out); have ce5 := Kept.cell K5.out cf3; have fe5 := (BT3.out.kept K5.out).frozen 7; have hs5 : (nF : Int) ≤ (e5 : Int) := (by omega); clear ho5 hg5 hq5)
          | (refine step_append (P := Try.prog) elL_field rfl (.const (.slice none 0 0)) (.tmp 28) rfl W3.drew.heap.size _ 0 [] rfl (World.ownsRow_nil _ _ _ _) (.slice aF nF kF) nF (c.fields.flatMap encF) ?_ (show Rd (W3.drew.alloc (.cells ([.int .i64 (-73), .int .i64 0, .int .i64 0, .int .i64 0]).toArray 55)) 4 _ nF _ from (show Rd W3.drew 4 _ nF _ from RD3.out).kept ((Below.refl _ _).alloc (Nat.le_refl _) _)) (enc_oneF c.fields) (by omega) (by omega) (by rw [World.size_alloc]; exact Nat.le_succ _) ?_; rfl; intro v6 w6 ho6 hg6 hq6; rw [Nat.zero_add, List.nil_append] at ho6; obtain ⟨e6, d6, hv6, _, _⟩ := own_slice ho6; subst hv6; have HO6 := Lib.hid ho6; have K6 := Lib.hid (show Kept (W3.drew.alloc (.cells ([.int .i64 (-73), .int .i64 0, .int .i64 0, .int .i64 0]).toArray 55)) w6 from (Below.refl _ _).grown hg6 (Nat.le_refl _) (fun k hk => by cases hk)); have RT := Lib.hid ((Rd.one W3.drew ([.int .i64 (-73), .int .i64 0, .int .i64 0, .int .i64 0]) 55 rfl).kept K6.out); have ce6 := Kept.cell K6.out (Kept.cell (show Kept W3 (W3.drew.alloc (.cells ([.int .i64 (-73), .int .i64 0, .int .i64 0, .int .i64 0]).toArray 55)) from ((Below.refl _ _).drew).alloc (Nat.le_refl _) _) cf3); clear ho6 hg6 hq6)
          | (refine step_append (P := Try.prog) elL_field rfl (.tmp 29) (.tmp 31) rfl W3.drew.heap.size (.slice e6 nF d6) nF (c.fields.flatMap encF) ?_ HO6.out (.slice (some ⟨W3.drew.heap.size, 0, none⟩) 1 1) 1 ([.int .i64 (-73), .int .i64 0, .int .i64 0, .int .i64 0]) ?_ RT.out (by intro u hu; simp at hu; rcases hu with rfl | rfl | rfl | rfl <;> rfl) (by omega) (by omega) (Nat.le_trans (by rw [World.size_alloc]; exact Nat.le_succ _) K6.out.size) ?_; rfl; rfl; intro v5 w5 ho5 hg5 hq5; obtain ⟨g5, e5, hv5, hcc5, hcd5, _, _, _, _⟩ := own_form ho5 (by omega); subst hv5; have HO5 := Lib.hid ho5; have K5 := Lib.hid (show Kept W3 w5 from lent_k2 K6.out hg5 HO6.out); have ce5 := Kept.cell K5.out cf3; have fe5 := (BT3.out.kept K5.out).frozen 7; have hs5 : (nF : Int) ≤ (e5 : Int) := (by omega); clear ho5 hg5 hq5))
        all_goals go_wp2_with fail
        all_goals go_meet
        all_goals have HC := lent_close (i := 7) (u := .slice (some ⟨g5, 0, none⟩) nF e5) BT3.out K5.out HO5.out
        all_goals exact ⟨g5, e5, by simpa using HC.1, HC.2.1, HC.2.2, by omega, hcd5⟩
      case rest =>
        obtain ⟨g3, d3, bb3, rr3, tt3, le3, lf3⟩ := hcut
        have BT4 := Lib.hid bb3
        have RO3 := Lib.hid rr3
        have TC3 := Lib.hid tt3
        have KA4 := Lib.hid (kept_touch KA3.out (HTQt.out) tt3)
        clear bb3 rr3 tt3
        rename World => W4

        have BR4 := Lib.hid (((BR1.out.touch TC1.out (by omega)).touch TC2.out (by omega)).touch TC3.out (by omega))
        have LP4 : Hid (LRow W4 w.heap.size 47 5 (.slice (some ⟨g1, 0, none⟩) nP d1) nP (c.pool.flatMap encC) [.int .i64 (-71), .string ⟨#[]⟩, .int .i64 0, .int .i64 0, .int .i64 0]) := Lib.hid ⟨g1, d1, rfl, ((RO1.out.touch TC2.out (fun b hb e => by have := (RO1.out.lt b hb).1; omega)).touch TC3.out (fun b hb e => by have := (RO1.out.lt b hb).1; omega)).base (by have := HT.out; omega), RW1.out.1⟩
        have LI4 : Hid (LRow W4 w.heap.size 3 1 (.slice (some ⟨g2, 0, none⟩) nI d2) nI (c.ifaces.flatMap encI) [.int .i64 (-72)]) := Lib.hid ⟨g2, d2, rfl, (RO2.out.touch TC3.out (fun b hb e => by have := (RO2.out.lt b hb).1; omega)).base (by have := HT.out; omega), RW2.out.1⟩
        have LF4 : Hid (LRow W4 w.heap.size 55 4 (.slice (some ⟨g3, 0, none⟩) nF d3) nF (c.fields.flatMap encF) [.int .i64 (-73), .int .i64 0, .int .i64 0, .int .i64 0]) := Lib.hid ⟨g3, d3, rfl, RO3.out.base (by have := HT.out; omega), RW3.out.1⟩
        clear BT1 BT2 BT3 BR1 RO1 RO2 RO3 TC1 TC2 TC3 RD1 RD2 RD3 RW1 RW2 RW3 KA1 KA2 KA3
        have hz4 : w.heap.size ≤ W4.heap.size := KA4.out.size
        go_wp2_with fail
        go_loopw [3, 4] (fun s3 s4 wr => ∃ (k : Nat) (ml : List (MethC × Value × Value)), k ≤ nM ∧ s4 = .int .i64 k ∧ ml.map (fun x => x.1) = (mv.take k).map (fun x => x.1) ∧ wr.ownsRow W4.heap.size 52 8 s3 k (ml.flatMap encM) ∧ (∀ x ∈ ml, LMt wr W4.heap.size x.1 x.2.1 x.2.2) ∧ Kept W4 wr) (fun _ s4 _ => nM - (intOf s4).toNat)
        case atStart => exact ⟨0, [], by omega, rfl, rfl, World.ownsRow_nil _ _ _ _, by simp, Below.refl _ _⟩
        case round =>
        rename World => wr
        obtain ⟨k, ml, hk, rfl, hml, ho, hlr, hkr⟩ := hrel
        obtain ⟨ao, co, rfl, hco, hco2⟩ := own_slice ho
        have hll : ml.length = k := by
          have := congrArg List.length hml
          simp only [List.length_map, List.length_take] at this
          have := N4.out
          omega
        have HML := Lib.hid hml
        have HLL := Lib.hid hll
        have HO := Lib.hid ho
        have HLR := Lib.hid hlr
        have KR := Lib.hid hkr
        have zr := hkr.size
        have KWR := Lib.hid (Kept.trans KA4.out hkr)
        have HBT := Lib.hid (BT4.out.kept hkr)
        clear hml hll ho hlr hkr
        have t0 := HBT.out.cell 0
        have t1 := HBT.out.cell 1
        have t2 := HBT.out.cell 2
        have t3 := HBT.out.cell 3
        have t4 := HBT.out.cell 4
        have t5 := HBT.out.cell 5
        have t6 := HBT.out.cell 6
        have t7 := HBT.out.cell 7
        have t8 := HBT.out.cell 8
        simp only [List.getElem?_toArray, List.getElem?_cons_succ, List.getElem?_cons_zero] at t0 t1 t2 t3 t4 t5 t6 t7 t8
        by_cases hlt : k < nM
        · have HR0 := Lib.hid (RWA.out.r)
          obtain ⟨⟨m, vc, vt⟩, hx⟩ : ∃ x, mv[k]? = some x := ⟨_, List.getElem?_eq_getElem (by have := N4.out; omega)⟩
          obtain ⟨b1, o1, d1, hv1, e0, e1, e2, e3, e4, e5, e6, e7⟩ := meth_cells N4.out (RWM.out.kept KWR.out) hx
          have hrm : MRd wr m vc vt := (HR0.out _ (List.mem_of_getElem? hx)).kept KWR.out
          simp only [Value.slice.injEq] at hv1
          obtain ⟨rfl, -, rfl⟩ := hv1
          dsimp only at e0 e1 e2 e3 e4 e5 e6 e7
          obtain ⟨lc, hlc⟩ : ∃ lc, lc = m.code.length := ⟨_, rfl⟩
          obtain ⟨lt, hlt'⟩ : ∃ lt, lt = m.traps.length := ⟨_, rfl⟩
          have hrc := hrm.code
          have hrt := hrm.traps
          clear hrm
          rw [← hlc] at hrc
          rw [← hlt'] at hrt
          have HRc := Lib.hid hrc
          have HRt := Lib.hid hrt
          obtain ⟨_, ac, kc, rfl, -⟩ := hrc
          obtain ⟨_, at_, kt, rfl, -⟩ := hrt
          have hkI : (k : Int) < (nM : Int) := by omega
          have h0I : (0 : Int) ≤ (k : Int) := by omega
          have HX := Lib.hid hx
          have HLC := Lib.hid hlc
          have HLT := Lib.hid hlt'
          clear hx hlc hlt' 
          have bc : lc ≤ 140737488351232 := by
            have := (HSZ.out.r m (by rw [HMS.out]; exact List.mem_map_of_mem (List.mem_of_getElem? HX.out))).1
            have := HLC.out
            omega
          have bt : lt * 32 ≤ 140737488351232 := by
            have := (HSZ.out.r m (by rw [HMS.out]; exact List.mem_map_of_mem (List.mem_of_getElem? HX.out))).2
            have := HLT.out
            omega
          have qc : lc ≤ kc ∧ kc ≤ 9223372036854775807 := by obtain ⟨_, _, _, e, x1, x2, _⟩ := HRc.out; cases e; exact ⟨x1, x2⟩
          have qt : lt ≤ kt ∧ kt ≤ 9223372036854775807 := by obtain ⟨_, _, _, e, x1, x2, _⟩ := HRt.out; cases e; exact ⟨x1, x2⟩
          have RW9 := HRc
          have RW10 := HRt
          go_upto_region 9 with fail
          obtain ⟨tm, htm⟩ : ∃ b, b = wr.heap.size := ⟨_, rfl⟩
          have kA : Kept wr (wr.alloc (.cells #[.int .i64 m.access, .int .i64 m.name, .int .i64 m.desc, .bool m.has, .int .i64 m.stack, .int .i64 m.locals, .slice ac lc kc, .slice at_ lt kt] 52)) := (Below.refl _ _).alloc (Nat.le_refl _) _
          have bA : Blk (wr.alloc (.cells #[.int .i64 m.access, .int .i64 m.name, .int .i64 m.desc, .bool m.has, .int .i64 m.stack, .int .i64 m.locals, .slice ac lc kc, .slice at_ lt kt] 52)) tm 52 #[.int .i64 m.access, .int .i64 m.name, .int .i64 m.desc, .bool m.has, .int .i64 m.stack, .int .i64 m.locals, .slice ac lc kc, .slice at_ lt kt] := by rw [htm]; exact Blk.new _ _ _
          rw [← htm]
          generalize (wr.alloc (.cells #[.int .i64 m.access, .int .i64 m.name, .int .i64 m.desc, .bool m.has, .int .i64 m.stack, .int .i64 m.locals, .slice ac lc kc, .slice at_ lt kt] 52)) = W9 at *
          have KA9 := Lib.hid kA
          have BT9 := Lib.hid bA
          have HTQtm := Lib.hid (Nat.le_of_eq htm.symm)
          have HTM := Lib.hid htm
          clear kA bA htm e0 e1 e2 e3 e4 e5 e6 e7 t0 t1 t2 t3 t4 t5 t6 t7 t8
          go_upto_region 9 with fail
          have RD9 := Lib.hid (RW9.out.kept KA9.out)
          go_cut [] from 50 to 59 (fun wx => ∃ g q, Blk wx tm 52 #[.int .i64 m.access, .int .i64 m.name, .int .i64 m.desc, .bool m.has, .int .i64 m.stack, .int .i64 m.locals, .slice (some ⟨g, 0, none⟩) lc q, .slice at_ lt kt] ∧ Row wx (tm + 1) 5 1 (.slice (some ⟨g, 0, none⟩) (lc + 1) q) (lc + 1) (m.code.map byteV ++ [.int .u8 167]) ∧ Touch (fun b => b = tm) W9 wx ∧ lc + 1 ≤ q ∧ q ≤ 9223372036854775807)
          case first =>
            have cf9 := BT9.out.cell 6
            simp only [List.getElem?_toArray, List.getElem?_cons_succ, List.getElem?_cons_zero] at cf9
            have fz9 := BT9.out.frozen 6
            have sW9 : tm < W9.heap.size := BT9.out.lt
            have hI9 : (lc : Int) ≤ (kc : Int) := by omega
            have h09 : (0 : Int) ≤ (lc : Int) := by omega
            have cx9 := Kept.cell (show Kept W9 (W9.drew.alloc (Obj.cells #[.int .u8 167] 5)) from ((Below.refl _ _).drew).alloc (Nat.le_refl _) _) cf9
            go_region_law
              (first
              | (refine step_append (P := Try.prog) elL_byte rfl (.const (.slice none 0 0)) (.tmp 51) rfl W9.drew.heap.size _ 0 [] rfl (World.ownsRow_nil _ _ _ _) (.slice ac lc kc) lc (m.code.map byteV) ?_ (show Rd W9.drew 1 _ lc _ from RD9.out) (enc_oneB m.code) (by omega) (by omega) (Nat.le_refl _) ?_; rfl; intro v4 w4 ho4 hg4 hq4; rw [Nat.zero_add, List.nil_append] at ho4; obtain ⟨e4, d4, hv4, _, _⟩ := own_slice ho4; subst hv4; have HO4 := Lib.hid ho4; have K4 := Lib.hid (show Kept W9.drew w4 from (Below.refl _ _).grown hg4 (Nat.le_refl _) (fun k hk => by cases hk)); have ce4 := Kept.cell K4.out cf9; have ca4 := Kept.cell ((Below.refl _ w4).alloc (Nat.le_refl _) (Obj.cells #[.int .u8 167] 5)) ce4; clear ho4 hg4 hq4)
              | (refine step_append (P := Try.prog) elL_byte rfl (.tmp 52) (.tmp 53) rfl W9.drew.heap.size (.slice e4 lc d4) lc (m.code.map byteV) ?_ (HO4.out.alloc _) (.slice (some ⟨w4.heap.size, 0, none⟩) 1 1) 1 ([.int .u8 167]) ?_ (Rd.one w4 ([.int .u8 167]) 5 rfl) (by intro u hu; simp at hu; rcases hu with rfl <;> rfl) (by omega) (by omega) (by rw [World.size_alloc]; exact Nat.le_succ_of_le K4.out.size) ?_; rfl; rfl; intro v5 w5 ho5 hg5 hq5; obtain ⟨g5, e5, hv5, hcc5, hcd5, _, _, _, _⟩ := own_form ho5 (by omega); subst hv5; have HO5 := Lib.hid ho5; have K5 := Lib.hid (show Kept W9 w5 from lent_k K4.out hg5 HO4.out); have ce5 := Kept.cell K5.out cf9; have fe5 := (BT9.out.kept K5.out).frozen 6; have hs5 : (lc : Int) ≤ (e5 : Int) := (by omega); clear ho5 hg5 hq5)
              | (refine step_append (P := Try.prog) elL_byte rfl (.const (.slice none 0 0)) (.tmp 51) rfl W9.drew.heap.size _ 0 [] rfl (World.ownsRow_nil _ _ _ _) (.slice ac lc kc) lc (m.code.map byteV) ?_ (show Rd (W9.drew.alloc (.cells ([.int .u8 167]).toArray 5)) 1 _ lc _ from (show Rd W9.drew 1 _ lc _ from RD9.out).kept ((Below.refl _ _).alloc (Nat.le_refl _) _)) (enc_oneB m.code) (by omega) (by omega) (by rw [World.size_alloc]; exact Nat.le_succ _) ?_; rfl; intro v6 w6 ho6 hg6 hq6; rw [Nat.zero_add, List.nil_append] at ho6; obtain ⟨e6, d6, hv6, _, _⟩ := own_slice ho6; subst hv6; have HO6 := Lib.hid ho6; have K6 := Lib.hid (show Kept (W9.drew.alloc (.cells ([.int .u8 167]).toArray 5)) w6 from (Below.refl _ _).grown hg6 (Nat.le_refl _) (fun k hk => by cases hk)); have RT := Lib.hid ((Rd.one W9.drew ([.int .u8 167]) 5 rfl).kept K6.out); have ce6 := Kept.cell K6.out (Kept.cell (show Kept W9 (W9.drew.alloc (.cells ([.int .u8 167]).toArray 5)) from ((Below.refl _ _).drew).alloc (Nat.le_refl _) _) cf9); clear ho6 hg6 hq6)
              | (refine step_append (P := Try.prog) elL_byte rfl (.tmp 52) (.tmp 53) rfl W9.drew.heap.size (.slice e6 lc d6) lc (m.code.map byteV) ?_ HO6.out (.slice (some ⟨W9.drew.heap.size, 0, none⟩) 1 1) 1 ([.int .u8 167]) ?_ RT.out (by intro u hu; simp at hu; rcases hu with rfl <;> rfl) (by omega) (by omega) (Nat.le_trans (by rw [World.size_alloc]; exact Nat.le_succ _) K6.out.size) ?_; rfl; rfl; intro v5 w5 ho5 hg5 hq5; obtain ⟨g5, e5, hv5, hcc5, hcd5, _, _, _, _⟩ := own_form ho5 (by omega); subst hv5; have HO5 := Lib.hid ho5; have K5 := Lib.hid (show Kept W9 w5 from lent_k2 K6.out hg5 HO6.out); have ce5 := Kept.cell K5.out cf9; have fe5 := (BT9.out.kept K5.out).frozen 6; have hs5 : (lc : Int) ≤ (e5 : Int) := (by omega); clear ho5 hg5 hq5))
            all_goals go_wp2_with fail
            all_goals go_meet
            all_goals have HC := lent_close (i := 6) (u := .slice (some ⟨g5, 0, none⟩) lc e5) BT9.out K5.out HO5.out
            all_goals exact ⟨g5, e5, by simpa using HC.1, HC.2.1, HC.2.2, by omega, hcd5⟩
          case rest =>
            obtain ⟨g9, d9, bb9, rr9, tt9, le9, lf9⟩ := hcut
            have BT10 := Lib.hid bb9
            have RO9 := Lib.hid rr9
            have TC9 := Lib.hid tt9
            have KA10 := Lib.hid (kept_touch KA9.out (HTQtm.out) tt9)
            clear bb9 rr9 tt9
            rename World => W10

            go_upto_region 10 with fail
            have RD10 := Lib.hid (RW10.out.kept KA10.out)
            go_cut [] from 60 to 70 (fun wx => ∃ g q, Blk wx tm 52 #[.int .i64 m.access, .int .i64 m.name, .int .i64 m.desc, .bool m.has, .int .i64 m.stack, .int .i64 m.locals, .slice (some ⟨g9, 0, none⟩) lc d9, .slice (some ⟨g, 0, none⟩) lt q] ∧ Row wx (tm + 1) 59 4 (.slice (some ⟨g, 0, none⟩) (lt + 1) q) (lt + 1) (m.traps.flatMap encT ++ [.int .i64 (-74), .int .i64 0, .int .i64 0, .int .i64 0]) ∧ Touch (fun b => b = tm) W10 wx ∧ lt + 1 ≤ q ∧ q ≤ 9223372036854775807)
            case first =>
              have cf10 := BT10.out.cell 7
              simp only [List.getElem?_toArray, List.getElem?_cons_succ, List.getElem?_cons_zero] at cf10
              have fz10 := BT10.out.frozen 7
              have sW10 : tm < W10.heap.size := BT10.out.lt
              have hI10 : (lt : Int) ≤ (kt : Int) := by omega
              have h010 : (0 : Int) ≤ (lt : Int) := by omega
              have cx10 := Kept.cell (show Kept W10 (W10.drew.alloc (Obj.cells #[.int .i64 (-74), .int .i64 0, .int .i64 0, .int .i64 0] 59)) from ((Below.refl _ _).drew).alloc (Nat.le_refl _) _) cf10
              go_region_law
                (first
                | (refine step_append (P := Try.prog) elL_trap rfl (.const (.slice none 0 0)) (.tmp 61) rfl W10.drew.heap.size _ 0 [] rfl (World.ownsRow_nil _ _ _ _) (.slice at_ lt kt) lt (m.traps.flatMap encT) ?_ (show Rd W10.drew 4 _ lt _ from RD10.out) (enc_oneT m.traps) (by omega) (by omega) (Nat.le_refl _) ?_; rfl; intro v4 w4 ho4 hg4 hq4; rw [Nat.zero_add, List.nil_append] at ho4; obtain ⟨e4, d4, hv4, _, _⟩ := own_slice ho4; subst hv4; have HO4 := Lib.hid ho4; have K4 := Lib.hid (show Kept W10.drew w4 from (Below.refl _ _).grown hg4 (Nat.le_refl _) (fun k hk => by cases hk)); have ce4 := Kept.cell K4.out cf10; have ca4 := Kept.cell ((Below.refl _ w4).alloc (Nat.le_refl _) (Obj.cells #[.int .i64 (-74), .int .i64 0, .int .i64 0, .int .i64 0] 59)) ce4; clear ho4 hg4 hq4)
                | (refine step_append (P := Try.prog) elL_trap rfl (.tmp 62) (.tmp 64) rfl W10.drew.heap.size (.slice e4 lt d4) lt (m.traps.flatMap encT) ?_ (HO4.out.alloc _) (.slice (some ⟨w4.heap.size, 0, none⟩) 1 1) 1 ([.int .i64 (-74), .int .i64 0, .int .i64 0, .int .i64 0]) ?_ (Rd.one w4 ([.int .i64 (-74), .int .i64 0, .int .i64 0, .int .i64 0]) 59 rfl) (by intro u hu; simp at hu; rcases hu with rfl | rfl | rfl | rfl <;> rfl) (by omega) (by omega) (by rw [World.size_alloc]; exact Nat.le_succ_of_le K4.out.size) ?_; rfl; rfl; intro v5 w5 ho5 hg5 hq5; obtain ⟨g5, e5, hv5, hcc5, hcd5, _, _, _, _⟩ := own_form ho5 (by omega); subst hv5; have HO5 := Lib.hid ho5; have K5 := Lib.hid (show Kept W10 w5 from lent_k K4.out hg5 HO4.out); have ce5 := Kept.cell K5.out cf10; have fe5 := (BT10.out.kept K5.out).frozen 7; have hs5 : (lt : Int) ≤ (e5 : Int) := (by omega); clear ho5 hg5 hq5)
                | (refine step_append (P := Try.prog) elL_trap rfl (.const (.slice none 0 0)) (.tmp 61) rfl W10.drew.heap.size _ 0 [] rfl (World.ownsRow_nil _ _ _ _) (.slice at_ lt kt) lt (m.traps.flatMap encT) ?_ (show Rd (W10.drew.alloc (.cells ([.int .i64 (-74), .int .i64 0, .int .i64 0, .int .i64 0]).toArray 59)) 4 _ lt _ from (show Rd W10.drew 4 _ lt _ from RD10.out).kept ((Below.refl _ _).alloc (Nat.le_refl _) _)) (enc_oneT m.traps) (by omega) (by omega) (by rw [World.size_alloc]; exact Nat.le_succ _) ?_; rfl; intro v6 w6 ho6 hg6 hq6; rw [Nat.zero_add, List.nil_append] at ho6; obtain ⟨e6, d6, hv6, _, _⟩ := own_slice ho6; subst hv6; have HO6 := Lib.hid ho6; have K6 := Lib.hid (show Kept (W10.drew.alloc (.cells ([.int .i64 (-74), .int .i64 0, .int .i64 0, .int .i64 0]).toArray 59)) w6 from (Below.refl _ _).grown hg6 (Nat.le_refl _) (fun k hk => by cases hk)); have RT := Lib.hid ((Rd.one W10.drew ([.int .i64 (-74), .int .i64 0, .int .i64 0, .int .i64 0]) 59 rfl).kept K6.out); have ce6 := Kept.cell K6.out (Kept.cell (show Kept W10 (W10.drew.alloc (.cells ([.int .i64 (-74), .int .i64 0, .int .i64 0, .int .i64 0]).toArray 59)) from ((Below.refl _ _).drew).alloc (Nat.le_refl _) _) cf10); clear ho6 hg6 hq6)
                | (refine step_append (P := Try.prog) elL_trap rfl (.tmp 62) (.tmp 64) rfl W10.drew.heap.size (.slice e6 lt d6) lt (m.traps.flatMap encT) ?_ HO6.out (.slice (some ⟨W10.drew.heap.size, 0, none⟩) 1 1) 1 ([.int .i64 (-74), .int .i64 0, .int .i64 0, .int .i64 0]) ?_ RT.out (by intro u hu; simp at hu; rcases hu with rfl | rfl | rfl | rfl <;> rfl) (by omega) (by omega) (Nat.le_trans (by rw [World.size_alloc]; exact Nat.le_succ _) K6.out.size) ?_; rfl; rfl; intro v5 w5 ho5 hg5 hq5; obtain ⟨g5, e5, hv5, hcc5, hcd5, _, _, _, _⟩ := own_form ho5 (by omega); subst hv5; have HO5 := Lib.hid ho5; have K5 := Lib.hid (show Kept W10 w5 from lent_k2 K6.out hg5 HO6.out); have ce5 := Kept.cell K5.out cf10; have fe5 := (BT10.out.kept K5.out).frozen 7; have hs5 : (lt : Int) ≤ (e5 : Int) := (by omega); clear ho5 hg5 hq5))
              all_goals go_wp2_with fail
              all_goals go_meet
              all_goals have HC := lent_close (i := 7) (u := .slice (some ⟨g5, 0, none⟩) lt e5) BT10.out K5.out HO5.out
              all_goals exact ⟨g5, e5, by simpa using HC.1, HC.2.1, HC.2.2, by omega, hcd5⟩
            case rest =>
              obtain ⟨g10, d10, bb10, rr10, tt10, le10, lf10⟩ := hcut
              have BT11 := Lib.hid bb10
              have RO10 := Lib.hid rr10
              have TC10 := Lib.hid tt10
              have KA11 := Lib.hid (kept_touch KA10.out (HTQtm.out) tt10)
              clear bb10 rr10 tt10
              rename World => W11

              have OW := Lib.hid ((Touch.of_kept (S := fun _ => False) KA11.out).own HO.out (fun _ _ => id))
              have zw : W4.heap.size ≤ W11.heap.size := Nat.le_trans zr KA11.out.size
              have e0 := BT11.out.cell 0
              have e1 := BT11.out.cell 1
              have e2 := BT11.out.cell 2
              have e3 := BT11.out.cell 3
              have e4 := BT11.out.cell 4
              have e5 := BT11.out.cell 5
              have e6 := BT11.out.cell 6
              have e7 := BT11.out.cell 7
              simp only [List.getElem?_toArray, List.getElem?_cons_succ, List.getElem?_cons_zero] at e0 e1 e2 e3 e4 e5 e6 e7
              go_wp2_with (at_builtin; refine wpl_pushH _ elL_meth rfl _ _ rfl W4.heap.size _ k _ rfl OW.out [.int .i64 m.access, .int .i64 m.name, .int .i64 m.desc, .bool m.has, .int .i64 m.stack, .int .i64 m.locals, .slice (some ⟨g9, 0, none⟩) lc d9, .slice (some ⟨g10, 0, none⟩) lt d10] _ W11.heap.size rfl rfl rfl (by intro u hu; simp at hu; rcases hu with rfl | rfl | rfl | rfl | rfl | rfl | rfl | rfl <;> rfl) (by omega) (by omega) zw ?_; intro v3 w3 ho3 hg3 hk3 hb3; have HO3 := Lib.hid ho3; have HG3 := Lib.hid hg3; have HB3 := Lib.hid hb3; clear ho3 hg3 hk3 hb3)
              go_roundw
              case rel =>
                refine ⟨k + 1, ml ++ [(m, .slice (some ⟨g9, 0, none⟩) lc d9, .slice (some ⟨g10, 0, none⟩) lt d10)], by omega, by go_num, ?_, ?_, ?_, Below.trans (Kept.trans KR.out KA11.out) HB3.out⟩
                · rw [List.map_append, HML.out, List.take_add_one, List.map_append, HX.out]
                  rfl
                · rw [List.flatMap_append]
                  exact HO3.out
                · have T3 : Touch (fun b => (Value.slice ao k co).ownBlock = some b) W11 w3 := Touch.of_grown HG3.out (fun k hk => hk)
                  have hty : ∀ b, (Value.slice ao k co).ownBlock = some b → b < W11.heap.size → TyAt W11 b 52 := fun b hb _ => own_ty OW.out b hb
                  intro y' hy'
                  rcases List.mem_append.1 hy' with hy' | hy'
                  · exact ((HLR.out y' hy').kept KA11.out).touch T3 hty
                  · obtain rfl := List.mem_singleton.1 hy'
                    have h9 := RO9.out.touch TC10.out (fun b hb e => by have := (RO9.out.lt b hb).1; omega)
                    have hB : W4.heap.size ≤ tm + 1 := by have := HTM.out; omega
                    refine LMt.touch ⟨⟨g9, d9, by rw [HLC.out], ?_, by simp⟩, ⟨g10, d10, by rw [HLT.out], ?_, flat_length encT 4 (fun _ => rfl) _⟩⟩ T3 hty
                    · rw [← HLC.out]; exact h9.base hB
                    · rw [← HLT.out]; exact RO10.out.base hB
              case measure =>
                simp only [intOf]
                omega
        · obtain rfl : k = nM := by omega
          have hkI : ¬ ((k : Int) < (k : Int)) := by omega
          have zt : t < wr.heap.size := HBT.out.lt
          have HBRr := Lib.hid (BR4.out.kept KR.out)
          go_upto_region 13 with (at_builtin; refine wpl_pushH _ elL_meth rfl _ _ rfl W4.heap.size _ k _ rfl HO.out [.int .i64 (-75), .int .i64 0, .int .i64 0, .bool false, .int .i64 0, .int .i64 0, .slice none 0 0, .slice none 0 0] _ wr.heap.size rfl rfl rfl (by intro u hu; simp at hu; rcases hu with rfl | rfl | rfl | rfl | rfl | rfl | rfl | rfl <;> rfl) (by omega) (by omega) zr ?_; intro v3 w3 ho3 hg3 hk3 hb3; obtain ⟨g12, c12, hv3, hcc3, hcd3, _, _, _, _⟩ := own_form ho3 (by omega); subst hv3; have HO3 := Lib.hid ho3; have HG3 := Lib.hid hg3; have HB3 := Lib.hid hb3; have hc3 : (k : Int) ≤ (c12 : Int) := (by omega); have h03 : (0 : Int) ≤ (k : Int) := (by omega); have HBT3 := Lib.hid (HBT.out.touch (Touch.of_grown (S := fun b => (Value.slice ao k co).ownBlock = some b) hg3 (fun k hk => hk)) (fun e => own_ne HO.out HBT.out (by decide) _ e rfl)); have HBR3 := Lib.hid (HBRr.out.touch (Touch.of_grown (S := fun b => (Value.slice ao k co).ownBlock = some b) hg3 (fun k hk => hk)) (fun e => own_ne HO.out HBRr.out (by decide) _ e rfl)); have y8 := HBT3.out.cell 8; have yf8 := HBT3.out.frozen 8; simp only [List.getElem?_toArray, List.getElem?_cons_succ, List.getElem?_cons_zero] at y8; clear ho3 hg3 hk3 hb3)
          have HBTn : Hid (Blk (w3.setCell ⟨t, 8, none⟩ (.slice (some ⟨g12, 0, none⟩) k c12)) t 27 #[.int .i64 c.minor, .int .i64 c.major, .slice (some ⟨g1, 0, none⟩) nP d1, .int .i64 c.access, .int .i64 c.this, .int .i64 c.super, .slice (some ⟨g2, 0, none⟩) nI d2, .slice (some ⟨g3, 0, none⟩) nF d3, .slice (some ⟨g12, 0, none⟩) k c12]) := Lib.hid (HBT3.out.set_ 8 (.slice (some ⟨g12, 0, none⟩) k c12))
          have hts : Touch (fun b => b = t) w3 (w3.setCell ⟨t, 8, none⟩ (.slice (some ⟨g12, 0, none⟩) k c12)) := (Touch.refl (fun b => b = t) w3).setCell (p := ⟨t, 8, none⟩) (.inl rfl) _
          have HTS := Lib.hid hts
          have HBRn := Lib.hid (HBR3.out.touch hts (by omega))
          clear hts y8 yf8
          generalize (w3.setCell ⟨t, 8, none⟩ (.slice (some ⟨g12, 0, none⟩) k c12)) = wn at *
          have u0 := HBTn.out.cell 0
          have u1 := HBTn.out.cell 1
          have u2 := HBTn.out.cell 2
          have u3 := HBTn.out.cell 3
          have u4 := HBTn.out.cell 4
          have u5 := HBTn.out.cell 5
          have u6 := HBTn.out.cell 6
          have u7 := HBTn.out.cell 7
          have u8 := HBTn.out.cell 8
          simp only [List.getElem?_toArray, List.getElem?_cons_succ, List.getElem?_cons_zero] at u0 u1 u2 u3 u4 u5 u6 u7 u8
          have HLV := Lib.hid (run_loadVar_row (P := Try.prog) _ (t + 1) 27 27 #[.int .i64 c.minor, .int .i64 c.major, .slice (some ⟨g1, 0, none⟩) nP d1, .int .i64 c.access, .int .i64 c.this, .int .i64 c.super, .slice (some ⟨g2, 0, none⟩) nI d2, .slice (some ⟨g3, 0, none⟩) nF d3, .slice (some ⟨g12, 0, none⟩) k c12] (0, 0) _ (setRow_heap _ _ _ _ _ _ HBRn.out) Try.underlying27 rfl (by kernel_rfl))
          go_wp2_with (refine wpList_store_row rfl 27 _ _ rfl (t + 1) #[.int .i64 c.minor, .int .i64 c.major, .slice (some ⟨g1, 0, none⟩) nP d1, .int .i64 c.access, .int .i64 c.this, .int .i64 c.super, .slice (some ⟨g2, 0, none⟩) nI d2, .slice (some ⟨g3, 0, none⟩) nF d3, .slice (some ⟨g12, 0, none⟩) k c12] rfl (by rfl) 27 _ HBRn.out (by kernel_rfl) (by rfl) (by kernel_rfl) ?_)
          have HL := HLV.out
          refine bodyPost_ret (v := .agg #[.int .i64 c.minor, .int .i64 c.major, .slice (some ⟨g1, 0, none⟩) nP d1, .int .i64 c.access, .int .i64 c.this, .int .i64 c.super, .slice (some ⟨g2, 0, none⟩) nI d2, .slice (some ⟨g3, 0, none⟩) nF d3, .slice (some ⟨g12, 0, none⟩) k c12]) ?_ rfl ?_
          · simp [results, Try.results15, asAddr, HL]
          · have hmk : ml.map (fun x => x.1) = mv.map (fun x => x.1) := by rw [HML.out, List.take_of_length_le (by have := N4.out; omega)]
            have hTR : Touch (fun b => b = t + 1) wn (wn.setRow (t + 1) #[.int .i64 c.minor, .int .i64 c.major, .slice (some ⟨g1, 0, none⟩) nP d1, .int .i64 c.access, .int .i64 c.this, .int .i64 c.super, .slice (some ⟨g2, 0, none⟩) nI d2, .slice (some ⟨g3, 0, none⟩) nF d3, .slice (some ⟨g12, 0, none⟩) k c12]) := ⟨rfl, rfl, rfl, by simp, fun b _ hn => setRow_other _ _ _ _ hn⟩
            have hT := (Touch.of_grown (S := fun b => (Value.slice ao k co).ownBlock = some b) HG3.out (fun k hk => hk)).mono (S' := fun b => W4.heap.size ≤ b ∨ b = t ∨ b = t + 1) (fun b hb => .inl (HO.out.lt b hb).1)
            have hT2 := (hT.trans HTS.out (fun b hb => .inl (.inr (.inl hb)))).trans hTR (fun b hb => .inl (.inr (.inr hb)))
            have hz4 := KA4.out.size
            have hrow : ∀ {e sz n : Nat} {v : Value} {xs x : List Value}, LRow W4 w.heap.size e sz v n xs x → (∀ b, v.ownBlock = some b → b ≠ t ∧ b ≠ t + 1) → LRow (wn.setRow (t + 1) #[.int .i64 c.minor, .int .i64 c.major, .slice (some ⟨g1, 0, none⟩) nP d1, .int .i64 c.access, .int .i64 c.this, .int .i64 c.super, .slice (some ⟨g2, 0, none⟩) nI d2, .slice (some ⟨g3, 0, none⟩) nF d3, .slice (some ⟨g12, 0, none⟩) k c12]) w.heap.size e sz v n xs x := fun h hne => (h.kept KR.out).touch hT2 fun b hb hS => by
              rcases hS with h1 | h1 | h1
              · have := (h.lt b hb).2; omega
              · exact (hne b hb).1 h1
              · exact (hne b hb).2 h1
            have tyT : TyAt W4 t 27 := BT4.out.ty
            have tyR : TyAt W4 (t + 1) 27 := BR4.out.ty
            have hne_ : ∀ {e sz n : Nat} {v : Value} {xs x : List Value}, LRow W4 w.heap.size e sz v n xs x → e ≠ 27 → ∀ b, v.ownBlock = some b → b ≠ t ∧ b ≠ t + 1 := fun h he b hb => ⟨TyAt.ne (h.ty b hb) tyT he, TyAt.ne (h.ty b hb) tyR he⟩
            refine ⟨ml, g1, d1, g2, d2, g3, d3, g12, c12, ?_, ⟨?_, ?_, ?_, ?_, ?_, ?_⟩, ?_⟩
            · rw [HLL.out]
            · rw [← N1.out]; exact hrow LP4.out (hne_ LP4.out (by decide))
            · rw [← N2.out]; exact hrow LI4.out (hne_ LI4.out (by decide))
            · rw [← N3.out]; exact hrow LF4.out (hne_ LF4.out (by decide))
            · rw [HLL.out]
              have hr0 := (Row.of_own HO3.out).base hz4
              have tyw : ∀ b, (Value.slice (some ⟨g12, 0, none⟩) (k + 1) c12).ownBlock = some b → TyAt w3 b 52 := own_ty HO3.out
              refine ⟨g12, c12, rfl, (hr0.touch HTS.out fun b hb e => ?_).touch hTR fun b hb e => ?_, by rw [flat_length encM 8 (fun _ => rfl), HLL.out]⟩
              · exact TyAt.ne (tyw b hb) HBT3.out.ty (by decide) e
              · exact TyAt.ne (tyw b hb) HBR3.out.ty (by decide) e
            · intro y hy
              have h0 := HLR.out y hy
              refine ⟨(?_ : LRow _ _ _ _ _ _ _ _).base hz4, (?_ : LRow _ _ _ _ _ _ _ _).base hz4⟩
              · exact ((h0.code.touch (Touch.of_grown (S := fun b => (Value.slice ao k co).ownBlock = some b) HG3.out (fun k hk => hk)) fun b hb hS => TyAt.ne (h0.code.ty b hb) (own_ty HO.out b hS) (by decide) rfl).touch HTS.out fun b hb e => by have := (h0.code.lt b hb).1; have := BT4.out.lt; omega).touch hTR fun b hb e => by have := (h0.code.lt b hb).1; have := BR4.out.lt; omega
              · exact ((h0.traps.touch (Touch.of_grown (S := fun b => (Value.slice ao k co).ownBlock = some b) HG3.out (fun k hk => hk)) fun b hb hS => TyAt.ne (h0.traps.ty b hb) (own_ty HO.out b hS) (by decide) rfl).touch HTS.out fun b hb e => by have := (h0.traps.lt b hb).1; have := BT4.out.lt; omega).touch hTR fun b hb e => by have := (h0.traps.lt b hb).1; have := BR4.out.lt; omega
            · rw [HMS.out, hmk]
            · have hB := hT2.below (B := w.heap.size) (fun b hb => by have := HT.out; omega) (Nat.le_trans hz4 zr)
              exact Below.trans KWR.out hB
end Go.Proofs.Ytcklmhbcjgiplaa

namespace Go.Proofs.Ytcklmhbcjgiplaa
set_option linter.unusedVariables false
set_option linter.unusedSimpArgs false
open Go.RowKit
set_option maxRecDepth 100000

theorem LRow.behind {w : World} {B e sz n m g q : Nat} {xs x : List Value} {u : Value} (h : LRow w B e sz (.slice (some ⟨g, 0, none⟩) m q) n xs x) (hu : x[0]? = some u) : w.cell? ⟨g, m * sz, none⟩ = some u ∧ m + 1 ≤ q ∧ q ≤ 9223372036854775807 := by
  obtain ⟨g', c', hv, hr, hx⟩ := h
  simp only [Value.slice.injEq, Option.some.injEq, Addr.mk.injEq] at hv
  obtain ⟨⟨rfl, -, -⟩, rfl, rfl⟩ := hv
  refine ⟨hr.cells.1 (m * sz) u ?_, hr.bounds⟩
  rw [List.getElem?_append_right (by omega), hx, Nat.sub_self]
  exact hu
set_option maxHeartbeats 8000000 in
theorem law4_Stays (B : Nat) (c : ClassC) (mf mv : List (MethC × Value × Value)) (gP dP gI dI gF dF gM dM : Nat) (vP vI vF vM : Value) (w : World) (hf : LC B c mf (.slice (some ⟨gP, 0, none⟩) c.pool.length dP) (.slice (some ⟨gI, 0, none⟩) c.ifaces.length dI) (.slice (some ⟨gF, 0, none⟩) c.fields.length dF) (.slice (some ⟨gM, 0, none⟩) mf.length dM) w) (h : CRd w c mv vP vI vF vM) (hsz : SizeC c) :
    Calls Try.prog 18 #[.agg #[.int .i64 c.minor, .int .i64 c.major, .slice (some ⟨gP, 0, none⟩) c.pool.length dP, .int .i64 c.access, .int .i64 c.this, .int .i64 c.super, .slice (some ⟨gI, 0, none⟩) c.ifaces.length dI, .slice (some ⟨gF, 0, none⟩) c.fields.length dF, .slice (some ⟨gM, 0, none⟩) mf.length dM], .agg (classV c vP vI vF vM).toArray] w fun e w' => e = .returned (.bool true) ∧ Kept w w' := by
  obtain ⟨aP, kP, aI, kI, aF, kF, aM, kM, rfl, rfl, rfl, rfl⟩ := h.forms
  have hms := congrArg List.length (hf.ms.symm.trans h.ms)
  simp only [List.length_map] at hms
  change Calls Try.prog 18 #[.agg #[.int .i64 c.minor, .int .i64 c.major, .slice (some ⟨gP, 0, none⟩) c.pool.length dP, .int .i64 c.access, .int .i64 c.this, .int .i64 c.super, .slice (some ⟨gI, 0, none⟩) c.ifaces.length dI, .slice (some ⟨gF, 0, none⟩) c.fields.length dF, .slice (some ⟨gM, 0, none⟩) mf.length dM], .agg #[.int .i64 c.minor, .int .i64 c.major, .slice aP c.pool.length kP, .int .i64 c.access, .int .i64 c.this, .int .i64 c.super, .slice aI c.ifaces.length kI, .slice aF c.fields.length kF, .slice aM mv.length kM]] w _
  rw [← hms] at h ⊢
  have b4 : mf.length ≤ 3000 := by have := hsz.m; have := congrArg List.length hf.ms; simp only [List.length_map] at this; omega
  have b1 := hsz.p
  have b2 := hsz.i
  have b3 := hsz.f
  obtain ⟨nP, hnP⟩ : ∃ n, n = c.pool.length := ⟨_, rfl⟩
  obtain ⟨nI, hnI⟩ : ∃ n, n = c.ifaces.length := ⟨_, rfl⟩
  obtain ⟨nF, hnF⟩ : ∃ n, n = c.fields.length := ⟨_, rfl⟩
  obtain ⟨nM, hnM⟩ : ∃ n, n = mf.length := ⟨_, rfl⟩
  rw [← hnP, ← hnI, ← hnF, ← hnM] at hf h ⊢
  rw [← hnP] at b1
  rw [← hnI] at b2
  rw [← hnF] at b3
  rw [← hnM] at b4
  have N4 := Lib.hid hnM
  have HSZ := Lib.hid hsz
  clear hnP hnI hnF hnM hms hsz
  obtain ⟨x1, p1, -⟩ := hf.p.behind rfl
  obtain ⟨x2, p2, -⟩ := hf.i.behind rfl
  obtain ⟨x3, p3, -⟩ := hf.f.behind rfl
  obtain ⟨x4, p4, -⟩ := hf.m.behind rfl
  have X1 := Lib.hid x1
  have X2 := Lib.hid x2
  have X3 := Lib.hid x3
  have X4 := Lib.hid x4
  have HF := Lib.hid hf
  have HC := Lib.hid h
  clear x1 x2 x3 x4 hf h
  go_enter Try.func18, Try.ntmps18
  go_upto_region 1 with fail
  have kB : Kept w ((w.alloc (.cells #[.int .i64 c.minor, .int .i64 c.major, .slice (some ⟨gP, 0, none⟩) nP dP, .int .i64 c.access, .int .i64 c.this, .int .i64 c.super, .slice (some ⟨gI, 0, none⟩) nI dI, .slice (some ⟨gF, 0, none⟩) nF dF, .slice (some ⟨gM, 0, none⟩) nM dM] 27)).alloc (.cells #[.int .i64 c.minor, .int .i64 c.major, .slice aP nP kP, .int .i64 c.access, .int .i64 c.this, .int .i64 c.super, .slice aI nI kI, .slice aF nF kF, .slice aM nM kM] 27)) := ((Below.refl _ _).alloc (Nat.le_refl _) _).alloc (by simp) _
  obtain ⟨t, ht⟩ : ∃ t, t = w.heap.size := ⟨_, rfl⟩
  have bT : Blk ((w.alloc (.cells #[.int .i64 c.minor, .int .i64 c.major, .slice (some ⟨gP, 0, none⟩) nP dP, .int .i64 c.access, .int .i64 c.this, .int .i64 c.super, .slice (some ⟨gI, 0, none⟩) nI dI, .slice (some ⟨gF, 0, none⟩) nF dF, .slice (some ⟨gM, 0, none⟩) nM dM] 27)).alloc (.cells #[.int .i64 c.minor, .int .i64 c.major, .slice aP nP kP, .int .i64 c.access, .int .i64 c.this, .int .i64 c.super, .slice aI nI kI, .slice aF nF kF, .slice aM nM kM] 27)) t 27 #[.int .i64 c.minor, .int .i64 c.major, .slice (some ⟨gP, 0, none⟩) nP dP, .int .i64 c.access, .int .i64 c.this, .int .i64 c.super, .slice (some ⟨gI, 0, none⟩) nI dI, .slice (some ⟨gF, 0, none⟩) nF dF, .slice (some ⟨gM, 0, none⟩) nM dM] := by rw [ht]; exact (Blk.new w 27 #[.int .i64 c.minor, .int .i64 c.major, .slice (some ⟨gP, 0, none⟩) nP dP, .int .i64 c.access, .int .i64 c.this, .int .i64 c.super, .slice (some ⟨gI, 0, none⟩) nI dI, .slice (some ⟨gF, 0, none⟩) nF dF, .slice (some ⟨gM, 0, none⟩) nM dM]).alloc _
  have bR : Blk ((w.alloc (.cells #[.int .i64 c.minor, .int .i64 c.major, .slice (some ⟨gP, 0, none⟩) nP dP, .int .i64 c.access, .int .i64 c.this, .int .i64 c.super, .slice (some ⟨gI, 0, none⟩) nI dI, .slice (some ⟨gF, 0, none⟩) nF dF, .slice (some ⟨gM, 0, none⟩) nM dM] 27)).alloc (.cells #[.int .i64 c.minor, .int .i64 c.major, .slice aP nP kP, .int .i64 c.access, .int .i64 c.this, .int .i64 c.super, .slice aI nI kI, .slice aF nF kF, .slice aM nM kM] 27)) (t + 1) 27 #[.int .i64 c.minor, .int .i64 c.major, .slice aP nP kP, .int .i64 c.access, .int .i64 c.this, .int .i64 c.super, .slice aI nI kI, .slice aF nF kF, .slice aM nM kM] := by
    have := Blk.new (w.alloc (.cells #[.int .i64 c.minor, .int .i64 c.major, .slice (some ⟨gP, 0, none⟩) nP dP, .int .i64 c.access, .int .i64 c.this, .int .i64 c.super, .slice (some ⟨gI, 0, none⟩) nI dI, .slice (some ⟨gF, 0, none⟩) nF dF, .slice (some ⟨gM, 0, none⟩) nM dM] 27)) 27 #[.int .i64 c.minor, .int .i64 c.major, .slice aP nP kP, .int .i64 c.access, .int .i64 c.this, .int .i64 c.super, .slice aI nI kI, .slice aF nF kF, .slice aM nM kM]
    rw [ht]
    simpa using this
  rw [← ht]
  generalize ((w.alloc (.cells #[.int .i64 c.minor, .int .i64 c.major, .slice (some ⟨gP, 0, none⟩) nP dP, .int .i64 c.access, .int .i64 c.this, .int .i64 c.super, .slice (some ⟨gI, 0, none⟩) nI dI, .slice (some ⟨gF, 0, none⟩) nF dF, .slice (some ⟨gM, 0, none⟩) nM dM] 27)).alloc (.cells #[.int .i64 c.minor, .int .i64 c.major, .slice aP nP kP, .int .i64 c.access, .int .i64 c.this, .int .i64 c.super, .slice aI nI kI, .slice aF nF kF, .slice aM nM kM] 27)) = W1 at *
  have K1 := Lib.hid kB
  have HT1 := Lib.hid bT
  have HR1 := Lib.hid bR
  clear kB bT bR ht
  have t0 := HT1.out.cell 0
  have t1 := HT1.out.cell 1
  have t2 := HT1.out.cell 2
  have t3 := HT1.out.cell 3
  have t4 := HT1.out.cell 4
  have t5 := HT1.out.cell 5
  have t6 := HT1.out.cell 6
  have t7 := HT1.out.cell 7
  have t8 := HT1.out.cell 8
  simp only [List.getElem?_toArray, List.getElem?_cons_succ, List.getElem?_cons_zero] at t0 t1 t2 t3 t4 t5 t6 t7 t8
  have r0 := HR1.out.cell 0
  have r1 := HR1.out.cell 1
  have r2 := HR1.out.cell 2
  have r3 := HR1.out.cell 3
  have r4 := HR1.out.cell 4
  have r5 := HR1.out.cell 5
  have r6 := HR1.out.cell 6
  have r7 := HR1.out.cell 7
  have r8 := HR1.out.cell 8
  simp only [List.getElem?_toArray, List.getElem?_cons_succ, List.getElem?_cons_zero] at r0 r1 r2 r3 r4 r5 r6 r7 r8
  have CW := ref4_Same c c mf mv _ _ _ _ _ _ _ _ W1 ((HF.out.kept K1.out).rd) (HC.out.kept K1.out)
  go_wp2_with fail
  refine CW.mono ?_
  rintro e w2 ⟨b, rfl, hb, hk2⟩
  obtain rfl : b = true := hb.2 (by trivial)
  have K2 := Lib.hid (Kept.trans K1.out hk2)
  have HT2 := Lib.hid (HT1.out.kept hk2)
  have HR2 := Lib.hid (HR1.out.kept hk2)
  clear hb hk2 CW t0 t1 t2 t3 t4 t5 t6 t7 t8 r0 r1 r2 r3 r4 r5 r6 r7 r8
  have t0 := HT2.out.cell 0
  have t1 := HT2.out.cell 1
  have t2 := HT2.out.cell 2
  have t3 := HT2.out.cell 3
  have t4 := HT2.out.cell 4
  have t5 := HT2.out.cell 5
  have t6 := HT2.out.cell 6
  have t7 := HT2.out.cell 7
  have t8 := HT2.out.cell 8
  simp only [List.getElem?_toArray, List.getElem?_cons_succ, List.getElem?_cons_zero] at t0 t1 t2 t3 t4 t5 t6 t7 t8
  have r0 := HR2.out.cell 0
  have r1 := HR2.out.cell 1
  have r2 := HR2.out.cell 2
  have r3 := HR2.out.cell 3
  have r4 := HR2.out.cell 4
  have r5 := HR2.out.cell 5
  have r6 := HR2.out.cell 6
  have r7 := HR2.out.cell 7
  have r8 := HR2.out.cell 8
  simp only [List.getElem?_toArray, List.getElem?_cons_succ, List.getElem?_cons_zero] at r0 r1 r2 r3 r4 r5 r6 r7 r8
  have x1 := Kept.cell K2.out X1.out
  have x2 := Kept.cell K2.out X2.out
  have x3 := Kept.cell K2.out X3.out
  have x4 := Kept.cell K2.out X4.out
  rw [Nat.mul_one] at x2
  have z1 : (nP : Int) + 1 ≤ (dP : Int) := by omega
  have z2 : (nI : Int) + 1 ≤ (dI : Int) := by omega
  have z3 : (nF : Int) + 1 ≤ (dF : Int) := by omega
  have z4 : (nM : Int) + 1 ≤ (dM : Int) := by omega
  go_wp2_with fail
  go_loopw [10] (fun s10 wr => ∃ k : Nat, k ≤ nM ∧ s10 = .int .i64 k ∧ Kept w2 wr) (fun s10 _ => nM - (intOf s10).toNat)
  case atStart => exact ⟨0, Nat.zero_le _, rfl, Below.refl _ _⟩
  case round =>
  rename World => wr
  obtain ⟨k, hk, rfl, hkr⟩ := hrel
  have KR := Lib.hid hkr
  have KW := Lib.hid (Kept.trans K2.out hkr)
  have HTr := Lib.hid (HT2.out.kept hkr)
  clear hkr x1 x2 x3 x4 t0 t1 t2 t3 t4 t5 t6 t7 t8 r0 r1 r2 r3 r4 r5 r6 r7 r8
  have t0 := HTr.out.cell 0
  have t1 := HTr.out.cell 1
  have t2 := HTr.out.cell 2
  have t3 := HTr.out.cell 3
  have t4 := HTr.out.cell 4
  have t5 := HTr.out.cell 5
  have t6 := HTr.out.cell 6
  have t7 := HTr.out.cell 7
  have t8 := HTr.out.cell 8
  simp only [List.getElem?_toArray, List.getElem?_cons_succ, List.getElem?_cons_zero] at t0 t1 t2 t3 t4 t5 t6 t7 t8
  by_cases hlt : k < nM
  · obtain ⟨⟨m, vc, vt⟩, hx⟩ : ∃ x, mf[k]? = some x := ⟨_, List.getElem?_eq_getElem (by have := N4.out; omega)⟩
    have hrw := HF.out.m.rd.kept KW.out
    rw [← N4.out] at hrw
    obtain ⟨b1, o1, d1, hv1, e0, e1, e2, e3, e4, e5, e6, e7⟩ := meth_cells N4.out hrw hx
    simp only [Value.slice.injEq, Option.some.injEq, Addr.mk.injEq] at hv1
    obtain ⟨⟨rfl, rfl, -⟩, -, rfl⟩ := hv1
    have hl := HF.out.r _ (List.mem_of_getElem? hx)
    have hs := HSZ.out.r m (by rw [HF.out.ms]; exact List.mem_map_of_mem (List.mem_of_getElem? hx))
    dsimp only at e0 e1 e2 e3 e4 e5 e6 e7 hl
    obtain ⟨gc, dc, rfl, -, -⟩ := id hl.code
    obtain ⟨gt, dt, rfl, -, -⟩ := id hl.traps
    obtain ⟨y1, q1, -⟩ := hl.code.behind rfl
    obtain ⟨y2, q2, -⟩ := hl.traps.behind rfl
    obtain ⟨lc, hlc⟩ : ∃ lc, lc = m.code.length := ⟨_, rfl⟩
    obtain ⟨lt, hlt'⟩ : ∃ lt, lt = m.traps.length := ⟨_, rfl⟩
    rw [← hlc] at hs e6 y1 q1
    rw [← hlt'] at hs e7 y2 q2
    rw [Nat.mul_one] at y1
    have Y1 := Lib.hid (Kept.cell KW.out y1)
    have Y2 := Lib.hid (Kept.cell KW.out y2)
    have hkI : (k : Int) < (nM : Int) := by omega
    have h0I : (0 : Int) ≤ (k : Int) := by omega
    have u1 : (lc : Int) + 1 ≤ (dc : Int) := by omega
    have u2 : (lt : Int) + 1 ≤ (dt : Int) := by omega
    have u3 : (lc : Int) ≤ 140737488351232 := by omega
    have u4 : (lt : Int) ≤ 140737488351232 := by omega
    clear hl hrw hx y1 y2 hlc hlt'
    rw [Nat.zero_add] at e0 e1 e2 e3 e4 e5 e6 e7
    go_upto_region 12 with fail
    have kA : Kept wr (wr.alloc (.cells #[.int .i64 m.access, .int .i64 m.name, .int .i64 m.desc, .bool m.has, .int .i64 m.stack, .int .i64 m.locals, .slice (some ⟨gc, 0, none⟩) lc dc, .slice (some ⟨gt, 0, none⟩) lt dt] 52)) := (Below.refl _ _).alloc (Nat.le_refl _) _
    obtain ⟨tm, htm⟩ : ∃ b, b = wr.heap.size := ⟨_, rfl⟩
    have bA : Blk (wr.alloc (.cells #[.int .i64 m.access, .int .i64 m.name, .int .i64 m.desc, .bool m.has, .int .i64 m.stack, .int .i64 m.locals, .slice (some ⟨gc, 0, none⟩) lc dc, .slice (some ⟨gt, 0, none⟩) lt dt] 52)) tm 52 #[.int .i64 m.access, .int .i64 m.name, .int .i64 m.desc, .bool m.has, .int .i64 m.stack, .int .i64 m.locals, .slice (some ⟨gc, 0, none⟩) lc dc, .slice (some ⟨gt, 0, none⟩) lt dt] := by rw [htm]; exact Blk.new _ _ _
    rw [← htm]
    generalize (wr.alloc (.cells #[.int .i64 m.access, .int .i64 m.name, .int .i64 m.desc, .bool m.has, .int .i64 m.stack, .int .i64 m.locals, .slice (some ⟨gc, 0, none⟩) lc dc, .slice (some ⟨gt, 0, none⟩) lt dt] 52)) = W9 at *
    have KA := Lib.hid kA
    have BT := Lib.hid bA
    have y1 := Kept.cell kA Y1.out
    have y2 := Kept.cell kA Y2.out
    clear kA bA htm e0 e1 e2 e3 e4 e5 e6 e7 t0 t1 t2 t3 t4 t5 t6 t7 t8
    have e0 := BT.out.cell 0
    have e1 := BT.out.cell 1
    have e2 := BT.out.cell 2
    have e3 := BT.out.cell 3
    have e4 := BT.out.cell 4
    have e5 := BT.out.cell 5
    have e6 := BT.out.cell 6
    have e7 := BT.out.cell 7
    simp only [List.getElem?_toArray, List.getElem?_cons_succ, List.getElem?_cons_zero] at e0 e1 e2 e3 e4 e5 e6 e7
    go_wp2_with fail
    go_roundw
    case rel => exact ⟨k + 1, by omega, by go_num, Kept.trans KR.out KA.out⟩
    case measure => simp [intOf]; omega
  · obtain rfl : k = nM := by omega
    have hkI : ¬ ((k : Int) < (k : Int)) := by omega
    go_wp2_with fail
    go_ret
    exact ⟨rfl, KW.out⟩
end Go.Proofs.Ytcklmhbcjgiplaa
