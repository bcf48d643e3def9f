/-
  The document's own heap by contract: Make.
-/
import Derived.Test.YtjdldgpkcfigiaaHeapRef2
namespace Go.Proofs.Ytjdldgpkcfigiaa
open Go.RowKit
set_option maxRecDepth 100000

theorem step_append {P : Program} {w : World} {t e : TypeId} {z : Value} {size bytes : Nat} (E : ElemTy P t e z size bytes) {ops : Array Oper} {o : Oper} {a : Act} {K : Act → World → Prop} {F : Prop} (hgd : o.guard = none) (s x : Operand)
    (ho : o.op = .call { callee := .builtin .append, args := #[s, x], argTypes := #[t, t] })
    (base : Nat) (v : Value) (n : Nat) (xs : List Value) (hs : a.eval s = v) (hown : w.ownsRow base e size v n xs)
    (vx : Value) (m : Nat) (news : List Value) (hx : a.eval x = vx) (hr : Rd w size vx m news) (h1 : ∀ u ∈ news, u.oneCell' = true)
    (hbytes : (n + m) * bytes ≤ 140737488355328) (hsmall : n + m ≤ 9223372036854775807) (hbase : base ≤ w.heap.size) {Q : Exit → Act → World → Prop}
    (h : ∀ v' w', w'.ownsRow base e size v' (n + m) (xs ++ news) → w.grownBy w' v.ownBlock → (v'.ownBlock = v.ownBlock ∨ v'.ownBlock = some w.heap.size) → K (a.put o.dst v') w') :
    if Region.wanted o (yielded ops a.tmps) = true then Oper.wp P o a w K Q else F := by
  have hw : Region.wanted o (yielded ops a.tmps) = true := by simp [Region.wanted, hgd]
  rw [if_pos hw]
  obtain ⟨i, hi, hz0, hz1, hz2⟩ := info_parts E.hi
  rcases hr.parts with ⟨rfl, rfl, ad, c, rfl, _⟩ | ⟨b, off, c, rfl, h0, _, _, hc⟩
  · cases ad with
    | none =>
      have hrun := run_append_nothing (P := P) w base t o.type e i size E.ht hi v n xs hown c
      unfold Oper.wp
      simp only [execOp, ho, resolve, invoke, builtin, Sem.run_bind, Sem.run_pure, Result.andThen_ok, List.map_toArray, List.map_cons, List.map_nil, hs, hx, hrun]
      exact h v w (by simpa using hown) (World.grownBy.refl w _) (.inl rfl)
    | some ad =>
      obtain ⟨v', w', hr, h2, h3, -, h5⟩ := run_append_own_at (P := P) w base t o.type e i z size bytes E.ht hi hz0 hz1 hz2 E.hz E.hs v n xs hown ad 0 c [] (by simp) (by simp) (by simp) (by simpa [maxLen] using hsmall) hbytes hbase
      unfold Oper.wp execOp
      simp only [ho, resolve, invoke, builtin, Sem.run_bind, Sem.run_pure, Result.andThen_ok, List.map_toArray, List.map_cons, List.map_nil, hs, hx, hr]
      exact h v' w' h2 h3 h5
  · obtain ⟨v', w', hr, h2, h3, -, h5⟩ := run_append_own_at (P := P) w base t o.type e i z size bytes E.ht hi hz0 hz1 hz2 E.hz E.hs v n xs hown ⟨b, off, none⟩ m c news hr.1 (by
      intro j u hu
      have := hc j u hu
      unfold Addr.add
      split
      · rename_i hj; subst hj; simpa using this
      · exact this) h1 (by simpa [maxLen] using hsmall) hbytes hbase
    unfold Oper.wp execOp
    simp only [ho, resolve, invoke, builtin, Sem.run_bind, Sem.run_pure, Result.andThen_ok, List.map_toArray, List.map_cons, List.map_nil, hs, hx, hr]
    exact h v' w' h2 h3 h5

theorem elem_ob : ElemTy Try.prog 70 98 (.agg #[.string ⟨#[]⟩, .slice none 0 0]) 2 40 := ⟨Try.underlying70, by kernel_rfl, rfl, by decide⟩

theorem own_one {w : World} {B : Nat} {e : TypeId} {sz n : Nat} {v : Value} {xs : List Value} (h : w.ownsRow B e sz v n xs) : v.oneCell' = true := by
  obtain ⟨_, h⟩ := h
  rcases h with ⟨rfl, _⟩ | ⟨g, cap, cur, rfl, _⟩ <;> rfl

theorem IsRh.made {B N : Nat} {w w6 : World} {p : Value} {most : Int} {obs : List Ob} {g : Nat} {v v6 s : Value} {cls : ByteArray} {sl : List ValV} (h : IsRh B w p most obs g v) (hs : Row w N 57 2 s sl.length (sl.flatMap encVal))
    (hN : ∀ b, footR g v obs b → b < N) (hBN : B ≤ N) (q2 : w6.ownsRow B 98 2 v6 (obs.length + 1) (obs.flatMap encOb ++ [.string cls, s]))
    (q3 : Touch (fun k => v.ownBlock = some k) w w6) : IsRh B (w6.setCell ⟨g, 1, none⟩ v6) p most (obs ++ [⟨cls, s, sl⟩]) g v6 := by
  have ht : Touch (fun b => b = g) w6 (w6.setCell ⟨g, 1, none⟩ v6) := (Touch.refl (fun b => b = g) w6).setCell (p := ⟨g, 1, none⟩) (.inl rfl) _
  have hv := own_ty h.own
  have b6 : Blk w6 g 72 #[.int .i64 most, v] := h.blk.touch q3 fun e => TyAt.ne h.blk.ty (hv _ e) (by decide) rfl
  have key : ∀ {s : Value} {n M : Nat} {xs : List Value}, Row w M 57 2 s n xs → Row (w6.setCell ⟨g, 1, none⟩ v6) M 57 2 s n xs := fun {s n M xs} hr => by
    have h1 : Row w6 M 57 2 s n xs := hr.touch q3 fun k hk e => TyAt.ne (hr.ty k hk) (hv k e) (by decide) rfl
    exact h1.touch ht fun k hk e => TyAt.ne (h1.ty k hk) b6.ty (by decide) e
  refine ⟨h.ptr, b6.set_ 1 v6, ?_, ?_, ?_, h.ge⟩
  · have := ht.own q2 fun k hk e => TyAt.ne (own_ty q2 k hk) b6.ty (by decide) e
    simpa [encOb] using this
  · intro x hx
    rcases List.mem_append.1 hx with hx | hx
    · exact key (h.row x hx)
    · obtain rfl : x = ⟨cls, s, sl⟩ := by simpa using hx
      exact key (hs.base hBN)
  · refine List.pairwise_append.2 ⟨h.far, List.pairwise_singleton _ _, fun a ha b hb k hk hk' => ?_⟩
    obtain rfl : b = ⟨cls, s, sl⟩ := by simpa using hb
    have h1 := hN k (.inr (.inr ⟨a, ha, hk⟩))
    have h2 := (hs.lt k hk').1
    omega

theorem ref_Make_long (w : World) (p : Value) (cls : ByteArray) (a : Option Addr) (n c : Nat) (hn : 16384 < n) :
    Calls Try.prog 28 #[p, .string cls, .slice a n c] w fun e w' => e = .returned (.tuple #[.int .i64 0, .int .i64 2]) ∧ w = w' := by
  have hn' : (16384 : Int) < (n : Int) := by omega
  go_enter Try.func28, Try.ntmps28
  go_wp2
  go_ret2
  exact ⟨rfl, rfl⟩

theorem ref_Make_full (B : Nat) (w : World) (p : Value) (most : Int) (obs : List Ob) (g : Nat) (v : Value) (cls : ByteArray) (a : Option Addr) (n c : Nat) (h : IsRh B w p most obs g v) (hn : n ≤ 16384) (hf : most < obs.length) :
    Calls Try.prog 28 #[p, .string cls, .slice a n c] w fun e w' => e = .returned (.tuple #[.int .i64 0, .int .i64 42]) ∧ Kept w w' := by
  obtain ⟨rfl, hb, ho, -, -, -⟩ := h
  obtain ⟨a1, c1, rfl, hlc, hcc⟩ := own_slice ho
  have x0 := hb.cell 0
  have x1 := hb.cell 1
  simp at x0 x1
  have hn' : ¬ (16384 : Int) < (n : Int) := by omega
  clear hb ho
  go_enter Try.func28, Try.ntmps28
  go_wp2
  go_quiet (fail)
  go_wp2
  go_ret2
  exact ⟨rfl, kept_drewN (Below.refl _ _) _⟩

set_option maxHeartbeats 2000000 in
theorem ref_Make (B : Nat) (w : World) (p : Value) (most : Int) (obs : List Ob) (g : Nat) (v : Value) (cls : ByteArray) (sv : Value) (sl : List ValV) (h : IsRh B w p most obs g v) (hs : Rd w 2 sv sl.length (sl.flatMap encVal)) (hn : sl.length ≤ 16384) (hi2 : obs.length ≤ 1001) (hf : obs.length ≤ most) (hBw : B ≤ w.heap.size) :
    Calls Try.prog 28 #[p, .string cls, sv] w fun e w' => e = .returned (.tuple #[.int .i64 ((obs.length : Int) + 1), .int .i64 0]) ∧
      ∃ x v', x.cls = cls ∧ x.sl = sl ∧ IsRh B w' p most (obs ++ [x]) g v' ∧ Touch (footR g v obs) w w' ∧ (∀ k, v'.ownBlock = some k → v.ownBlock = some k ∨ w.heap.size ≤ k) ∧ ∀ k, x.s.ownBlock = some k → w.heap.size ≤ k := by
  have H := Lib.hid h
  have HS := Lib.hid hs
  obtain ⟨rfl, hb, ho, -, -, hB⟩ := h
  obtain ⟨a1, c1, hv, hlc, hcc⟩ := own_slice ho
  obtain ⟨_, a2, c2, rfl, s1, s2, _⟩ := hs
  have x0 := hb.cell 0
  have x1 := hb.cell 1
  simp at x0 x1
  rw [hv] at x1
  have HV := Lib.hid hv
  have hn' : ¬ (16384 : Int) < (sl.length : Int) := by omega
  have hf' : ¬ most < (obs.length : Int) := by omega
  clear hb ho hv
  go_enter Try.func28, Try.ntmps28
  go_wp2_with fail
  go_quiet (fail)
  go_wp2_with fail
  obtain ⟨W, hW⟩ : ∃ W, W = w.drewN nq := ⟨_, rfl⟩
  have kW : Kept w W := by rw [hW]; exact kept_drewN (Below.refl _ _) _
  rw [← hW]
  clear hW
  have HW := Lib.hid (H.out.kept kW.drew)
  have HSW := Lib.hid (HS.out.kept kW.drew)
  have KW := Lib.hid kW
  have cW := HW.out.blk.cell 1
  simp [HV.out] at cW
  clear kW x0 x1
  go_region_law (first | (refine step_append (P := Try.prog) elem_val rfl (.const (.slice none 0 0)) (.tmp 27) rfl W.drew.heap.size _ 0 [] rfl (World.ownsRow_nil _ _ _ _) _ sl.length _ (by simp [Act.eval, Act.put]) HSW.out (vals_one _) (by omega) (by omega) (Nat.le_refl _) ?_; intro v4 w4 ho4 hg4 hq4; rw [Nat.zero_add, List.nil_append] at ho4; obtain ⟨a4, d4, hv4, hc4, hd4⟩ := own_slice ho4; subst hv4; have HO4 := Lib.hid ho4; have K4 := Lib.hid (show Kept W.drew w4 from (Below.refl _ _).grown hg4 (Nat.le_refl _) (fun k hk => by cases hk)); have R4 := Lib.hid (Row.of_own HO4.out); have H4 := Lib.hid (HW.out.kept K4.out); have c4 := H4.out.blk.cell 1; have l4 := H4.out.blk.lt; simp [HV.out] at c4; clear ho4 hg4 hq4) | (refine step_append (P := Try.prog) elem_ob rfl (.tmp 25) (.tmp 30) rfl B v obs.length (obs.flatMap encOb) (by simp [Act.eval, Act.put, HV.out]) (H4.out.own.alloc _) _ 1 [.string cls, .slice a4 sl.length d4] (by simp [Act.eval, Act.put]) (Rd.one w4 [.string cls, .slice a4 sl.length d4] _ rfl) (by intro u hu; simp at hu; rcases hu with rfl | rfl <;> rfl) (by omega) (by omega) (by have := K4.out.size; have := KW.out.size; simp at *; omega) ?_; intro v6 w6 ho6 hg6 hq6; obtain ⟨a6, d6, hv6, hc6, hd6⟩ := own_slice ho6; subst hv6; have HO6 := Lib.hid ho6; have HG6 := Lib.hid hg6; have HQ6 := Lib.hid hq6; clear ho6 hg6 hq6; have T6 := Lib.hid (show Touch (fun k => v.ownBlock = some k) w4 w6 from ((Touch.refl _ w4).alloc _).trans (Touch.of_grown (S := fun k => v.ownBlock = some k) HG6.out (fun k hk => hk)) fun b hb => .inl hb); have b6 := H4.out.blk.touch T6.out (fun e => TyAt.ne H4.out.blk.ty (own_ty H4.out.own _ e) (by decide) rfl); have c6 := b6.cell 1; have f6 := b6.frozen 1; simp [HV.out] at c6; clear b6))
  all_goals go_wp2
  all_goals go_ret2
  all_goals
    have s0 := KW.out.size
    have s4 := K4.out.size
    have sd : W.drew.heap.size = W.heap.size := rfl
    have hN : ∀ b, footR g v obs b → b < W.drew.heap.size := fun b hb => (HW.out.foot_lt b hb).2
    have fin := IsRh.made (sl := sl) H4.out R4.out hN (by omega) HO6.out T6.out
    refine ⟨rfl, _, _, rfl, rfl, fin, ?_, ?_, ?_⟩
    · have t1 : Touch (footR g v obs) w w4 := (Touch.of_kept (S := footR g v obs) KW.out.drew).trans (Touch.of_kept (S := fun _ => False) K4.out) fun b hb => hb.elim
      exact (t1.trans T6.out fun b hb => .inl (.inr (.inl hb))).setCell (p := ⟨g, 1, none⟩) (.inl (.inl rfl)) _
    · intro k hk
      rcases HQ6.out with e | e
      · rw [e] at hk
        exact .inl hk
      · rw [e] at hk
        simp at hk
        exact .inr (by omega)
    · intro k hk
      have h2 := (R4.out.lt k hk).1
      omega
end Go.Proofs.Ytjdldgpkcfigiaa
