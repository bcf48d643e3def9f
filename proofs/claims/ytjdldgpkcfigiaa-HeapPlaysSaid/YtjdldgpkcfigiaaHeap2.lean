/-
  Package heap by contract: Make, Class, slot, Get, Put.
-/
import Derived.Test.YtjdldgpkcfigiaaHeap
import Derived.Test.YtjdldgpkcfigiaaTy
namespace Go.Proofs.Ytjdldgpkcfigiaa
open Go.RowKit
set_option maxRecDepth 100000

/-- Behind the append of a new object's pointer: the heap. -/
theorem IsHp.made {B N : Nat} {w4 w6 : World} {p : Value} {most : Int} {its : List It} {g r : Nat} {v v6 s : Value} {cls : ByteArray} {sl : List ValV} (h : IsHp B w4 p most its g r v) (hs : Row w4 N 57 2 s sl.length (sl.flatMap encVal))
    (hN : ∀ b, footH g r v its b → b < N) (hBN : B ≤ N) (hN4 : N ≤ w4.heap.size)
    (q1 : Blk w6 r 85 #[v6]) (q2 : w6.ownsRow B 91 1 v6 (its.length + 1) ((its.map fun x => .pointer (some ⟨x.b, 0, none⟩)) ++ [.pointer (some ⟨w4.heap.size, 0, none⟩)]))
    (q3 : Touch (fun k => k = r ∨ v.ownBlock = some k) ((w4.alloc (.cells #[.string cls, s] 95)).drew) w6) :
    IsHp B w6 p most (its ++ [⟨w4.heap.size, s, cls, sl⟩]) g r v6 := by
  have k5 : Kept w4 ((w4.alloc (.cells #[.string cls, s] 95)).drew) := ((Below.refl _ _).alloc (Nat.le_refl _) _).drew
  have h5 := h.kept k5
  have b5 : Blk ((w4.alloc (.cells #[.string cls, s] 95)).drew) w4.heap.size 95 #[.string cls, s] := Blk.new w4 _ _
  have s5 := (hs.base hBN).kept k5
  have hr := h5.row.ty
  have hv := own_ty h5.own
  refine ⟨h.ptr, h5.blk.touch q3 ?_, q1, by simpa using q2, ?_, h.ge⟩
  · rintro (h1 | h1)
    · exact (TyAt.ne h5.blk.ty hr (by decide)) h1
    · exact (TyAt.ne h5.blk.ty (hv _ h1) (by decide)) rfl
  · refine (h5.objs.apart q3 ?_).snoc ⟨b5.touch q3 ?_, Nat.le_trans hBN hN4⟩ (s5.touch q3 ?_) ?_
    · rintro x hx b (rfl | hb) (h1 | h1)
      · exact (TyAt.ne (h5.objs.blk x hx).1.ty hr (by decide)) h1
      · exact (TyAt.ne (h5.objs.blk x hx).1.ty (hv _ h1) (by decide)) rfl
      · exact (TyAt.ne ((h5.objs.row x hx).ty b hb) hr (by decide)) h1
      · exact (TyAt.ne ((h5.objs.row x hx).ty b hb) (hv _ h1) (by decide)) rfl
    · rintro (h1 | h1)
      · exact (TyAt.ne b5.ty hr (by decide)) h1
      · exact (TyAt.ne b5.ty (hv _ h1) (by decide)) rfl
    · rintro k hk (h1 | h1)
      · exact (TyAt.ne (s5.ty k hk) hr (by decide)) h1
      · exact (TyAt.ne (s5.ty k hk) (hv _ h1) (by decide)) rfl
    · intro y hy
      have hb := hN y.b (.inr (.inr (.inr ⟨y, hy, .inl rfl⟩)))
      refine ⟨fun e => ?_, fun k hk hk' => ?_⟩
      · have : y.b = w4.heap.size := e
        omega
      · have h1 := hN k (.inr (.inr (.inr ⟨y, hy, .inr hk⟩)))
        have h2 := (hs.lt k hk').1
        omega

theorem meth_count (a : Addr) (w : World) : (method 219 82 (.pointer (some a)) "turnstile/heap.count").run Try.prog w = .ok (49, .pointer (some a)) w := by kernel_rfl

theorem heap_Make_long (B : Nat) (w : World) (p : Value) (most : Int) (its : List It) (g r : Nat) (v : Value) (cls : ByteArray) (a : Option Addr) (n c : Nat) (h : IsHp B w p most its g r v) (hn : 16384 < n) (hc : n ≤ c) (hc2 : c ≤ 9223372036854775807) :
    Calls Try.prog 18 #[p, .string cls, .slice a n c] w fun e w' => e = .returned (.tuple #[.int .i64 0, .int .i64 2]) ∧ ∃ m, w' = w.drewN m := by
  obtain ⟨rfl, hb, hr, ho, hj, hB⟩ := h
  clear hb hr ho hj
  go_enter Try.func18, Try.ntmps18
  go_wp2
  go_ret2
  exact ⟨rfl, 0, rfl⟩

theorem heap_Make_full (B : Nat) (w : World) (p : Value) (most : Int) (its : List It) (g r : Nat) (v : Value) (cls : ByteArray) (a : Option Addr) (n c : Nat) (h : IsHp B w p most its g r v) (hn : n ≤ 16384) (hi1 : 1 ≤ its.length) (hi2 : its.length ≤ 1001) (hf : most < its.length) :
    Calls Try.prog 18 #[p, .string cls, .slice a n c] w fun e w' => e = .returned (.tuple #[.int .i64 0, .int .i64 42]) ∧ ∃ m, w' = w.drewN m := by
  obtain ⟨rfl, hb, hr, ho, hj, hB⟩ := h
  obtain ⟨a1, c1, rfl, hlc, hcc⟩ := own_slice ho
  have x0 := hb.cell 0
  have x1 := hb.cell 1
  simp at x0 x1
  have C := fun w' (hk : Kept w w') => row_count w' r _ its.length (hr.kept hk) ⟨a1, c1, rfl⟩ hi1 (by omega)
  have HC := Lib.hid C
  clear hb hr ho hj C
  go_enter Try.func18, Try.ntmps18
  go_wp2_with fail
  go_quiet ((rw [meth_count]; go_simp; go_at_call 49; exact quiet_l (HC.out _ (by exact kept_drewN (Below.refl _ _) _))))
  go_wp2
  go_ret2
  exact ⟨rfl, _, rfl⟩

set_option maxHeartbeats 2000000 in
theorem heap_Make (B : Nat) (w : World) (p : Value) (most : Int) (its : List It) (g r : Nat) (v : Value) (cls : ByteArray) (sv : Value) (sl : List ValV) (h : IsHp B w p most its g r v) (hs : Rd w 2 sv sl.length (sl.flatMap encVal)) (hn : sl.length ≤ 16384) (hi1 : 1 ≤ its.length) (hi2 : its.length ≤ 1001) (hf : its.length ≤ most) (hBw : B ≤ w.heap.size) :
    Calls Try.prog 18 #[p, .string cls, sv] w fun e w' => e = .returned (.tuple #[.int .i64 ((its.length : Int) + 1), .int .i64 0]) ∧
      ∃ x v', x.cls = cls ∧ x.sl = sl ∧ IsHp B w' p most (its ++ [x]) g r v' ∧ Touch (fun b => b = r ∨ v.ownBlock = some b) w w' ∧ (∀ k, v'.ownBlock = some k → v.ownBlock = some k ∨ w.heap.size ≤ k) ∧ w.heap.size ≤ x.b ∧ ∀ k, x.s.ownBlock = some k → w.heap.size ≤ k := by
  have H := Lib.hid h
  have HS := Lib.hid hs
  obtain ⟨rfl, hb, hr, ho, hj, hB⟩ := h
  obtain ⟨a1, c1, rfl, hlc, hcc⟩ := own_slice ho
  obtain ⟨_, a2, c2, rfl, s1, s2, _⟩ := hs
  have x0 := hb.cell 0
  have x1 := hb.cell 1
  simp at x0 x1
  have C := fun w' (hk : Kept w w') => row_count w' r _ its.length (hr.kept hk) ⟨a1, c1, rfl⟩ hi1 (by omega)
  have HC := Lib.hid C
  clear hb hr ho hj C
  go_enter Try.func18, Try.ntmps18
  go_wp2_with fail
  go_quiet ((rw [meth_count]; go_simp; go_at_call 49; exact quiet_l (HC.out _ (by exact kept_drewN (Below.refl _ _) _))))
  obtain ⟨W, hW⟩ : ∃ W, W = w.drewN nq := ⟨_, rfl⟩
  have kW : Kept w W := by rw [hW]; exact kept_drewN (Below.refl _ _) _
  have sW : W.heap.size = w.heap.size := by rw [hW]; rfl
  rw [← hW]
  clear hW
  have HW := Lib.hid (H.out.kept kW)
  have HSW := Lib.hid (HS.out.kept kW)
  have KW := Lib.hid kW
  have SW := Lib.hid sW
  have hBW : W.heap.size ≤ W.heap.size := Nat.le_refl _
  clear kW sW
  go_wp2_with (at_builtin; refine wpl_append _ elem_val rfl _ _ rfl W.heap.size _ _ _ rfl (World.ownsRow_nil _ _ _ _) _ _ _ rfl HSW.out (vals_one _) (by omega) (by omega) hBW ?_; intro v4 w4 ho4 hg4; rw [Nat.zero_add, List.nil_append] at ho4; obtain ⟨a4, c4, hv4, hc4, hd4⟩ := own_slice ho4; subst hv4; have HO4 := Lib.hid ho4; have HG4 := Lib.hid hg4; clear ho4 hg4)
  have k4 : Kept W w4 := (Below.refl _ _).grown HG4.out (Nat.le_refl _) (fun k hk => by cases hk)
  have H4 := Lib.hid (HW.out.kept k4)
  have K4 := Lib.hid k4
  have R4 := Lib.hid (Row.of_own HO4.out)
  have y1 := H4.out.blk.cell 1
  simp at y1
  have hlg : g < w4.heap.size := H4.out.blk.lt
  have kx : Kept w4 ((w4.alloc (.cells #[.string cls, .slice a4 sl.length sl.length] 95)).drew) := ((Below.refl _ _).alloc (Nat.le_refl _) _).drew
  have hBx : B ≤ ((w4.alloc (.cells #[.string cls, .slice a4 sl.length sl.length] 95)).drew).heap.size := Nat.le_trans hBw (Nat.le_trans (Nat.le_of_eq SW.out.symm) (Nat.le_trans k4.size kx.size))
  have C5 := row_add B ((w4.alloc (.cells #[.string cls, .slice a4 sl.length sl.length] 95)).drew) r _ _ its.length w4.heap.size (H4.out.row.kept kx) (Touch.own (S := fun _ => False) (Touch.of_kept kx) H4.out.own (fun _ _ => id)) (by omega) hBx
  have HC5 := Lib.hid C5
  clear C5 k4 kx hBx x0 x1
  go_region_with ((go_at_call 47; refine HC5.out.mono ?_; rintro e w6 ⟨rfl, v6, h1, h2, h3, h4⟩; have Q1 := Lib.hid h1; have Q2 := Lib.hid h2; have Q3 := Lib.hid h3; have Q4 := Lib.hid h4; clear h1 h2 h3 h4))
  all_goals go_wp2
  all_goals go_ret2
  all_goals
    have hN : ∀ b, footH g r (.slice a1 its.length c1) its b → b < W.heap.size := fun b hb => (HW.out.foot_ge b hb).2
    have fin := IsHp.made (sl := sl) H4.out R4.out.clip hN (Nat.le_trans hBw (Nat.le_of_eq SW.out.symm)) K4.out.size Q1.out Q2.out Q3.out
    refine ⟨rfl, _, v6, rfl, rfl, fin, ?_, ?_, ?_, ?_⟩
    · have t1 : Touch (fun b => b = r ∨ (Value.slice a1 its.length c1).ownBlock = some b) w w4 := (Touch.of_kept (S := fun b => b = r ∨ (Value.slice a1 its.length c1).ownBlock = some b) KW.out).trans (Touch.of_kept (S := fun _ => False) K4.out) fun b hb => hb.elim
      exact (t1.alloc _).drew.trans Q3.out fun b hb => .inl hb
    · intro k hk
      rcases Q4.out k hk with h | h
      · exact .inl h
      · refine .inr (Nat.le_trans ?_ h)
        have := K4.out.size
        have := SW.out
        show _ ≤ (w4.alloc _).heap.size
        simp
        omega
    · have := K4.out.size
      have := SW.out
      show w.heap.size ≤ w4.heap.size
      omega
    · intro k hk
      have h2 := (R4.out.clip.lt k hk).1
      have := SW.out
      omega
end Go.Proofs.Ytjdldgpkcfigiaa
