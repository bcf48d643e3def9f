/-
  Package slots by contract: the closures; Layout, Fresh.
-/
import Derived.Test.YtjljfadfepidjaaSlotsR1
import Derived.Test.YtjljfadfepidjaaLent
import Derived.Deep.RegionHeld2
namespace Go.Proofs.Ytjljfadfepidjaa
open Go.RowKit
set_option maxRecDepth 100000

theorem row_ne_ {w : World} {base e sz n : Nat} {v : Value} {xs : List Value} {g t : Nat} {cs : Array Value} (h : Row w base e sz v n xs) (hg : Blk w g t cs) (hne : e ≠ t) : ∀ k, v.ownBlock = some k → k ≠ g := by
  intro k hk
  rcases h.2 with ⟨rfl, _⟩ | ⟨g', cap, cur, rfl, _, hh, _⟩
  · cases hk
  · have : g' = k := by simpa [Value.ownBlock] using hk
    subst this
    exact Blk.ne_ (t := e) hh hg hne
theorem row_ne_own {w : World} {base e sz n : Nat} {v : Value} {xs : List Value} {base' e' sz' n' : Nat} {v' : Value} {xs' : List Value} (h : Row w base e sz v n xs) (ho : w.ownsRow base' e' sz' v' n' xs') (hne : e ≠ e') : ∀ k, v.ownBlock = some k → v'.ownBlock ≠ some k := by
  intro k hk hk'
  rcases ho.2 with ⟨rfl, _⟩ | ⟨g', cap, cur, rfl, _, hh, _⟩
  · cases hk'
  · have : g' = k := by simpa [Value.ownBlock] using hk'
    subst this
    exact row_ne_ (t := e') (cs := cur) h hh hne g' hk rfl
/-- What is gathered: a row of its own behind a cell of its own. -/
structure Gath (T e : TypeId) (enc : SV → List Value) (w0 : World) (g : Nat) (w : World) (xs : List SV) : Prop where
  k : Kept w0 w
  r : ∃ v, Blk w g T #[v] ∧ w.ownsRow w0.heap.size e 2 v xs.length (xs.flatMap enc)
theorem Gath.kept {T e : TypeId} {enc : SV → List Value} {w0 : World} {g : Nat} {w w' : World} {xs : List SV} (h : Gath T e enc w0 g w xs) (hk : Kept w w') : Gath T e enc w0 g w' xs := by
  obtain ⟨v, hb, ho⟩ := h.r
  exact ⟨Kept.trans h.k hk, v, hb.kept hk, Touch.own (S := fun _ => False) (Touch.of_kept hk) ho (fun _ _ => id)⟩
theorem Gath.put {T e : TypeId} {enc : SV → List Value} {w0 : World} {g : Nat} {w w' : World} {xs : List SV} {x : SV} {v v' : Value} (hk : Kept w0 w) (hg0 : w0.heap.size ≤ g) (hb : Blk w g T #[v]) (ho : w.ownsRow w0.heap.size e 2 v xs.length (xs.flatMap enc)) (hne : e ≠ T) (hs : 9 ≠ T) (hs' : 9 ≠ e)
    (ho' : w'.ownsRow w0.heap.size e 2 v' (xs.length + 1) (xs.flatMap enc ++ enc x)) (hg : w.grownBy w' v.ownBlock) : Gath T e enc w0 g (w'.setCell ⟨g, 0, none⟩ v') (xs ++ [x]) ∧ StrK w (w'.setCell ⟨g, 0, none⟩ v') := by
  have hb' : Blk w' g T #[v] := hb.touch (Touch.of_grown (S := fun b => v.ownBlock = some b) hg (fun k hk => hk)) (fun e => own_ne ho hb hne g e rfl)
  have hh := hb'.hold ho' hne
  refine ⟨⟨Below.setCell (Below.trans hk ((Below.refl _ w).grown hg hk.size fun k hk => (ho.lt k hk).1)) hg0 _, v', hh.1, ?_⟩, fun B u n ys r => ?_⟩
  · simpa using hh.2
  · refine r.touch (S := fun b => v.ownBlock = some b ∨ b = g) ((Touch.mono (Touch.of_grown (S := fun b => v.ownBlock = some b) hg (fun k hk => hk)) (fun b h => .inl h)).setCell (p := ⟨g, 0, none⟩) (.inl (.inr rfl)) v') ?_
    rintro k hk (h | h)
    · exact row_ne_own r ho hs' k hk h
    · exact row_ne_ r hb hs k hk h

set_option maxHeartbeats 1000000 in
theorem put_Layout (w0 : World) (g : Nat) (hg0 : w0.heap.size ≤ g) (w : World) (xs : List SV) (x : SV) (h : Gath 28 33 encSl w0 g w xs) (hl : xs.length ≤ 300000) :
    Calls Try.prog 36 #[.agg #[.string x.1, .int .i64 x.2.1], .string x.2.2, .pointer (some ⟨g, 0, none⟩)] w fun e w' => e = .returned (.tuple #[]) ∧ Gath 28 33 encSl w0 g w' (xs ++ [x]) ∧ StrK w w' := by
  have h1 := h.kept ((Below.refl _ w).alloc (Nat.le_refl _) (.cells #[.string x.1, .int .i64 x.2.1] 33))
  obtain ⟨k1, v, hb, ho⟩ := h1
  have S1 : StrK w (w.alloc (.cells #[.string x.1, .int .i64 x.2.1] 33)) := (StrK.refl w).alloc _
  have S1 := Lib.hid S1
  obtain ⟨a, c, rfl, hlc, hc⟩ := own_slice ho
  have c0 := hb.cell 0
  have f0 := hb.frozen 0
  have gl := hb.lt
  simp at c0
  have bx := Blk.new w 33 #[.string x.1, .int .i64 x.2.1]
  have HB := Lib.hid hb
  have HO := Lib.hid ho
  have K1 := Lib.hid k1
  have hz : (w.alloc (.cells #[.string x.1, .int .i64 x.2.1] 33)).heap.size = w.heap.size + 1 := by simp
  have y0 := bx.cell 0
  have y1 := bx.cell 1
  simp only [List.getElem?_toArray, List.getElem?_cons_succ, List.getElem?_cons_zero] at y0 y1
  clear h hb ho k1 bx
  go_enter Try.func36, Try.ntmps36
  go_upto_region 1 with fail
  generalize (w.alloc (.cells #[.string x.1, .int .i64 x.2.1] 33)) = W at *
  have gne : ¬ (g = W.heap.size) := by omega
  go_wp2_with (at_builtin; refine wpl_pushH _ elem_slot rfl _ _ rfl w0.heap.size _ xs.length _ rfl HO.out [.string x.1, .int .i64 x.2.1] _ (w.heap.size + 1) rfl hz rfl (by intro u hu; simp at hu; rcases hu with rfl | rfl <;> rfl) (by omega) (by omega) (by have := K1.out.size; omega) ?_; intro v1 w1 ho1 hg1 hk1 hb1; obtain ⟨a1, c1, rfl, -, -⟩ := own_slice ho1; have GP := Gath.put (T := 28) (enc := encSl) (x := x) K1.out hg0 HB.out HO.out (by decide) (by decide) (by decide) ho1 hg1; have GPH := Lib.hid GP; have hb2 := blk_grown2 HB.out hg1 (own_ne HO.out HB.out (by decide)); have d0 := hb2.cell 0; have f1 := hb2.frozen 0; simp at d0; clear GP hb2 ho1 hg1 hk1 hb1)
  go_end0
  exact ⟨rfl, GPH.out.1, S1.out.trans GPH.out.2⟩

theorem slots_Layout (D : List TD) (s : ByteArray) (v : Value) (w : World) (h : TyR w v D) (hs : s.size ≤ maxLen) (hct : ∀ t ∈ D, t.fields.length ≤ 3000) :
    Calls Try.prog 11 #[v, .string s] w fun e w' => ∃ v', e = .returned v' ∧ w'.ownsRow w.heap.size 33 2 v' (slotL D s).length ((slotL D s).flatMap encSl) ∧ Kept w w' := by
  have hmf : ∀ (fn : Fn) (first cap : Array Value) (w : World), (Instr.makeFunc fn first cap).run Try.prog w = .ok (.func fn first cap) w := fun _ _ _ _ => rfl
  have g0 : Gath 28 33 encSl w w.heap.size (w.alloc (.cells #[.slice none 0 0] 28)) [] := ⟨(Below.refl _ _).alloc (Nat.le_refl _) _, _, Blk.new _ _ _, World.ownsRow_nil _ _ _ _⟩
  have C := fields_Layout D s v w.heap.size w (Gath 28 33 encSl w w.heap.size) ⟨h, fun _ _ h => h.k, fun _ _ _ h hk => h.kept hk⟩ (fun w' xs x hI hl => put_Layout w w.heap.size (Nat.le_refl _) w' xs x hI hl) hs hct _ g0
  have C := Lib.hid C
  obtain ⟨a, c, rfl, -, -⟩ := h.slice
  clear h g0 hct
  go_enter Try.func11, Try.ntmps11
  go_wp2_with fail
  refine C.out.mono ?_
  rintro e w1 ⟨rfl, hG⟩
  obtain ⟨k, v1, hb, ho⟩ := hG
  obtain ⟨a1, c1, rfl, -, -⟩ := own_slice ho
  have c0 := hb.cell 0
  simp at c0
  have HO := Lib.hid ho
  have K := Lib.hid k
  clear C hb ho k
  go_wp2_with fail
  go_ret
  exact ⟨_, rfl, HO.out, K.out⟩

set_option maxHeartbeats 2000000 in
theorem put_Fresh (w0 : World) (g : Nat) (hg0 : w0.heap.size ≤ g) (w : World) (xs : List SV) (x : SV) (h : Gath 30 35 frV w0 g w xs) (hl : xs.length ≤ 300000) :
    Calls Try.prog 37 #[.agg #[.string x.1, .int .i64 x.2.1], .string x.2.2, .pointer (some ⟨g, 0, none⟩)] w fun e w' => e = .returned (.tuple #[]) ∧ Gath 30 35 frV w0 g w' (xs ++ [x]) ∧ StrK w w' := by
  have h1 := h.kept ((Below.refl _ w).alloc (Nat.le_refl _) (.cells #[.string x.1, .int .i64 x.2.1] 33))
  obtain ⟨k1, v, hb, ho⟩ := h1
  have S1 : StrK w (w.alloc (.cells #[.string x.1, .int .i64 x.2.1] 33)) := (StrK.refl w).alloc _
  have S1 := Lib.hid S1
  obtain ⟨a, c, rfl, hlc, hc⟩ := own_slice ho
  have c0 := hb.cell 0
  have f0 := hb.frozen 0
  have gl := hb.lt
  simp at c0
  have HB := Lib.hid hb
  have HO := Lib.hid ho
  have K1 := Lib.hid k1
  clear h hb ho k1
  obtain ⟨⟨zr, zn⟩, hz⟩ : ∃ z, zeroOf x.2.2 = z := ⟨_, rfl⟩
  have HZ := Lib.hid hz
  have CZ := slots_Zero x.2.2
  rw [hz] at CZ
  have CZ := Lib.hid CZ
  clear hz
  go_enter Try.func37, Try.ntmps37
  go_upto_region 1 with fail
  generalize (w.alloc (.cells #[.string x.1, .int .i64 x.2.1] 33)) = W at *
  have c0d : W.drew.cell? ⟨g, 0, none⟩ = some (Value.slice a xs.length c) := c0
  go_region_law
    (first
      | (rw [if_pos (by rfl)]; go_simp; go_at_call 34; refine (CZ.out _).mono ?_; rintro e w5 ⟨rfl, k5⟩; dsimp only; have c5 := Kept.cell k5 c0d; have c5a := Kept.cell ((Below.refl _ w5).alloc (Nat.le_refl _) (.cells #[.bool zr, .int .i64 zn] 35)) c5; have K5 := Lib.hid (show Kept W.drew w5 from k5); clear k5)
      | (refine step_append (P := Try.prog) elem_val rfl (.tmp 5) (.tmp 8) rfl w0.heap.size (.slice a xs.length c) xs.length (xs.flatMap frV) (by rfl) ((Touch.own (S := fun _ => False) (Touch.of_kept (Kept.trans (Below.refl _ _).drew K5.out)) HO.out (fun _ _ => id)).alloc _) (.slice (some ⟨w5.heap.size, 0, none⟩) 1 1) 1 [.bool zr, .int .i64 zn] (by rfl) (Rd.one w5 [.bool zr, .int .i64 zn] 35 rfl) (encVal_one ⟨zr, zn⟩) (by omega) (by omega) (by rw [World.size_alloc]; exact Nat.le_succ_of_le (Nat.le_trans K1.out.size K5.out.size)) ?_; intro v6 w6 ho6 hg6 hq6; obtain ⟨a6, c6, rfl, -, -⟩ := own_slice ho6; have HO6 := Lib.hid ho6; have HG6 := Lib.hid hg6; have hb5 : Blk (w5.alloc (.cells #[.bool zr, .int .i64 zn] 35)) g 30 #[.slice a xs.length c] := (HB.out.kept (Kept.trans (Below.refl _ _).drew K5.out)).alloc _; have hb6 := blk_grown2 hb5 hg6 (own_ne ((Touch.own (S := fun _ => False) (Touch.of_kept (Kept.trans (Below.refl _ _).drew K5.out)) HO.out (fun _ _ => id)).alloc (.cells #[.bool zr, .int .i64 zn] 35)) hb5 (by decide)); have d6 := hb6.cell 0; have f6 := hb6.frozen 0; have l6 := hb6.lt; simp at d6; have HB5 := Lib.hid hb5; clear ho6 hg6 hq6 hb5 hb6))
  all_goals go_end0
  all_goals
    have GP := Gath.put (T := 30) (enc := frV) (x := x) (v := .slice a xs.length c) (v' := .slice a6 (xs.length + 1) c6) (w := w5.alloc (.cells #[.bool zr, .int .i64 zn] 35)) (Kept.trans K1.out ((Kept.trans (Below.refl _ _).drew K5.out).alloc (Kept.trans (Below.refl _ _).drew K5.out).size _)) hg0 HB5.out ((Touch.own (S := fun _ => False) (Touch.of_kept (Kept.trans (Below.refl _ _).drew K5.out)) HO.out (fun _ _ => id)).alloc _) (by decide) (by decide) (by decide) (by unfold frV; rw [HZ.out]; exact HO6.out) HG6.out
    exact ⟨rfl, GP.1, (S1.out.trans ((StrK.of_kept (Kept.trans (Below.refl _ _).drew K5.out)).alloc _)).trans GP.2⟩

theorem slots_Fresh (D : List TD) (s : ByteArray) (v : Value) (w : World) (h : TyR w v D) (hs : s.size ≤ maxLen) (hct : ∀ t ∈ D, t.fields.length ≤ 3000) :
    Calls Try.prog 12 #[v, .string s] w fun e w' => ∃ v', e = .returned v' ∧ w'.ownsRow w.heap.size 35 2 v' (slotL D s).length ((slotL D s).flatMap frV) ∧ Kept w w' := by
  have hmf : ∀ (fn : Fn) (first cap : Array Value) (w : World), (Instr.makeFunc fn first cap).run Try.prog w = .ok (.func fn first cap) w := fun _ _ _ _ => rfl
  have g0 : Gath 30 35 frV w w.heap.size (w.alloc (.cells #[.slice none 0 0] 30)) [] := ⟨(Below.refl _ _).alloc (Nat.le_refl _) _, _, Blk.new _ _ _, World.ownsRow_nil _ _ _ _⟩
  have C := fields_Fresh D s v w.heap.size w (Gath 30 35 frV w w.heap.size) ⟨h, fun _ _ h => h.k, fun _ _ _ h hk => h.kept hk⟩ (fun w' xs x hI hl => put_Fresh w w.heap.size (Nat.le_refl _) w' xs x hI hl) hs hct _ g0
  have C := Lib.hid C
  obtain ⟨a, c, rfl, -, -⟩ := h.slice
  clear h g0 hct
  go_enter Try.func12, Try.ntmps12
  go_wp2_with fail
  refine C.out.mono ?_
  rintro e w1 ⟨rfl, hG⟩
  obtain ⟨k, v1, hb, ho⟩ := hG
  obtain ⟨a1, c1, rfl, -, -⟩ := own_slice ho
  have c0 := hb.cell 0
  simp at c0
  have HO := Lib.hid ho
  have K := Lib.hid k
  clear C hb ho k
  go_wp2_with fail
  go_ret
  exact ⟨_, rfl, HO.out, K.out⟩
end Go.Proofs.Ytjljfadfepidjaa
