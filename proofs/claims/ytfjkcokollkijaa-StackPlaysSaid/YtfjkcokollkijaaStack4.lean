/-
  Package stack by contract: Clear, Load, Store, Stack, Room.
-/
import Derived.Test.YtfjkcokollkijaaStack3
namespace Go.Proofs.Ytfjkcokollkijaa
open Go.RowKit
set_option maxRecDepth 100000

theorem stack_Room (B : Nat) (w : World) (p : Value) (x : FrV) (g : Nat) (v u : Value) (h : PFr B w p x g v u) (hl : x.l.length ≤ 64) (hm : 0 ≤ x.most ∧ x.most ≤ 64) :
    Calls Try.prog 10 #[p] w fun e w' => e = .returned (.int .i64 (x.most - x.l.length)) ∧ ∃ m, w' = w.drewN m := by
  obtain ⟨rfl, hb, ho, hu, hB, hap⟩ := h
  obtain ⟨a, c, rfl, hlc, hc⟩ := own_slice ho
  have c0 := hb.cell 0
  have c1 := hb.cell 1
  simp at c0 c1
  obtain ⟨m1, m2⟩ := hm
  clear hb ho hu hap
  go_enter Try.func10, Try.ntmps10
  go_wp2
  go_quiet (fail)
  go_wp2
  go_ret
  exact ⟨ret_int (by first | rfl | (rw [IntWalk.wrap64_in _ (by omega)])), _, rfl⟩

theorem stack_Stack (B : Nat) (w : World) (p : Value) (x : FrV) (g : Nat) (v u : Value) (h : PFr B w p x g v u) (hl : x.l.length ≤ 64) :
    Calls Try.prog 8 #[p] w fun e w' => ∃ t, e = .returned t ∧ w'.ownsRow w.heap.size 34 2 t x.l.length (x.l.flatMap encVal) ∧ Kept w w' := by
  obtain ⟨rfl, hb, ho, hu, hB, hap⟩ := h
  have hr := Rd.of_own ho
  obtain ⟨a, c, rfl, hlc, hc⟩ := own_slice ho
  have c0 := hb.cell 0
  simp at c0
  have HR := Lib.hid hr
  clear hb ho hu hap hr
  go_enter Try.func8, Try.ntmps8
  go_wp2_with (at_builtin; refine wpl_append _ elem_val rfl _ _ rfl w.heap.size _ _ _ rfl (World.ownsRow_nil _ _ _ _) _ _ _ rfl HR.out (vals_one _) (by omega) (by omega) (Nat.le_refl _) ?_; intro v4 w4 ho4 hg4)
  go_ret
  exact ⟨_, rfl, by simpa using ho4, (Below.refl _ _).grown hg4 (Nat.le_refl _) (fun k hk => by cases hk)⟩

def inIx (n : Nat) (t : Int) : Bool := decide (0 ≤ t) && decide (t < n)
def storeL (l : List ValV) (t : Int) (y : ValV) : List ValV := if inIx l.length t then l.set t.toNat y else l
def loadB (l : List ValV) (t : Int) (r : Bool) : Bool := inIx l.length t && ((l[t.toNat]?.getD zeroV).ref == r)
def loadV (l : List ValV) (t : Int) (r : Bool) : ValV := if loadB l t r then l[t.toNat]?.getD zeroV else zeroV

theorem vals_set (l : List ValV) (y : ValV) (k : Nat) (hk : k < l.length) : ((l.flatMap encVal).set (k * 2) (.bool y.ref)).set (k * 2 + 1) (.int .i64 y.n) = (l.set k y).flatMap encVal := by
  rw [flat_set2 encVal encVal_len y _ _ rfl, if_pos hk]

theorem stack_Store (B : Nat) (w : World) (p : Value) (x : FrV) (g : Nat) (v u : Value) (t : Int) (y : ValV) (h : PFr B w p x g v u) (hl : x.loc.length ≤ 64) :
    Calls Try.prog 19 #[p, .int .i64 t, .agg #[.bool y.ref, .int .i64 y.n]] w fun e w' => e = .returned (.bool (inIx x.loc.length t)) ∧ PFr B w' p ⟨x.l, x.most, storeL x.loc t y⟩ g v u ∧ Touch (footF g v u) w w' := by
  have hp := h.ptr
  subst hp
  have h' := h
  obtain ⟨-, hb, ho, hu, hB, hap⟩ := h
  obtain ⟨a, c, rfl, hlc, hc⟩ := own_slice hu
  have c0 := hb.cell 2
  simp at c0
  have hbl := hb.lt
  by_cases ht : 0 ≤ t ∧ t < x.loc.length
  · obtain ⟨k, rfl⟩ : ∃ k : Nat, t = k := ⟨t.toNat, by omega⟩
    have hk : k < x.loc.length := by omega
    have hi : inIx x.loc.length k = true := by simp [inIx, hk]
    have hst : storeL x.loc k y = x.loc.set k y := by simp [storeL, hi]
    obtain ⟨r, c', hv, _, _, hge, hrs, hcell, hfz⟩ := own_form hu (by omega)
    simp only [Value.slice.injEq] at hv
    obtain ⟨rfl, -, rfl⟩ := hv
    have hxl := hu.1
    obtain ⟨q0, hq0⟩ : ∃ q, (x.loc.flatMap encVal)[k * 2]? = some q := ⟨_, List.getElem?_eq_getElem (by omega)⟩
    obtain ⟨q1, hq1⟩ : ∃ q, (x.loc.flatMap encVal)[k * 2 + 1]? = some q := ⟨_, List.getElem?_eq_getElem (by omega)⟩
    have x0 := hcell _ _ hq0
    have x1 := hcell _ _ hq1
    have f0 := hfz (k * 2)
    have f1 := hfz (k * 2 + 1)
    have hgr : g ≠ r := fun e => own_ne hu hb (by decide) r rfl e.symm
    have hfin : ∀ W, Touch (fun _ => False) w W → PFr B ((W.setCell ⟨r, k * 2, none⟩ (.bool y.ref)).setCell ⟨r, k * 2 + 1, none⟩ (.int .i64 y.n)) (.pointer (some ⟨g, 0, none⟩)) ⟨x.l, x.most, storeL x.loc k y⟩ g v (.slice (some ⟨r, 0, none⟩) x.loc.length c) ∧
        Touch (footF g v (.slice (some ⟨r, 0, none⟩) x.loc.length c)) w ((W.setCell ⟨r, k * 2, none⟩ (.bool y.ref)).setCell ⟨r, k * 2 + 1, none⟩ (.int .i64 y.n)) := by
      intro W hW
      have hf := h'.still hW
      have ht2 : Touch (fun b => b = r) W ((W.setCell ⟨r, k * 2, none⟩ (.bool y.ref)).setCell ⟨r, k * 2 + 1, none⟩ (.int .i64 y.n)) := ((Touch.refl (fun b => b = r) W).setCell (p := ⟨r, k * 2, none⟩) (.inl rfl) _).setCell (p := ⟨r, k * 2 + 1, none⟩) (.inl rfl) _
      refine ⟨⟨rfl, (hf.blk.far hgr _).far hgr _, ht2.own hf.own fun j hj hj' => hap j hj (by rw [hj']; rfl), ?_, hB, hap⟩, ?_⟩
      · rw [hst, List.length_set]
        have := own_store (own_store hf.owl (k * 2) (.bool y.ref)) (k * 2 + 1) (.int .i64 y.n)
        rw [vals_set _ _ _ hk] at this
        exact this
      · exact (hW.mono fun b hb => hb.elim).trans ht2 fun b hb => .inl (.inr (.inr (by rw [hb]; rfl)))
    have HF := Lib.hid hfin
    have HI := Lib.hid hi
    clear hb ho hu hap hcell hfz hxl hq0 hq1 hfin h' hst hi
    go_enter Try.func19, Try.ntmps19
    go_wp2_with fail
    go_region
    all_goals go_wp2
    all_goals go_ret
    all_goals refine ⟨ret_bool HI.out.symm, ?_⟩
    all_goals exact ⟨(HF.out w (Touch.refl _ _)).1.still ((Touch.refl _ _).alloc _).drew, ((HF.out w (Touch.refl _ _)).2.alloc _).drew⟩
  · have hi : inIx x.loc.length t = false := by
      simp only [inIx, Bool.and_eq_false_iff, decide_eq_false_iff_not]
      omega
    have hst : storeL x.loc t y = x.loc := by simp [storeL, hi]
    rw [hi, hst]
    have H := Lib.hid h'
    clear hb ho hu hap h' hst hi
    rcases (by omega : t < 0 ∨ (0 ≤ t ∧ (x.loc.length : Int) ≤ t)) with h0 | ⟨h0, h1⟩
    all_goals
      go_enter Try.func19, Try.ntmps19
      go_wp2_with fail
      go_ret
      have k0 : Touch (fun _ => False) w (w.alloc (.cells #[.bool y.ref, .int .i64 y.n] 34)) := (Touch.refl _ _).alloc _
      exact ⟨rfl, H.out.still k0, k0.mono fun b hb => hb.elim⟩

theorem stack_Load (B : Nat) (w : World) (p : Value) (x : FrV) (g : Nat) (v u : Value) (t : Int) (r : Bool) (h : PFr B w p x g v u) (hl : x.loc.length ≤ 64) :
    Calls Try.prog 17 #[p, .int .i64 t, .bool r] w fun e w' => e = .returned (.tuple #[.agg #[.bool (loadV x.loc t r).ref, .int .i64 (loadV x.loc t r).n], .bool (loadB x.loc t r)]) ∧ Kept w w' := by
  obtain ⟨rfl, hb, ho, hu, hB, hap⟩ := h
  obtain ⟨a, c, rfl, hlc, hc⟩ := own_slice hu
  have c0 := hb.cell 2
  simp at c0
  have hbl := hb.lt
  by_cases ht : 0 ≤ t ∧ t < x.loc.length
  · obtain ⟨k, rfl⟩ : ∃ k : Nat, t = k := ⟨t.toNat, by omega⟩
    have hk : k < x.loc.length := by omega
    obtain ⟨y, hy⟩ : ∃ y, x.loc[k]? = some y := ⟨_, List.getElem?_eq_getElem hk⟩
    obtain ⟨rr, c', hv, _, z0, z1⟩ := val_cells rfl hu hy
    simp only [Value.slice.injEq] at hv
    obtain ⟨rfl, -, rfl⟩ := hv
    have hlb : loadB x.loc k r = (y.ref == r) := by simp only [loadB, inIx, Int.toNat_natCast, hy, Option.getD_some]; simp [hk]
    have hlv : loadV x.loc k r = if y.ref == r then y else zeroV := by simp only [loadV, hlb, Int.toNat_natCast, hy, Option.getD_some]
    have hrr : rr < w.heap.size := (hu.lt rr rfl).2
    rw [hlb, hlv]
    clear hb ho hu hap hlb hlv hy
    by_cases hyr : y.ref = r
    · subst hyr
      have hbb : (y.ref == y.ref) = true := by simp
      rw [hbb, if_pos rfl]
      have hb2 : (y.ref != y.ref) = false := by simp
      go_enter Try.func17, Try.ntmps17
      go_wp2_with fail
      go_returns
      exact ⟨rfl, by exact (Below.refl _ _).alloc (Nat.le_refl _) _⟩
    · have hbb : (y.ref == r) = false := by simpa using hyr
      rw [hbb, if_neg (by simp)]
      have hb2 : (y.ref != r) = true := by simpa using hyr
      clear hyr
      go_enter Try.func17, Try.ntmps17
      go_wp2_with fail
      go_returns
      exact ⟨rfl, by exact (Below.refl _ _).alloc (Nat.le_refl _) _⟩
  · have hi : inIx x.loc.length t = false := by
      simp only [inIx, Bool.and_eq_false_iff, decide_eq_false_iff_not]
      omega
    have hlb : loadB x.loc t r = false := by simp [loadB, hi]
    have hlv : loadV x.loc t r = zeroV := by simp [loadV, hlb]
    rw [hlb, hlv]
    clear hb ho hu hap hlb hlv hi
    rcases (by omega : t < 0 ∨ (0 ≤ t ∧ (x.loc.length : Int) ≤ t)) with h0 | ⟨h0, h1⟩
    all_goals
      go_enter Try.func17, Try.ntmps17
      go_wp2_with fail
      go_returns
      exact ⟨rfl, by exact (Below.refl _ _).alloc (Nat.le_refl _) _⟩

/-- What Clear leaves. -/
def clearL (x : FrV) (y : ValV) : List ValV := if 0 < x.most then [y] else x.l

set_option maxHeartbeats 1000000 in
theorem stack_Clear (B : Nat) (w : World) (p : Value) (x : FrV) (g : Nat) (v u : Value) (y : ValV) (h : PFr B w p x g v u) (hBw : B ≤ w.heap.size) :
    Calls Try.prog 15 #[p, .agg #[.bool y.ref, .int .i64 y.n]] w fun e w' => e = .returned (.tuple #[]) ∧ ∃ v', PFr B w' p ⟨clearL x y, x.most, x.loc⟩ g v' u ∧ Touch (footF g v u) w w' ∧ ∀ k, v'.ownBlock = some k → v.ownBlock = some k ∨ w.heap.size ≤ k := by
  have hp := h.ptr
  subst hp
  have h' := h
  obtain ⟨-, hb, ho, hu, hB, hap⟩ := h
  have hbl := hb.lt
  by_cases hm : 0 < x.most
  · have hcl : clearL x y = [y] := if_pos hm
    rcases ho.2 with ⟨rfl, _⟩ | ⟨r, c, cur, rfl, _, _, _, hc, _⟩
    · have hown0 : w.ownsRow B 34 2 (.slice none 0 0) 0 [] := World.ownsRow_nil _ _ _ _
      have c0 := hb.cell 0
      have c1 := hb.cell 1
      simp at c0 c1
      have HB := Lib.hid hb
      have HO := Lib.hid hown0
      have HU := Lib.hid hu
      have HA := Lib.hid hap
      have HC := Lib.hid hcl
      obtain ⟨i0, hi, hz0, hz1, hz2⟩ := info_parts elem_val.hi
      have HI := Lib.hid hi
      have HZ0 := Lib.hid hz0
      have HZ1 := Lib.hid hz1
      have HZ2 := Lib.hid hz2
      clear hb ho hu hap hi hz0 hz1 hz2 h' hown0 hcl
      go_enter Try.func15, Try.ntmps15
      go_wp2_with (fail)
      obtain ⟨W, hW⟩ : ∃ W, W = w.alloc (.cells #[.bool y.ref, .int .i64 y.n] 34) := ⟨_, rfl⟩
      have kW : Kept w W := by rw [hW]; exact (Below.refl _ _).alloc (Nat.le_refl _) _
      have bW : Blk W w.heap.size 34 #[.bool y.ref, .int .i64 y.n] := by rw [hW]; exact Blk.new w _ _
      have sW : W.heap.size = w.heap.size + 1 := by rw [hW]; simp
      rw [← hW]
      clear hW
      have BW := Lib.hid (HB.out.kept kW)
      have OW := Lib.hid (Touch.own (S := fun _ => False) (Touch.of_kept kW) HO.out (fun _ _ => id))
      have UW := Lib.hid (Touch.own (S := fun _ => False) (Touch.of_kept kW) HU.out (fun _ _ => id))
      have SW := Lib.hid sW
      have w0 := kW.cell c0
      have wf0 := BW.out.frozen 0
      have y0 := bW.cell 0
      have y1 := bW.cell 1
      simp at y0 y1
      have hlt : w.heap.size < W.heap.size := by omega
      have hgW : g < W.heap.size := by omega
      have hne : ¬ g = w.heap.size := by omega
      have KW := Lib.hid (Touch.of_kept (S := footF g (.slice none 0 0) u) kW)
      clear sW kW bW c0 c1
      go_region_law (refine step_append_lies _ rfl (.tmp 16) (.tmp 18) 30 rfl B 34 i0 (.agg #[.bool false, .int .i64 0]) 2 16 Try.underlying30 HI.out HZ0.out HZ1.out HZ2.out rfl (by decide) (.slice none 0 0) 0 [] (by simp [Act.eval, Act.put]) (OW.out.alloc _) ⟨W.heap.size, 0, none⟩ 1 1 (encVal y) (by simp [Act.eval, Act.put]) rfl (World.news_of_block (Blk.new W _ _)) (encVal_one y) (by omega) (by unfold maxLen; omega) (by omega) (by simp; omega) (W.heap.size + 1) (by simp) ?_; intro g1 cp W1 ho1 hg1 hat1 hlt1; have qb := Lib.hid (blk_grown3 (w := (W.alloc (.cells #[.bool y.ref, .int .i64 y.n] 34)).drew) (BW.out.alloc _) hg1 (own_ne OW.out BW.out (by decide))); have qf := qb.out.frozen 0; have q0 := qb.out.cell 0; simp at q0; have QO := Lib.hid ho1; have QG := Lib.hid hg1; have QA := Lib.hid hat1; clear ho1 hg1 hat1)
      all_goals go_wp2
      all_goals go_end0
      all_goals have hp := IsFr.pushed (x := ⟨[], x.most, x.loc⟩) (v := (.slice none 0 0)) BW.out OW.out UW.out HA.out (by decide) hB (by simpa using QO.out) QG.out QA.out
      all_goals exact ⟨rfl, _, by rw [HC.out]; exact hp.1, (KW.out.trans hp.2.1 fun b hb => .inl hb), fun k hk => (hp.2.2 k hk).imp id fun h => by have := SW.out; omega⟩
    · have hown0 : w.ownsRow B 34 2 (.slice (some ⟨r, 0, none⟩) 0 c) 0 [] := by simpa using own_front ho (Nat.zero_le _)
      unfold maxLen at hc
      obtain ⟨n, hn⟩ : ∃ n, n = x.l.length := ⟨_, rfl⟩
      rw [← hn] at hb ho hap h' ⊢
      clear hn
      have c0 := hb.cell 0
      have c1 := hb.cell 1
      simp at c0 c1
      have HB := Lib.hid hb
      have HO := Lib.hid hown0
      have HU := Lib.hid hu
      have HA := Lib.hid hap
      have HC := Lib.hid hcl
      obtain ⟨i0, hi, hz0, hz1, hz2⟩ := info_parts elem_val.hi
      have HI := Lib.hid hi
      have HZ0 := Lib.hid hz0
      have HZ1 := Lib.hid hz1
      have HZ2 := Lib.hid hz2
      clear hb ho hu hap hi hz0 hz1 hz2 h' hown0 hcl
      go_enter Try.func15, Try.ntmps15
      go_wp2_with (fail)
      obtain ⟨W, hW⟩ : ∃ W, W = w.alloc (.cells #[.bool y.ref, .int .i64 y.n] 34) := ⟨_, rfl⟩
      have kW : Kept w W := by rw [hW]; exact (Below.refl _ _).alloc (Nat.le_refl _) _
      have bW : Blk W w.heap.size 34 #[.bool y.ref, .int .i64 y.n] := by rw [hW]; exact Blk.new w _ _
      have sW : W.heap.size = w.heap.size + 1 := by rw [hW]; simp
      rw [← hW]
      clear hW
      have BW := Lib.hid (HB.out.kept kW)
      have OW := Lib.hid (Touch.own (S := fun _ => False) (Touch.of_kept kW) HO.out (fun _ _ => id))
      have UW := Lib.hid (Touch.own (S := fun _ => False) (Touch.of_kept kW) HU.out (fun _ _ => id))
      have SW := Lib.hid sW
      have w0 := kW.cell c0
      have wf0 := BW.out.frozen 0
      have y0 := bW.cell 0
      have y1 := bW.cell 1
      simp at y0 y1
      have hlt : w.heap.size < W.heap.size := by omega
      have hgW : g < W.heap.size := by omega
      have hne : ¬ g = w.heap.size := by omega
      have KW := Lib.hid (Touch.of_kept (S := footF g (.slice (some ⟨r, 0, none⟩) n c) u) kW)
      clear sW kW bW c0 c1
      go_region_law (refine step_append_lies _ rfl (.tmp 16) (.tmp 18) 30 rfl B 34 i0 (.agg #[.bool false, .int .i64 0]) 2 16 Try.underlying30 HI.out HZ0.out HZ1.out HZ2.out rfl (by decide) (.slice (some ⟨r, 0, none⟩) 0 c) 0 [] (by simp [Act.eval, Act.put]) (OW.out.alloc _) ⟨W.heap.size, 0, none⟩ 1 1 (encVal y) (by simp [Act.eval, Act.put]) rfl (World.news_of_block (Blk.new W _ _)) (encVal_one y) (by omega) (by unfold maxLen; omega) (by omega) (by simp; omega) (W.heap.size + 1) (by simp) ?_; intro g1 cp W1 ho1 hg1 hat1 hlt1; have qb := Lib.hid (blk_grown3 (w := (W.alloc (.cells #[.bool y.ref, .int .i64 y.n] 34)).drew) (BW.out.alloc _) hg1 (own_ne OW.out BW.out (by decide))); have qf := qb.out.frozen 0; have q0 := qb.out.cell 0; simp at q0; have QO := Lib.hid ho1; have QG := Lib.hid hg1; have QA := Lib.hid hat1; clear ho1 hg1 hat1)
      all_goals go_wp2
      all_goals go_end0
      all_goals have hp := IsFr.pushed (x := ⟨[], x.most, x.loc⟩) (v := (.slice (some ⟨r, 0, none⟩) 0 c)) BW.out OW.out UW.out HA.out (by decide) hB (by simpa using QO.out) QG.out QA.out
      all_goals exact ⟨rfl, _, by rw [HC.out]; exact hp.1, (KW.out.trans hp.2.1 fun b hb => .inl hb), fun k hk => (hp.2.2 k hk).imp id fun h => by have := SW.out; omega⟩
  · have hcl : clearL x y = x.l := if_neg hm
    have hsl := own_slice ho
    obtain ⟨a, c, rfl, hlc, hc⟩ := hsl
    have c1 := hb.cell 1
    simp at c1
    have HC := Lib.hid hcl
    have H := Lib.hid h'
    have k0 : Touch (fun _ => False) w (w.alloc (.cells #[.bool y.ref, .int .i64 y.n] 34)) := (Touch.refl _ _).alloc _
    clear hb ho hu hap h' hcl
    go_enter Try.func15, Try.ntmps15
    go_wp2_with (fail)
    go_end0
    exact ⟨rfl, _, by rw [HC.out]; exact H.out.still k0, k0.mono fun b hb => hb.elim, fun k hk => .inl hk⟩
end Go.Proofs.Ytfjkcokollkijaa
