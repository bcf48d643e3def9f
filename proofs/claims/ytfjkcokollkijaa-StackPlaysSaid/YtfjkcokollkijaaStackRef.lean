/-
  The document's own frame (turnstileref15.Frame) by contract: Push, Load, Store, Clear.
-/
import Derived.Test.YtfjkcokollkijaaStackLaw0
namespace Go.Proofs.Ytfjkcokollkijaa
open Go.RowKit
set_option maxRecDepth 100000

/-- The document's frame behind a pointer: its block g, its slices v, u. -/
structure IsRf (T E B : Nat) (w : World) (p : Value) (x : FrV) (g : Nat) (v u : Value) : Prop where
  ptr : p = .pointer (some ⟨g, 0, none⟩)
  blk : Blk w g T #[.int .i64 x.most, v, u]
  own : w.ownsRow B E 2 v x.l.length (x.l.flatMap encVal)
  owl : w.ownsRow B E 2 u x.loc.length (x.loc.flatMap encVal)
  ge : B ≤ g
  apart : ∀ k, v.ownBlock = some k → u.ownBlock = some k → False

section
variable {T E B : Nat} {w w' : World} {p : Value} {x : FrV} {g : Nat} {v u : Value}
theorem IsRf.apart_ {S : Nat → Prop} (h : IsRf T E B w p x g v u) (ht : Touch S w w') (hn : ∀ b, footF g v u b → ¬ S b) : IsRf T E B w' p x g v u :=
  ⟨h.ptr, h.blk.touch ht (hn g (.inl rfl)), ht.own h.own (fun k hk => hn k (.inr (.inl hk))), ht.own h.owl (fun k hk => hn k (.inr (.inr hk))), h.ge, h.apart⟩
theorem IsRf.still (h : IsRf T E B w p x g v u) (ht : Touch (fun _ => False) w w') : IsRf T E B w' p x g v u := h.apart_ ht (fun _ _ => id)
theorem IsRf.kept (h : IsRf T E B w p x g v u) (ht : Kept w w') : IsRf T E B w' p x g v u := h.still (Touch.of_kept ht)
theorem IsRf.below (h : IsRf T E B w p x g v u) (ht : Touch (footF g v u) w w') (hBw : B ≤ w.heap.size) : Below B w w' := by
  refine ht.below (fun b hb => ?_) hBw
  rcases hb with rfl | hb | hb
  · exact h.ge
  · exact (h.own.lt b hb).1
  · exact (h.owl.lt b hb).1
end
abbrev PRf := IsRf 32 34

/-- A store of an owned row's new slice into the frame. -/
theorem IsRf.hold {T E B : Nat} {w : World} {x : FrV} {g : Nat} {v0 v u : Value} {l : List ValV} (hb : Blk w g T #[.int .i64 x.most, v0, u]) (ho : w.ownsRow B E 2 v l.length (l.flatMap encVal)) (hu : w.ownsRow B E 2 u x.loc.length (x.loc.flatMap encVal))
    (hge : B ≤ g) (hap : ∀ k, v.ownBlock = some k → u.ownBlock = some k → False) (hne : E ≠ T) :
    IsRf T E B (w.setCell ⟨g, 1, none⟩ v) (.pointer (some ⟨g, 0, none⟩)) ⟨l, x.most, x.loc⟩ g v u :=
  ⟨rfl, by simpa using hb.set_ 1 v, Touch.own (S := fun b => b = g) ((Touch.refl (fun b => b = g) w).setCell (p := ⟨g, 1, none⟩) (.inl rfl) v) ho (own_ne ho hb hne),
    Touch.own (S := fun b => b = g) ((Touch.refl (fun b => b = g) w).setCell (p := ⟨g, 1, none⟩) (.inl rfl) v) hu (own_ne hu hb hne), hge, hap⟩

/-- Behind an append and the store of its slice: the frame. -/
theorem IsRf.pushed {T E B : Nat} {W W1 : World} {x : FrV} {g : Nat} {v0 v u : Value} {y : ValV} {g1 cp : Nat} {o : Obj} (hb : Blk W g T #[.int .i64 x.most, v0, u]) (ho : W.ownsRow B E 2 v x.l.length (x.l.flatMap encVal)) (hu : W.ownsRow B E 2 u x.loc.length (x.loc.flatMap encVal))
    (hap : ∀ k, v.ownBlock = some k → u.ownBlock = some k → False) (hne : E ≠ T) (hge : B ≤ g)
    (hown : W1.ownsRow B E 2 (.slice (some ⟨g1, 0, none⟩) (x.l.length + 1) cp) (x.l.length + 1) (x.l.flatMap encVal ++ encVal y)) (hg : (W.alloc o).drew.grownBy W1 v.ownBlock) (hat : v.ownBlock = some g1 ∨ g1 = W.heap.size + 1) :
    IsRf T E B (W1.setCell ⟨g, 1, none⟩ (.slice (some ⟨g1, 0, none⟩) (x.l.length + 1) cp)) (.pointer (some ⟨g, 0, none⟩)) ⟨x.l ++ [y], x.most, x.loc⟩ g (.slice (some ⟨g1, 0, none⟩) (x.l.length + 1) cp) u ∧
      Touch (footF g v u) W (W1.setCell ⟨g, 1, none⟩ (.slice (some ⟨g1, 0, none⟩) (x.l.length + 1) cp)) ∧ ∀ k, (Value.slice (some ⟨g1, 0, none⟩) (x.l.length + 1) cp).ownBlock = some k → v.ownBlock = some k ∨ W.heap.size ≤ k := by
  have hT : Touch (fun b => v.ownBlock = some b) (W.alloc o).drew W1 := Touch.of_grown hg fun k hk => hk
  have hT0 : Touch (fun b => v.ownBlock = some b) W W1 := (((Touch.refl (fun _ => False) W).alloc o).drew.mono (fun _ h => h.elim)).trans hT fun b hb => .inl hb
  have hb1 : Blk W1 g T #[.int .i64 x.most, v0, u] := hb.touch hT0 fun e => own_ne ho hb hne g e rfl
  have hu1 := hT0.own hu fun k hk hk' => hap k hk' hk
  refine ⟨IsRf.hold (v0 := v0) hb1 (by simpa using hown) hu1 hge ?_ hne, (hT0.mono fun b hb => .inr (.inl hb)).setCell (.inl (.inl rfl)) _, ?_⟩
  · intro k hk hk'
    have hk1 : g1 = k := by simpa [Value.ownBlock] using hk
    subst hk1
    rcases hat with h | h
    · exact hap _ h hk'
    · have := (hu.lt _ hk').2
      omega
  · intro k hk
    have hk1 : g1 = k := by simpa [Value.ownBlock] using hk
    subst hk1
    rcases hat with h | h
    · exact .inl h
    · exact .inr (by omega)

theorem ref_Push_no (B : Nat) (w : World) (p : Value) (x : FrV) (g : Nat) (v u : Value) (y : ValV) (h : PRf B w p x g v u) (hl : x.most ≤ x.l.length) :
    Calls Try.prog 13 #[p, .agg #[.bool y.ref, .int .i64 y.n]] w fun e w' => e = .returned (.bool false) ∧ Kept w w' := by
  obtain ⟨rfl, hb, ho, hu, hB, hap⟩ := h
  obtain ⟨a, c, rfl, hlc, hc⟩ := own_slice ho
  have c0 := hb.cell 0
  have c1 := hb.cell 1
  simp at c0 c1
  have hbl := hb.lt
  clear hb ho hu hap
  go_enter Try.func13, Try.ntmps13
  go_wp2
  go_quiet (fail)
  go_wp2
  go_ret
  exact ⟨rfl, kept_drewN ((Below.refl _ _).alloc (Nat.le_refl _) _) _⟩

set_option maxHeartbeats 1000000 in
theorem ref_Push (B : Nat) (w : World) (p : Value) (x : FrV) (g : Nat) (v u : Value) (y : ValV) (h : PRf B w p x g v u) (hBw : B ≤ w.heap.size) (hl : x.l.length ≤ 64) (hm : x.l.length < x.most) :
    Calls Try.prog 13 #[p, .agg #[.bool y.ref, .int .i64 y.n]] w fun e w' =>
      e = .returned (.bool true) ∧ ∃ v', PRf B w' p ⟨x.l ++ [y], x.most, x.loc⟩ g v' u ∧ Touch (footF g v u) w w' ∧ ∀ k, v'.ownBlock = some k → v.ownBlock = some k ∨ w.heap.size ≤ k := by
  obtain ⟨rfl, hb, ho, hu, hB, hap⟩ := h
  obtain ⟨a, c, rfl, hlc, hc⟩ := own_slice ho
  have c0 := hb.cell 0
  have c1 := hb.cell 1
  simp at c0 c1
  have f0 := hb.frozen 1
  have hbl := hb.lt
  have HB := Lib.hid hb
  have HO := Lib.hid ho
  have HU := Lib.hid hu
  have HA := Lib.hid hap
  obtain ⟨i0, hi, hz0, hz1, hz2⟩ := info_parts elem_val.hi
  have HI := Lib.hid hi
  have HZ0 := Lib.hid hz0
  have HZ1 := Lib.hid hz1
  have HZ2 := Lib.hid hz2
  clear hb ho hu hap hi hz0 hz1 hz2
  go_enter Try.func13, Try.ntmps13
  go_wp2_with (fail)
  go_quiet (fail)
  go_wp2_with fail
  obtain ⟨W, hW⟩ : ∃ W, W = (w.alloc (.cells #[.bool y.ref, .int .i64 y.n] 34)).drewN nq := ⟨_, rfl⟩
  have kW : Kept w W := by rw [hW]; exact kept_drewN ((Below.refl _ _).alloc (Nat.le_refl _) _) nq
  have bW : Blk W w.heap.size 34 #[.bool y.ref, .int .i64 y.n] := by rw [hW]; exact (Blk.new w _ _).drewN nq
  have sW : W.heap.size = w.heap.size + 1 := by rw [hW]; simp [World.drewN]
  rw [← hW]
  clear hW
  have BW := Lib.hid (HB.out.kept kW)
  have OW := Lib.hid (Touch.own (S := fun _ => False) (Touch.of_kept kW) HO.out (fun _ _ => id))
  have UW := Lib.hid (Touch.own (S := fun _ => False) (Touch.of_kept kW) HU.out (fun _ _ => id))
  have SW := Lib.hid sW
  have w0 := kW.cell c0
  have w1 := kW.cell c1
  have wf0 := BW.out.frozen 1
  have y0 := bW.cell 0
  have y1 := bW.cell 1
  simp at y0 y1
  have hlt : w.heap.size < W.heap.size := by omega
  have hgW : g < W.heap.size := by omega
  have hne : ¬ g = w.heap.size := by omega
  have KW := Lib.hid (Touch.of_kept (S := footF g (.slice a x.l.length c) u) kW)
  clear sW kW bW c0 c1 f0
  go_region_law (refine step_append_lies _ rfl (.tmp 19) (.tmp 21) 30 rfl B 34 i0 (.agg #[.bool false, .int .i64 0]) 2 16 Try.underlying30 HI.out HZ0.out HZ1.out HZ2.out rfl (by decide) (.slice a x.l.length c) x.l.length (x.l.flatMap encVal) (by simp [Act.eval, Act.put]) (OW.out.alloc _) ⟨W.heap.size, 0, none⟩ 1 1 (encVal y) (by simp [Act.eval, Act.put]) rfl (World.news_of_block (Blk.new W _ _)) (encVal_one y) (by omega) (by unfold maxLen; omega) (by omega) (by simp; omega) (W.heap.size + 1) (by simp) ?_; intro g1 cp W1 ho1 hg1 hat1 hlt1; have qb := Lib.hid (blk_grown3 (w := (W.alloc (.cells #[.bool y.ref, .int .i64 y.n] 34)).drew) (BW.out.alloc _) hg1 (own_ne OW.out BW.out (by decide))); have qf := qb.out.frozen 1; have q0 := qb.out.cell 1; simp at q0; have QO := Lib.hid ho1; have QG := Lib.hid hg1; have QA := Lib.hid hat1; clear ho1 hg1 hat1)
  all_goals go_wp2
  all_goals go_ret
  all_goals have hp := IsRf.pushed (x := x) BW.out OW.out UW.out HA.out (by decide) hB QO.out QG.out QA.out
  all_goals exact ⟨rfl, _, hp.1, (KW.out.trans hp.2.1 fun b hb => .inl hb), fun k hk => (hp.2.2 k hk).imp id fun h => by have := SW.out; omega⟩
end Go.Proofs.Ytfjkcokollkijaa
