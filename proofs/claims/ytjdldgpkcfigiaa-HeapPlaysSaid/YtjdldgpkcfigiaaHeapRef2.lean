/-
  The document's own heap by contract: NewHeap, Put.
-/
import Derived.Test.YtjdldgpkcfigiaaHeapRef
namespace Go.Proofs.Ytjdldgpkcfigiaa
open Go.RowKit
set_option maxRecDepth 100000

def oomB : ByteArray := ⟨#[106, 97, 118, 97, 47, 108, 97, 110, 103, 47, 79, 117, 116, 79, 102, 77, 101, 109, 111, 114, 121, 69, 114, 114, 111, 114]⟩

theorem ob_set (l : List Ob) (k : Nat) (x : Ob) (y : Ob) (hx : l[k]? = some x) (hc : y.cls = x.cls) (hs : y.s = x.s) : (l.set k y).flatMap encOb = l.flatMap encOb := by
  have e : (l.set k y).map encOb = l.map encOb := by
    rw [List.map_set]
    apply List.ext_getElem?
    intro i
    rw [List.getElem?_set]
    split
    · rename_i hi
      subst hi
      have hlt := (List.getElem?_eq_some_iff.1 hx).1
      rw [if_pos (by simpa using hlt), List.getElem?_map, hx]
      simp [encOb, hc, hs]
    · rfl
  rw [List.flatMap_def, List.flatMap_def, e]

theorem farR_at {obs : List Ob} (h : obs.Pairwise fun x y => ∀ k, x.s.ownBlock = some k → y.s.ownBlock = some k → False) {i k : Nat} {x y : Ob} (hi : obs[i]? = some y) (hk : obs[k]? = some x) (hne : i ≠ k) (b : Nat) (h1 : y.s.ownBlock = some b) (h2 : x.s.ownBlock = some b) : False := by
  obtain ⟨l1, rfl⟩ := List.getElem?_eq_some_iff.1 hi
  obtain ⟨l2, rfl⟩ := List.getElem?_eq_some_iff.1 hk
  rcases Nat.lt_or_ge i k with h3 | h3
  · exact List.pairwise_iff_getElem.1 h i k l1 l2 h3 b h1 h2
  · exact List.pairwise_iff_getElem.1 h k i l2 l1 (by omega) b h2 h1
theorem farR_set {obs : List Ob} (h : obs.Pairwise fun x y => ∀ k, x.s.ownBlock = some k → y.s.ownBlock = some k → False) {k : Nat} {x x' : Ob} (hk : obs[k]? = some x) (hs : x'.s = x.s) : (obs.set k x').Pairwise fun x y => ∀ k, x.s.ownBlock = some k → y.s.ownBlock = some k → False := by
  have e : (obs.set k x').map (fun y => y.s) = obs.map (fun y => y.s) := by
    rw [List.map_set]
    apply List.ext_getElem?
    intro i
    rw [List.getElem?_set]
    split
    · rename_i hi
      subst hi
      have hlt := (List.getElem?_eq_some_iff.1 hk).1
      rw [if_pos (by simpa using hlt), List.getElem?_map, hk]
      simp [hs]
    · rfl
  have h2 : (obs.map (fun y => y.s)).Pairwise (fun a b : Value => ∀ k, a.ownBlock = some k → b.ownBlock = some k → False) := List.pairwise_map.2 h
  rw [← e] at h2
  exact (List.pairwise_map (f := fun y : Ob => y.s)).1 h2

/-- Behind a store into a slot: the document's heap. -/
theorem IsRh.stored {B : Nat} {w : World} {p : Value} {most : Int} {obs : List Ob} {g : Nat} {v : Value} {k j bb c : Nat} {x : Ob} {y : ValV} (h : IsRh B w p most obs g v) (hx : obs[k]? = some x) (hs : x.s = .slice (some ⟨bb, 0, none⟩) x.sl.length c) (hj : j < x.sl.length) :
    IsRh B ((w.setCell ⟨bb, j * 2, none⟩ (.bool y.ref)).setCell ⟨bb, j * 2 + 1, none⟩ (.int .i64 y.n)) p most (obs.set k { x with sl := x.sl.set j y }) g v ∧ Touch (footR g v obs) w ((w.setCell ⟨bb, j * 2, none⟩ (.bool y.ref)).setCell ⟨bb, j * 2 + 1, none⟩ (.int .i64 y.n)) := by
  have hm := List.mem_of_getElem? hx
  have ht : Touch (fun b => b = bb) w ((w.setCell ⟨bb, j * 2, none⟩ (.bool y.ref)).setCell ⟨bb, j * 2 + 1, none⟩ (.int .i64 y.n)) := ((Touch.refl (fun b => b = bb) w).setCell (p := ⟨bb, j * 2, none⟩) (.inl rfl) _).setCell (p := ⟨bb, j * 2 + 1, none⟩) (.inl rfl) _
  have hrow := h.row x hm
  have hown : x.s.ownBlock = some bb := by rw [hs]; rfl
  have tb := hrow.ty bb hown
  have hlt := (List.getElem?_eq_some_iff.1 hx).1
  have hat : ∀ z ∈ obs.set k { x with sl := x.sl.set j y }, z = { x with sl := x.sl.set j y } ∨ ∃ i, i ≠ k ∧ obs[i]? = some z := by
    intro z hz
    obtain ⟨i, hi⟩ := List.getElem?_of_mem hz
    rw [List.getElem?_set] at hi
    by_cases e : k = i
    · rw [if_pos e, if_pos (by omega)] at hi
      exact .inl (by simpa using hi.symm)
    · rw [if_neg e] at hi
      exact .inr ⟨i, fun h => e h.symm, hi⟩
  refine ⟨⟨h.ptr, h.blk.touch ht (TyAt.ne h.blk.ty tb (by decide)), ?_, ?_, farR_set h.far hx rfl, h.ge⟩, ht.mono fun b hb => .inr (.inr ⟨x, hm, by rw [hb]; exact hown⟩)⟩
  · rw [List.length_set, ob_set obs k x { x with sl := x.sl.set j y } hx rfl rfl]
    exact ht.own h.own fun k hk => TyAt.ne (own_ty h.own k hk) tb (by decide)
  · intro z hz
    rcases hat z hz with rfl | ⟨i, hik, hi⟩
    · show Row _ _ _ _ x.s (x.sl.set j y).length _
      rw [List.length_set, hs]
      rw [hs] at hrow
      have := (hrow.store (j * 2) (.bool y.ref)).store (j * 2 + 1) (.int .i64 y.n)
      rw [vals_set _ _ _ hj] at this
      exact this
    · exact (h.row z (List.mem_of_getElem? hi)).touch ht fun b hb e => farR_at h.far hi hx hik b hb (by rw [e]; exact hown)

theorem ref_New (w : World) (most : Int) : Calls Try.prog 22 #[.int .i64 most] w fun e w' => ∃ p g v, e = .returned p ∧ IsRh w.heap.size w' p most [⟨oomB, .slice none 0 0, []⟩] g v ∧ Kept w w' := by
  go_enter Try.func22, Try.ntmps22
  go_wp2
  go_ret
  have hz : (w.alloc (.cells #[.string oomB, .slice none 0 0] 98)).heap.size = w.heap.size + 1 := by simp
  refine ⟨_, w.heap.size + 1, .slice (some ⟨w.heap.size, 0, none⟩) 1 1, rfl, ⟨rfl, ?_, ?_, ?_, by simp, by omega⟩, ((Below.refl _ _).alloc (Nat.le_refl _) _).alloc (by simp) _⟩
  · have := Blk.new (w.alloc (.cells #[.string oomB, .slice none 0 0] 98)) 72 #[.int .i64 most, .slice (some ⟨w.heap.size, 0, none⟩) 1 1]
    rw [hz] at this
    exact this
  · refine ⟨rfl, .inr ⟨w.heap.size, 1, #[.string oomB, .slice none 0 0], rfl, Nat.le_refl _, (Blk.new w 98 #[.string oomB, .slice none 0 0]).alloc _, Nat.le_refl _, by decide, rfl, rfl⟩⟩
  · intro x hx
    obtain rfl : x = ⟨oomB, .slice none 0 0, []⟩ := by simpa using hx
    exact Row.of_own (World.ownsRow_nil _ _ _ _)

theorem ref_Put_err (B : Nat) (w : World) (p : Value) (most : Int) (obs : List Ob) (g : Nat) (v : Value) (t u e : Int) (y : ValV) (he : ¬ e = 0)
    (C : Calls Try.prog 31 #[p, .int .i64 t, .int .i64 u] (w.alloc (.cells #[.bool y.ref, .int .i64 y.n] 57)) fun e' w' => e' = .returned (.int .i64 e) ∧ ∃ m, w' = (w.alloc (.cells #[.bool y.ref, .int .i64 y.n] 57)).drewN m) :
    Calls Try.prog 27 #[p, .int .i64 t, .int .i64 u, .agg #[.bool y.ref, .int .i64 y.n]] w fun e' w' => e' = .returned (.int .i64 e) ∧ Kept w w' := by
  go_enter Try.func27, Try.ntmps27
  go_wp2_with fail
  refine C.mono ?_
  rintro e' w' ⟨rfl, m, rfl⟩
  clear C
  go_wp2
  go_ret
  exact ⟨rfl, kept_drewN ((Below.refl _ _).alloc (Nat.le_refl _) _) _⟩

theorem ref_Put (B : Nat) (w : World) (p : Value) (most : Int) (obs : List Ob) (g : Nat) (v : Value) (k j : Nat) (x : Ob) (z y : ValV) (h : IsRh B w p most obs g v) (hi2 : obs.length ≤ 1001) (hx : obs[k]? = some x) (hz : x.sl[j]? = some z) (hr : z.ref = y.ref) :
    Calls Try.prog 27 #[p, .int .i64 ((k : Int) + 1), .int .i64 j, .agg #[.bool y.ref, .int .i64 y.n]] w fun e w' => e = .returned (.int .i64 0) ∧ IsRh B w' p most (obs.set k { x with sl := x.sl.set j y }) g v ∧ Touch (footR g v obs) w w' := by
  have hk := (List.getElem?_eq_some_iff.1 hx).1
  have hj := (List.getElem?_eq_some_iff.1 hz).1
  have k0 : Kept w (w.alloc (.cells #[.bool y.ref, .int .i64 y.n] 57)) := (Below.refl _ _).alloc (Nat.le_refl _) _
  have C := ref_slot B (w.alloc (.cells #[.bool y.ref, .int .i64 y.n] 57)) p most obs g v k x j (h.kept k0) hi2 hx
  rw [if_pos ⟨by omega, by omega⟩] at C
  have hrow := h.row x (List.mem_of_getElem? hx)
  have H := Lib.hid h
  have HX := Lib.hid hx
  obtain ⟨rfl, hb, ho, -, hf, hB⟩ := h
  obtain ⟨n, hn⟩ : ∃ n, n = obs.length := ⟨_, rfl⟩
  rw [← hn] at ho hi2 hk
  obtain ⟨r, c, rfl, z0, z1, hc⟩ := ob_cell ho hn hx
  have c1 := hb.cell 1
  simp at c1
  obtain ⟨bb, c2, hs2, hc2, hd2⟩ := hrow.addr (by omega)
  have hrow' := hrow
  rw [hs2] at hrow'
  obtain ⟨hcell, hfz, hge, hlt⟩ := hrow'.cells
  have y0 : w.cell? ⟨bb, j * 2, none⟩ = some (.bool z.ref) := hcell _ _ (by have := flat_get encVal 2 encVal_len x.sl j 0 z hz (by omega); simpa [encVal] using this)
  have y1 : w.cell? ⟨bb, j * 2 + 1, none⟩ = some (.int .i64 z.n) := hcell _ _ (by have := flat_get encVal 2 encVal_len x.sl j 1 z hz (by omega); simpa [encVal] using this)
  have f0 := hfz (j * 2)
  have f1 := hfz (j * 2 + 1)
  rw [hs2] at z1
  have h1 : ¬ (k : Int) + 1 < 1 := by omega
  have h2 : ¬ (n : Int) < (k : Int) + 1 := by omega
  have hrr : r < w.heap.size := World.block_lt_of_cell? w _ z0
  have hgg := hb.lt
  have hw : IntKind.i64.wrap ((k : Int) + 1 - 1) = (k : Int) := by rw [IntWalk.i64_in _ (by omega)]; omega
  obtain ⟨b0, hb0⟩ : ∃ b0, b0 = y.ref := ⟨_, rfl⟩
  have hzb : z.ref = b0 := hr.trans hb0.symm
  have HS := Lib.hid hs2
  have HB0 := Lib.hid hb0
  have HC0 := Lib.hid (hb0 ▸ C)
  rw [hzb] at y0
  rw [← hb0] at k0 ⊢
  clear C hrow hrow' hs2 hx hz hr hcell hfz hzb hb0 hb ho hn
  cases b0
  all_goals
    go_enter Try.func27, Try.ntmps27
    go_wp2_with fail
    refine HC0.out.mono ?_
    rintro e w' ⟨rfl, m, rfl⟩
    go_wp2_with fail
    go_quiet (fail)
    go_wp2_with fail
    go_region
    all_goals go_wp2
    all_goals go_ret
    all_goals
      have F := fun n => IsRh.stored (y := y) (H.out.kept (kept_drewN k0 n)) HX.out HS.out hj
      rw [← HB0.out] at F
      refine ⟨rfl, ?_, ?_⟩
      · exact (F _).1
      · exact (Touch.of_kept (S := footR g (.slice (some ⟨r, 0, none⟩) n c) obs) (kept_drewN k0 _)).trans (F _).2 fun b hb => .inl hb

theorem ref_Put_kind (B : Nat) (w : World) (p : Value) (most : Int) (obs : List Ob) (g : Nat) (v : Value) (k j : Nat) (x : Ob) (z y : ValV) (h : IsRh B w p most obs g v) (hi2 : obs.length ≤ 1001) (hx : obs[k]? = some x) (hz : x.sl[j]? = some z) (hr : ¬ z.ref = y.ref) :
    Calls Try.prog 27 #[p, .int .i64 ((k : Int) + 1), .int .i64 j, .agg #[.bool y.ref, .int .i64 y.n]] w fun e w' => e = .returned (.int .i64 41) ∧ Kept w w' := by
  have hk := (List.getElem?_eq_some_iff.1 hx).1
  have hj := (List.getElem?_eq_some_iff.1 hz).1
  have k0 : Kept w (w.alloc (.cells #[.bool y.ref, .int .i64 y.n] 57)) := (Below.refl _ _).alloc (Nat.le_refl _) _
  have C := ref_slot B (w.alloc (.cells #[.bool y.ref, .int .i64 y.n] 57)) p most obs g v k x j (h.kept k0) hi2 hx
  rw [if_pos ⟨by omega, by omega⟩] at C
  have hrow := h.row x (List.mem_of_getElem? hx)
  obtain ⟨rfl, hb, ho, -, hf, hB⟩ := h
  obtain ⟨n, hn⟩ : ∃ n, n = obs.length := ⟨_, rfl⟩
  rw [← hn] at ho hi2 hk
  obtain ⟨r, c, rfl, z0, z1, hc⟩ := ob_cell ho hn hx
  have c1 := hb.cell 1
  simp at c1
  obtain ⟨bb, c2, hs2, hc2, hd2⟩ := hrow.addr (by omega)
  have hrow' := hrow
  rw [hs2] at hrow'
  obtain ⟨hcell, hfz, hge, hlt⟩ := hrow'.cells
  have y0 : w.cell? ⟨bb, j * 2, none⟩ = some (.bool z.ref) := hcell _ _ (by have := flat_get encVal 2 encVal_len x.sl j 0 z hz (by omega); simpa [encVal] using this)
  rw [hs2] at z1
  have h1 : ¬ (k : Int) + 1 < 1 := by omega
  have h2 : ¬ (n : Int) < (k : Int) + 1 := by omega
  have hrr : r < w.heap.size := World.block_lt_of_cell? w _ z0
  have hgg := hb.lt
  have hw : IntKind.i64.wrap ((k : Int) + 1 - 1) = (k : Int) := by rw [IntWalk.i64_in _ (by omega)]; omega
  obtain ⟨b0, hb0⟩ : ∃ b0, b0 = y.ref := ⟨_, rfl⟩
  have hzb : z.ref = !b0 := by rw [hb0]; cases h1 : z.ref <;> cases h2 : y.ref <;> simp_all
  have HC0 := Lib.hid (hb0 ▸ C)
  rw [hzb] at y0
  rw [← hb0] at k0 ⊢
  clear C hrow hrow' hs2 hx hz hr hcell hfz hzb hb0 hb ho hn
  cases b0
  all_goals
    simp only [Bool.not_true, Bool.not_false] at y0
    go_enter Try.func27, Try.ntmps27
    go_wp2_with fail
    refine HC0.out.mono ?_
    rintro e w' ⟨rfl, m, rfl⟩
    go_wp2
    go_quiet (fail)
    go_wp2
    go_ret
    exact ⟨rfl, kept_drewN (kept_drewN k0 _) _⟩
end Go.Proofs.Ytjdldgpkcfigiaa
