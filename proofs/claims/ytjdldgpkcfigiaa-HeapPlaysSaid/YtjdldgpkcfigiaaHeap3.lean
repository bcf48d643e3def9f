/-
  Package heap by contract: Class, slot, Get, Put.
-/
import Derived.Test.YtjdldgpkcfigiaaHeap2
namespace Go.Proofs.Ytjdldgpkcfigiaa
open Go.RowKit
set_option maxRecDepth 100000

theorem heap_Class_no (B : Nat) (w : World) (p : Value) (most : Int) (its : List It) (g r : Nat) (v : Value) (t : Int) (h : IsHp B w p most its g r v) (hi2 : its.length ≤ 1001) (ht : ¬ (1 ≤ t ∧ t ≤ its.length)) :
    Calls Try.prog 21 #[p, .int .i64 t] w fun e w' => e = .returned (.string ⟨#[]⟩) ∧ ∃ m, w' = w.drewN m := by
  obtain ⟨rfl, hb, hr, ho, hj, hB⟩ := h
  obtain ⟨a1, c1, rfl, hlc, hcc⟩ := own_slice ho
  have x1 := hb.cell 1
  simp at x1
  have C := row_at_no w r _ its.length t hr ⟨a1, c1, rfl⟩ ht
  clear hb hr ho hj ht
  go_enter Try.func21, Try.ntmps21
  go_wp2_with fail
  refine C.mono ?_
  rintro e w' ⟨rfl, rfl⟩
  go_wp2
  go_ret
  exact ⟨rfl, 0, rfl⟩

theorem heap_Class (B : Nat) (w : World) (p : Value) (most : Int) (its : List It) (g r : Nat) (v : Value) (k : Nat) (x : It) (h : IsHp B w p most its g r v) (hi2 : its.length ≤ 1001) (hx : its[k]? = some x) :
    Calls Try.prog 21 #[p, .int .i64 ((k : Int) + 1)] w fun e w' => e = .returned (.string x.cls) ∧ ∃ m, w' = w.drewN m := by
  obtain ⟨rfl, hb, hr, ho, hj, hB⟩ := h
  have x1 := hb.cell 1
  simp at x1
  have C := row_at B w r _ its k x hr ho hx (by omega)
  have o0 := (hj.blk x (List.mem_of_getElem? hx)).1.cell 0
  simp at o0
  clear hb hr ho hj hx
  go_enter Try.func21, Try.ntmps21
  go_wp2_with fail
  refine C.mono ?_
  rintro e w' ⟨rfl, m, rfl⟩
  go_wp2
  go_ret
  exact ⟨rfl, _, rfl⟩

theorem heap_slot_no (B : Nat) (w : World) (p : Value) (most : Int) (its : List It) (g r : Nat) (v : Value) (t u : Int) (h : IsHp B w p most its g r v) (hi2 : its.length ≤ 1001) (ht : ¬ (1 ≤ t ∧ t ≤ its.length)) :
    Calls Try.prog 30 #[p, .int .i64 t, .int .i64 u] w fun e w' => e = .returned (.tuple #[.pointer none, .int .i64 40]) ∧ ∃ m, w' = w.drewN m := by
  obtain ⟨rfl, hb, hr, ho, hj, hB⟩ := h
  obtain ⟨a1, c1, rfl, hlc, hcc⟩ := own_slice ho
  have x1 := hb.cell 1
  simp at x1
  have C := row_at_no w r _ its.length t hr ⟨a1, c1, rfl⟩ ht
  clear hb hr ho hj ht
  go_enter Try.func30, Try.ntmps30
  go_wp2_with fail
  refine C.mono ?_
  rintro e w' ⟨rfl, rfl⟩
  go_wp2
  go_ret2
  exact ⟨rfl, 0, rfl⟩

theorem heap_slot_out (B : Nat) (w : World) (p : Value) (most : Int) (its : List It) (g r : Nat) (v : Value) (k : Nat) (x : It) (u : Int) (h : IsHp B w p most its g r v) (hi2 : its.length ≤ 1001) (hx : its[k]? = some x) (hu : ¬ (0 ≤ u ∧ u < x.sl.length)) :
    Calls Try.prog 30 #[p, .int .i64 ((k : Int) + 1), .int .i64 u] w fun e w' => e = .returned (.tuple #[.pointer none, .int .i64 1]) ∧ ∃ m, w' = w.drewN m := by
  obtain ⟨rfl, hb, hr, ho, hj, hB⟩ := h
  have x1 := hb.cell 1
  simp at x1
  have C := row_at B w r _ its k x hr ho hx (by omega)
  have o1 := (hj.blk x (List.mem_of_getElem? hx)).1.cell 1
  obtain ⟨a2, c2, hs2, hc2, hd2⟩ := (hj.row x (List.mem_of_getElem? hx)).form
  simp [hs2] at o1
  have HC := Lib.hid C
  clear hb hr ho hj hx C hs2
  rcases (by omega : u < 0 ∨ (0 ≤ u ∧ (x.sl.length : Int) ≤ u)) with h1 | ⟨h0, h1⟩
  all_goals
    clear hu
    go_enter Try.func30, Try.ntmps30
    go_wp2_with fail
    refine HC.out.mono ?_
    rintro e w' ⟨rfl, m, rfl⟩
    go_wp2
    go_ret2
    exact ⟨rfl, _, rfl⟩

theorem heap_slot (B : Nat) (w : World) (p : Value) (most : Int) (its : List It) (g r : Nat) (v : Value) (k : Nat) (x : It) (u : Int) (h : IsHp B w p most its g r v) (hi2 : its.length ≤ 1001) (hx : its[k]? = some x) (hu : 0 ≤ u ∧ u < x.sl.length) :
    Calls Try.prog 30 #[p, .int .i64 ((k : Int) + 1), .int .i64 u] w fun e w' => e = .returned (.tuple #[.pointer (some ⟨x.b, 0, none⟩), .int .i64 0]) ∧ ∃ m, w' = w.drewN m := by
  obtain ⟨rfl, hb, hr, ho, hj, hB⟩ := h
  have x1 := hb.cell 1
  simp at x1
  have C := row_at B w r _ its k x hr ho hx (by omega)
  have o1 := (hj.blk x (List.mem_of_getElem? hx)).1.cell 1
  obtain ⟨a2, c2, hs2, hc2, hd2⟩ := (hj.row x (List.mem_of_getElem? hx)).form
  simp [hs2] at o1
  have HC := Lib.hid C
  obtain ⟨h0, h1⟩ := hu
  clear hb hr ho hj hx C hs2
  go_enter Try.func30, Try.ntmps30
  go_wp2_with fail
  refine HC.out.mono ?_
  rintro e w' ⟨rfl, m, rfl⟩
  go_wp2
  go_ret2
  exact ⟨rfl, _, rfl⟩

/-- The error of a slot. -/
def slotE (its : List It) (t u : Int) : Int := if 1 ≤ t ∧ t ≤ its.length then (if 0 ≤ u ∧ u < ((its[(t - 1).toNat]?.map (·.sl)).getD []).length then 0 else 1) else 40
def slotV (its : List It) (t u : Int) : ValV := if slotE its t u = 0 then (((its[(t - 1).toNat]?.map (·.sl)).getD [])[u.toNat]?.getD zeroV) else zeroV

theorem heap_Get (B : Nat) (w : World) (p : Value) (most : Int) (its : List It) (g r : Nat) (v : Value) (t u : Int) (h : IsHp B w p most its g r v) (hi2 : its.length ≤ 1001) :
    Calls Try.prog 23 #[p, .int .i64 t, .int .i64 u] w fun e w' => e = .returned (.tuple #[.agg #[.bool (slotV its t u).ref, .int .i64 (slotV its t u).n], .int .i64 (slotE its t u)]) ∧ Kept w w' := by
  have hp := h.ptr
  subst hp
  by_cases ht : 1 ≤ t ∧ t ≤ its.length
  · obtain ⟨k, rfl⟩ : ∃ k : Nat, t = (k : Int) + 1 := ⟨(t - 1).toNat, by omega⟩
    obtain ⟨x, hx⟩ : ∃ x, its[k]? = some x := ⟨_, List.getElem?_eq_getElem (show k < its.length by omega)⟩
    have hk1 : ((k : Int) + 1 - 1).toNat = k := by omega
    by_cases hu : 0 ≤ u ∧ u < x.sl.length
    · have he : slotE its ((k : Int) + 1) u = 0 := by simp only [slotE, if_pos ht, hk1, hx, Option.map_some, Option.getD_some, if_pos hu]
      obtain ⟨j, rfl⟩ : ∃ j : Nat, u = j := ⟨u.toNat, by omega⟩
      obtain ⟨y, hy⟩ : ∃ y, x.sl[j]? = some y := ⟨_, List.getElem?_eq_getElem (show j < x.sl.length by omega)⟩
      have hv : slotV its ((k : Int) + 1) j = y := by simp only [slotV, if_pos he, hk1, hx, Option.map_some, Option.getD_some, Int.toNat_natCast, hy]
      rw [he, hv]
      have C := heap_slot B (w.alloc (.cells #[.bool false, .int .i64 0] 57)) _ most its g r v k x j (h.kept ((Below.refl _ _).alloc (Nat.le_refl _) _)) hi2 hx hu
      have HC := Lib.hid C
      have hm := List.mem_of_getElem? hx
      have o1 := (h.objs.blk x hm).1.cell 1
      have rw_ := (h.objs.row x hm).rd
      obtain ⟨bb, off, c2, hs2, hd2, z0, z1⟩ := val_rd rfl rw_ hy
      simp [hs2] at o1
      have hjl : j < x.sl.length := by omega
      have hbx : x.b < w.heap.size := (h.objs.blk x hm).1.lt
      have hbb : bb < w.heap.size := World.block_lt_of_cell? w _ z0
      clear C h rw_ hs2 hx hy he hv ht hu hm
      go_enter Try.func23, Try.ntmps23
      go_wp2_with fail
      refine HC.out.mono ?_
      rintro e w' ⟨rfl, m, rfl⟩
      go_wp2
      go_returns
      exact ⟨rfl, by exact ((kept_drewN ((Below.refl _ _).alloc (Nat.le_refl _) _) _).setCell (p := ⟨w.heap.size, 0, none⟩) (Nat.le_refl _) _).setCell (p := ⟨w.heap.size, 1, none⟩) (Nat.le_refl _) _⟩
    · have he : slotE its ((k : Int) + 1) u = 1 := by simp only [slotE, if_pos ht, hk1, hx, Option.map_some, Option.getD_some, if_neg hu]
      have hv : slotV its ((k : Int) + 1) u = zeroV := by simp [slotV, he]
      rw [he, hv]
      have C := heap_slot_out B (w.alloc (.cells #[.bool false, .int .i64 0] 57)) _ most its g r v k x u (h.kept ((Below.refl _ _).alloc (Nat.le_refl _) _)) hi2 hx hu
      have HC := Lib.hid C
      clear C h hx he hv ht hu
      go_enter Try.func23, Try.ntmps23
      go_wp2_with fail
      refine HC.out.mono ?_
      rintro e w' ⟨rfl, m, rfl⟩
      go_wp2
      go_returns
      exact ⟨rfl, by exact ((kept_drewN ((Below.refl _ _).alloc (Nat.le_refl _) _) _).setCell (p := ⟨w.heap.size, 0, none⟩) (Nat.le_refl _) _).setCell (p := ⟨w.heap.size, 1, none⟩) (Nat.le_refl _) _⟩
  · have he : slotE its t u = 40 := by simp only [slotE, if_neg ht]
    have hv : slotV its t u = zeroV := by simp [slotV, he]
    rw [he, hv]
    have C := heap_slot_no B (w.alloc (.cells #[.bool false, .int .i64 0] 57)) _ most its g r v t u (h.kept ((Below.refl _ _).alloc (Nat.le_refl _) _)) hi2 ht
    have HC := Lib.hid C
    clear C h he hv ht
    go_enter Try.func23, Try.ntmps23
    go_wp2_with fail
    refine HC.out.mono ?_
    rintro e w' ⟨rfl, m, rfl⟩
    go_wp2
    go_returns
    exact ⟨rfl, by exact ((kept_drewN ((Below.refl _ _).alloc (Nat.le_refl _) _) _).setCell (p := ⟨w.heap.size, 0, none⟩) (Nat.le_refl _) _).setCell (p := ⟨w.heap.size, 1, none⟩) (Nat.le_refl _) _⟩

/-- What Put answers; the objects behind it. -/
def putE (its : List It) (t u : Int) (y : ValV) : Int := if slotE its t u = 0 then (if (slotV its t u).ref = y.ref then 0 else 41) else slotE its t u
def putI (its : List It) (t u : Int) (y : ValV) : List It := if putE its t u y = 0 then (its[(t - 1).toNat]?.map fun x => its.set (t - 1).toNat { x with sl := x.sl.set u.toNat y }).getD its else its

theorem Far.symm_ {x y : It} (h : Far x y) : Far y x := ⟨fun e => h.1 e.symm, fun k a b => h.2 k b a⟩
theorem far_at {its : List It} (h : its.Pairwise Far) {i k : Nat} {x y : It} (hi : its[i]? = some y) (hk : its[k]? = some x) (hne : i ≠ k) : Far y x := by
  obtain ⟨h1, rfl⟩ := List.getElem?_eq_some_iff.1 hi
  obtain ⟨h2, rfl⟩ := List.getElem?_eq_some_iff.1 hk
  rcases Nat.lt_or_ge i k with h3 | h3
  · exact List.pairwise_iff_getElem.1 h i k h1 h2 h3
  · exact (List.pairwise_iff_getElem.1 h k i h2 h1 (by omega)).symm_
theorem far_set {its : List It} (h : its.Pairwise Far) {k : Nat} {x x' : It} (hk : its[k]? = some x) (hb : x'.b = x.b) (hs : x'.s = x.s) : (its.set k x').Pairwise Far := by
  have e : (its.set k x').map (fun y => (y.b, y.s)) = its.map (fun y => (y.b, y.s)) := by
    rw [List.map_set]
    apply List.ext_getElem?
    intro i
    rw [List.getElem?_set]
    split
    · rename_i hi
      subst hi
      have hlt := (List.getElem?_eq_some_iff.1 hk).1
      rw [if_pos (by simpa using hlt), List.getElem?_map, hk]
      simp [hb, hs]
    · rfl
  have h2 : (its.map (fun y => (y.b, y.s))).Pairwise (fun a b : Nat × Value => a.1 ≠ b.1 ∧ ∀ k, a.2.ownBlock = some k → b.2.ownBlock = some k → False) := List.pairwise_map.2 h
  rw [← e] at h2
  exact (List.pairwise_map (f := fun y : It => (y.b, y.s))).1 h2

/-- Behind a store into a slot: the heap. -/
theorem IsHp.stored {B : Nat} {w : World} {p : Value} {most : Int} {its : List It} {g r : Nat} {v : Value} {k j bb c : Nat} {x : It} {y : ValV} (h : IsHp B w p most its g r v) (hx : its[k]? = some x) (hs : x.s = .slice (some ⟨bb, 0, none⟩) x.sl.length c) (hj : j < x.sl.length) :
    IsHp B ((w.setCell ⟨bb, j * 2, none⟩ (.bool y.ref)).setCell ⟨bb, j * 2 + 1, none⟩ (.int .i64 y.n)) p most (its.set k { x with sl := x.sl.set j y }) g r v ∧ Touch (footH g r v its) w ((w.setCell ⟨bb, j * 2, none⟩ (.bool y.ref)).setCell ⟨bb, j * 2 + 1, none⟩ (.int .i64 y.n)) := by
  have hm := List.mem_of_getElem? hx
  have ht : Touch (fun b => b = bb) w ((w.setCell ⟨bb, j * 2, none⟩ (.bool y.ref)).setCell ⟨bb, j * 2 + 1, none⟩ (.int .i64 y.n)) := ((Touch.refl (fun b => b = bb) w).setCell (p := ⟨bb, j * 2, none⟩) (.inl rfl) _).setCell (p := ⟨bb, j * 2 + 1, none⟩) (.inl rfl) _
  have hrow := h.objs.row x hm
  have hown : x.s.ownBlock = some bb := by rw [hs]; rfl
  have tb := hrow.ty bb hown
  have hlt := (List.getElem?_eq_some_iff.1 hx).1
  have hat : ∀ z ∈ its.set k { x with sl := x.sl.set j y }, z = { x with sl := x.sl.set j y } ∨ ∃ i, i ≠ k ∧ its[i]? = some z := by
    intro z hz
    obtain ⟨i, hi⟩ := List.getElem?_of_mem hz
    rw [List.getElem?_set] at hi
    by_cases e : k = i
    · rw [if_pos e, if_pos (by omega)] at hi
      exact .inl (by simpa using hi.symm)
    · rw [if_neg e] at hi
      exact .inr ⟨i, fun h => e h.symm, hi⟩
  refine ⟨⟨h.ptr, h.blk.touch ht (TyAt.ne h.blk.ty tb (by decide)), h.row.touch ht (TyAt.ne h.row.ty tb (by decide)), ?_, ⟨?_, ?_, far_set h.objs.far hx rfl rfl⟩, h.ge⟩, ht.mono fun b hb => .inr (.inr (.inr ⟨x, hm, .inr (by rw [hb]; exact hown)⟩))⟩
  · have e : (its.set k { x with sl := x.sl.set j y }).map (fun x => Value.pointer (some ⟨x.b, 0, none⟩)) = its.map (fun x => Value.pointer (some ⟨x.b, 0, none⟩)) := by
      rw [List.map_set]
      apply List.ext_getElem?
      intro i
      rw [List.getElem?_set]
      split
      · rename_i hi
        subst hi
        rw [if_pos (by simpa using hlt), List.getElem?_map, hx]
        rfl
      · rfl
    rw [e, List.length_set]
    exact ht.own h.own fun k hk => TyAt.ne (own_ty h.own k hk) tb (by decide)
  · intro z hz
    rcases hat z hz with rfl | ⟨i, hik, hi⟩
    · exact ⟨(h.objs.blk x hm).1.touch ht (TyAt.ne (h.objs.blk x hm).1.ty tb (by decide)), (h.objs.blk x hm).2⟩
    · have hm' := List.mem_of_getElem? hi
      exact ⟨(h.objs.blk z hm').1.touch ht (TyAt.ne (h.objs.blk z hm').1.ty tb (by decide)), (h.objs.blk z hm').2⟩
  · intro z hz
    rcases hat z hz with rfl | ⟨i, hik, hi⟩
    · show Row _ _ _ _ x.s (x.sl.set j y).length _
      rw [List.length_set, hs]
      rw [hs] at hrow
      have := (hrow.store (j * 2) (.bool y.ref)).store (j * 2 + 1) (.int .i64 y.n)
      rw [vals_set _ _ _ hj] at this
      exact this
    · exact (h.objs.row z (List.mem_of_getElem? hi)).touch ht fun b hb e => (far_at h.objs.far hi hx hik).2 b hb (by rw [e]; exact hown)

theorem heap_Put (B : Nat) (w : World) (p : Value) (most : Int) (its : List It) (g r : Nat) (v : Value) (t u : Int) (y : ValV) (h : IsHp B w p most its g r v) (hi2 : its.length ≤ 1001) :
    Calls Try.prog 26 #[p, .int .i64 t, .int .i64 u, .agg #[.bool y.ref, .int .i64 y.n]] w fun e w' => e = .returned (.int .i64 (putE its t u y)) ∧ IsHp B w' p most (putI its t u y) g r v ∧ Touch (footH g r v its) w w' := by
  have hp := h.ptr
  subst hp
  have k0 : Kept w (w.alloc (.cells #[.bool y.ref, .int .i64 y.n] 57)) := (Below.refl _ _).alloc (Nat.le_refl _) _
  by_cases ht : 1 ≤ t ∧ t ≤ its.length
  · obtain ⟨k, rfl⟩ : ∃ k : Nat, t = (k : Int) + 1 := ⟨(t - 1).toNat, by omega⟩
    obtain ⟨x, hx⟩ : ∃ x, its[k]? = some x := ⟨_, List.getElem?_eq_getElem (show k < its.length by omega)⟩
    have hk1 : ((k : Int) + 1 - 1).toNat = k := by omega
    by_cases hu : 0 ≤ u ∧ u < x.sl.length
    · have he : slotE its ((k : Int) + 1) u = 0 := by simp only [slotE, if_pos ht, hk1, hx, Option.map_some, Option.getD_some, if_pos hu]
      obtain ⟨j, rfl⟩ : ∃ j : Nat, u = j := ⟨u.toNat, by omega⟩
      obtain ⟨z, hz⟩ : ∃ z, x.sl[j]? = some z := ⟨_, List.getElem?_eq_getElem (show j < x.sl.length by omega)⟩
      have hv : slotV its ((k : Int) + 1) j = z := by simp only [slotV, if_pos he, hk1, hx, Option.map_some, Option.getD_some, Int.toNat_natCast, hz]
      have C := heap_slot B (w.alloc (.cells #[.bool y.ref, .int .i64 y.n] 57)) _ most its g r v k x j (h.kept k0) hi2 hx hu
      have HC := Lib.hid C
      have hm := List.mem_of_getElem? hx
      have o1 := (h.objs.blk x hm).1.cell 1
      have hrow := h.objs.row x hm
      obtain ⟨bb, c2, hs2, hc2, hd2⟩ := hrow.addr (by omega)
      have hrow' := hrow
      rw [hs2] at hrow'
      obtain ⟨hcell, hfz, hge, hlt⟩ := hrow'.cells
      have z0 : w.cell? ⟨bb, j * 2, none⟩ = some (.bool z.ref) := hcell _ _ (by have := flat_get encVal 2 encVal_len x.sl j 0 z hz (by omega); simpa [encVal] using this)
      have z1 : w.cell? ⟨bb, j * 2 + 1, none⟩ = some (.int .i64 z.n) := hcell _ _ (by have := flat_get encVal 2 encVal_len x.sl j 1 z hz (by omega); simpa [encVal] using this)
      have f0 := hfz (j * 2)
      have f1 := hfz (j * 2 + 1)
      simp [hs2] at o1
      have hjl : j < x.sl.length := by omega
      have hbx : x.b < w.heap.size := (h.objs.blk x hm).1.lt
      obtain ⟨b0, hb0⟩ : ∃ b0, b0 = y.ref := ⟨_, rfl⟩
      by_cases hr : z.ref = y.ref
      · have hpe : putE its ((k : Int) + 1) j y = 0 := by simp only [putE, if_pos he, hv, if_pos hr]
        have hzb : z.ref = b0 := hr.trans hb0.symm
        have PE := Lib.hid hpe
        have H := Lib.hid h
        have HX := Lib.hid hx
        have HR := Lib.hid hrow'
        have HS := Lib.hid hs2
        have HB0 := Lib.hid hb0
        have HC0 := Lib.hid (hb0 ▸ HC.out)
        rw [hzb] at z0
        rw [← hb0] at k0 ⊢
        clear C h hrow hrow' hs2 hx hz he hv ht hu hm hcell hfz hpe hr hzb hb0 HC
        cases b0
        all_goals
          go_enter Try.func26, Try.ntmps26
          go_wp2_with fail
          refine HC0.out.mono ?_
          rintro e w' ⟨rfl, m, rfl⟩
          go_wp2_with fail
          go_quiet (fail)
          go_wp2_with fail
          go_region
          all_goals go_wp2
          all_goals go_ret
          all_goals
            have hpi : putI its ((k : Int) + 1) j y = its.set k { x with sl := x.sl.set j y } := by simp only [putI, if_pos PE.out, hk1, HX.out, Option.map_some, Option.getD_some, Int.toNat_natCast]
            have F := fun n => IsHp.stored (y := y) (H.out.kept (kept_drewN k0 n)) HX.out HS.out hjl
            rw [← HB0.out] at F
            refine ⟨ret_int PE.out.symm, ?_, ?_⟩
            · rw [hpi]
              exact (F _).1
            · exact (Touch.of_kept (S := footH g r v its) (kept_drewN k0 _)).trans (F _).2 fun b hb => .inl hb
      · have hpe : putE its ((k : Int) + 1) j y = 41 := by simp only [putE, if_pos he, hv, if_neg hr]
        have hpi : putI its ((k : Int) + 1) j y = its := by simp [putI, hpe]
        have hzb : z.ref = !b0 := by rw [hb0]; cases h1 : z.ref <;> cases h2 : y.ref <;> simp_all
        rw [hpe, hpi]
        have H := Lib.hid h
        have HC0 := Lib.hid (hb0 ▸ HC.out)
        rw [hzb] at z0
        rw [← hb0] at k0 ⊢
        clear C h hrow hrow' hs2 hx hz he hv ht hu hm hcell hfz hpe hpi hr hzb hb0 HC
        cases b0
        all_goals
          simp only [Bool.not_true, Bool.not_false] at z0
          go_enter Try.func26, Try.ntmps26
          go_wp2_with fail
          refine HC0.out.mono ?_
          rintro e w' ⟨rfl, m, rfl⟩
          go_wp2
          go_quiet (fail)
          go_wp2
          go_ret
          exact ⟨rfl, H.out.kept (kept_drewN (kept_drewN k0 _) _), Touch.of_kept (kept_drewN (kept_drewN k0 _) _)⟩
    · have he : slotE its ((k : Int) + 1) u = 1 := by simp only [slotE, if_pos ht, hk1, hx, Option.map_some, Option.getD_some, if_neg hu]
      have hpe : putE its ((k : Int) + 1) u y = 1 := by simp [putE, he]
      have hpi : putI its ((k : Int) + 1) u y = its := by simp [putI, hpe]
      rw [hpe, hpi]
      have C := heap_slot_out B (w.alloc (.cells #[.bool y.ref, .int .i64 y.n] 57)) _ most its g r v k x u (h.kept k0) hi2 hx hu
      have HC := Lib.hid C
      have H := Lib.hid h
      clear C h hx he ht hu hpe hpi
      go_enter Try.func26, Try.ntmps26
      go_wp2_with fail
      refine HC.out.mono ?_
      rintro e w' ⟨rfl, m, rfl⟩
      go_wp2
      go_ret
      exact ⟨rfl, H.out.kept (kept_drewN k0 m), Touch.of_kept (kept_drewN k0 m)⟩
  · have he : slotE its t u = 40 := by simp only [slotE, if_neg ht]
    have hpe : putE its t u y = 40 := by simp [putE, he]
    have hpi : putI its t u y = its := by simp [putI, hpe]
    rw [hpe, hpi]
    have C := heap_slot_no B (w.alloc (.cells #[.bool y.ref, .int .i64 y.n] 57)) _ most its g r v t u (h.kept k0) hi2 ht
    have HC := Lib.hid C
    have H := Lib.hid h
    clear C h he ht hpe hpi
    go_enter Try.func26, Try.ntmps26
    go_wp2_with fail
    refine HC.out.mono ?_
    rintro e w' ⟨rfl, m, rfl⟩
    go_wp2
    go_ret
    exact ⟨rfl, H.out.kept (kept_drewN k0 m), Touch.of_kept (kept_drewN k0 m)⟩
end Go.Proofs.Ytjdldgpkcfigiaa
