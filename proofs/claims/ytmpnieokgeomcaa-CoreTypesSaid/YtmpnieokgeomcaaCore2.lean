/-
  Package core by contract: Is, Own.
-/
import Derived.Test.YtmpnieokgeomcaaCore
import Derived.RangeFuncFrom
import Derived.RangeFuncBox
import Derived.Maps.AppendAt
namespace Go.Proofs.Ytmpnieokgeomcaa
open Go.RowKit Go.Shelf
set_option maxRecDepth 100000
attribute [local go_sem] Oper.semAt_some

theorem str_neq {a b : ByteArray} (h : a ≠ b) : (a.toList == b.toList) = false := by
  rw [beq_eq_false_iff_ne]
  intro e
  rw [ByteArray.toList_eq, ByteArray.toList_eq] at e
  exact h (ByteArray.ext (Array.toList_inj.1 e))

theorem cell_new_l (W : World) (v : Value) (t : TypeId) : (W.alloc (.cells #[v] t)).cell? ⟨W.heap.size, 0, none⟩ = some v ∧ (W.alloc (.cells #[v] t)).frozen? ⟨W.heap.size, 0, none⟩ = false :=
  ⟨by rw [cell_of_row _ _ 0 #[v] t (0, 0) (heap_alloc_new W _)]; rfl, frozen_of_row _ _ 0 #[v] t (heap_alloc_new W _)⟩
theorem cell_alloc_l {W : World} {a : Addr} {v : Value} (o : Obj) (h : W.cell? a = some v) : (W.alloc o).cell? a = some v := cell_kept h (World.grownBy_alloc W o none) (fun r e => by cases e)
theorem frozen_alloc_l {W : World} {a : Addr} {v : Value} (o : Obj) (h : W.cell? a = some v) (hf : W.frozen? a = false) : (W.alloc o).frozen? a = false := (frozen_kept h (World.grownBy_alloc W o none) (fun r e => by cases e)).trans hf

/-- Is a text one of the names? -/
def isNm (s : ByteArray) : Bool := names26.any fun x => decide (x = s)
theorem isNm_no {s : ByteArray} (h : ∀ y ∈ names26, y ≠ s) : isNm s = false := by
  unfold isNm
  rw [List.any_eq_false]
  intro x hx
  simpa using h x hx
theorem isNm_yes {s : ByteArray} (h : s ∈ names26) : isNm s = true := by
  unfold isNm
  rw [List.any_eq_true]
  exact ⟨s, h, by simp⟩

theorem core_names (w : World) : Calls Try.prog 13 #[] w fun e w' => e = .returned (.func (.func 18) #[] #[]) ∧ w = w' := by
  go_enter Try.func13, Try.ntmps13
  go_wp2
  go_ret
  exact ⟨rfl, rfl⟩

set_option maxHeartbeats 1000000 in
theorem core_Is_in (n : Nat) (hn : 4 ≤ n) (s : ByteArray) (w : World) :
    CallsIn Fence.wide n Try.prog 6 #[.string s] w fun e W' => e = .returned (.bool (isNm s)) ∧ Below w.heap.size w W' := by
  have h1 : 1 ≤ n := by omega
  refine callsIn_of_wp_marks Try.func6 rfl trivial ?_ rfl
  simp only [Try.ntmps6, List.size_toArray, List.length_cons, List.length_nil, Nat.reduceAdd, Nat.reduceSub, Array.replicate_succ, Array.replicate_zero, List.push_toArray, List.append_toArray, List.nil_append, List.cons_append]
  gi_wp2_with (refine ⟨trivial, ?_⟩; gi_at_call 13; refine (callsIn_wide.2 (core_names _)).mono ?_; rintro e w1 ⟨rfl, rfl⟩)
  have c0 := cell_new_l w (.string s) 9
  have c1 := cell_new_l (w.alloc (.cells #[.string s] 9)) (.bool false) 4
  simp only [World.size_alloc] at c1
  have hB0 : Below w.heap.size w ((w.alloc (.cells #[.string s] 9)).alloc (.cells #[.bool false] 4)) := ((Below.refl _ w).alloc (Nat.le_refl _) _).alloc (by simp) _
  refine wpIn_rangeFunc_ownF rfl h1 (gf := 18) (lb := #[]) rfl trivial (enters_of Try.func18 (by kernel_rfl) rfl)
    (names_stops (n - 1) (by omega) _ : SeqStopsK _ _ _ _ _ (fun s : ByteArray => #[Value.string s]) KeepsWalks _ _ _ _) walksK_t walksK_b (Below.refl _ _) (fun _ => rfl)
    (fun pre W => ((∀ y ∈ pre, y ≠ s) ∧ W.cell? ⟨w.heap.size, 0, none⟩ = some (.string s) ∧ W.cell? ⟨w.heap.size + 1, 0, none⟩ = some (.bool false) ∧ W.frozen? ⟨w.heap.size + 1, 0, none⟩ = false) ∧ Below w.heap.size w W)
    (fun c pre W => (c = .ret ∧ s ∈ pre ∧ W.cell? ⟨w.heap.size + 1, 0, none⟩ = some (.bool true)) ∧ Below w.heap.size w W)
    (OwnFrom.and (Own.from (fun s A B row hs hg hr => ⟨hs.1, cell_kept hs.2.1 hg hr, cell_kept hs.2.2.1 hg hr, (frozen_kept hs.2.2.1 hg hr).trans hs.2.2.2⟩) _) (ownFrom_below (Nat.le_refl _) (by simp; omega)))
    (fun c => OwnFrom.and (Own.from (fun s A B row hs hg hr => ⟨hs.1, hs.2.1, cell_kept hs.2.2 hg hr⟩) _) (ownFrom_below (Nat.le_refl _) (by simp; omega)))
    ⟨⟨by simp, cell_alloc_l _ c0.1, c1.1, c1.2⟩, hB0⟩
    (fun x => { tmps := #[.string s, .pointer (some ⟨w.heap.size, 0, none⟩), .pointer (some ⟨w.heap.size + 1, 0, none⟩), .string x, .func (.func 18) #[] #[], .string x, undef, undef, undef], defers := [] }) ?assign ?body ?done ?stop
  case assign =>
    intro l x W K hK
    gi_wp2
    exact hK
  case body =>
    rintro l pre x W ⟨⟨hp, hcw, hcr, hfr⟩, hB⟩ _
    by_cases hx : x = s
    · subst hx
      gi_wp2
      exact ⟨KeepsOthers.setCell _ _ _, ⟨rfl, List.mem_append.2 (.inr (by simp)), World.cell?_setCell_same' _ _ _ (by rw [hcr]; rfl)⟩, hB.setCell (p := ⟨w.heap.size + 1, 0, none⟩) (by simp) _⟩
    · have hb := str_neq hx
      have HX := Lib.hid hx
      clear hx
      gi_wp2
      exact ⟨KeepsOthers.refl _, (KeepsOthers.refl _).walks, ⟨fun y hy => (List.mem_append.1 hy).elim (hp y) (fun e => by simp at e; subst e; exact HX.out), hcw, hcr, hfr⟩, hB⟩
  case done =>
    rintro D ys W hD rfl ⟨⟨hne, _, hcr, hfr⟩, hB⟩ hK
    gi_wp2
    have hK' := (KeepsOthers.setCell W ⟨w.heap.size + 1, 0, none⟩ (.bool false)).same D _ hK rfl
    refine ⟨by simp, .inl ⟨_, _, rfl, run_takeDeferred hK', ?_⟩⟩
    have hc5 := cell_kept (World.cell?_setCell_same' W ⟨w.heap.size + 1, 0, none⟩ (.bool false) (by rw [hcr]; rfl)) (grownBy_putObj' _ D (.deferred none)) (fun r e => by cases e; exact ⟨_, hK', rfl⟩)
    refine ⟨.bool false, ?_, by rw [isNm_no hne], (hB.setCell (p := ⟨w.heap.size + 1, 0, none⟩) (by simp) _).trans (belowK_b (w := w) (Nat.le_refl _) _ D _ _ (by simp at hD; omega) hK' rfl rfl)⟩
    simp [results, Try.f6, go_sem, hc5]
  case stop =>
    rintro D c pre W hD hpre ⟨⟨rfl, hin, hcr⟩, hB⟩ hK
    gi_wp2
    refine ⟨by simp, .inl ⟨_, _, rfl, run_takeDeferred hK, ?_⟩⟩
    have hc5 := cell_kept hcr (grownBy_putObj' _ D (.deferred none)) (fun r e => by cases e; exact ⟨_, hK, rfl⟩)
    refine ⟨.bool true, ?_, by rw [isNm_yes (hpre.subset hin)], hB.trans (belowK_b (w := w) (Nat.le_refl _) W D _ _ (by simp at hD; omega) hK rfl rfl)⟩
    simp [results, Try.f6, go_sem, hc5]

theorem core_Is (s : ByteArray) (w : World) : Calls Try.prog 6 #[.string s] w fun e w' => e = .returned (.bool (isNm s)) ∧ Kept w w' :=
  callsIn_wide.1 (core_Is_in 4 (by omega) s w)
end Go.Proofs.Ytmpnieokgeomcaa
