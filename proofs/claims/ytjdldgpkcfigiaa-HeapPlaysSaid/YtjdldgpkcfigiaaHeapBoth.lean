/-
  Package heap and the document's heap hold the same: what both answer.
-/
import Derived.Test.YtjdldgpkcfigiaaHeapRef3
namespace Go.Proofs.Ytjdldgpkcfigiaa
open Go.RowKit
set_option maxRecDepth 100000

/-- Both heaps hold the same classes and slots. -/
def Same (its : List It) (obs : List Ob) : Prop := its.map (fun x => (x.cls, x.sl)) = obs.map (fun x => (x.cls, x.sl))

theorem Same.len {its : List It} {obs : List Ob} (h : Same its obs) : its.length = obs.length := by
  have := congrArg List.length h
  simpa using this
theorem Same.get {its : List It} {obs : List Ob} (h : Same its obs) {k : Nat} {x : It} (hx : its[k]? = some x) : ∃ y, obs[k]? = some y ∧ y.cls = x.cls ∧ y.sl = x.sl := by
  have := congrArg (fun l => l[k]?) h
  simp only [List.getElem?_map, hx, Option.map_some] at this
  obtain ⟨y, hy⟩ : ∃ y, obs[k]? = some y := ⟨_, List.getElem?_eq_getElem (by have := h.len; have := (List.getElem?_eq_some_iff.1 hx).1; omega)⟩
  rw [hy] at this
  simp only [Option.map_some, Option.some.injEq, Prod.mk.injEq] at this
  exact ⟨y, hy, this.1.symm, this.2.symm⟩
theorem Same.snoc {its : List It} {obs : List Ob} (h : Same its obs) {x : It} {y : Ob} (hc : x.cls = y.cls) (hs : x.sl = y.sl) : Same (its ++ [x]) (obs ++ [y]) := by
  unfold Same at h ⊢
  rw [List.map_append, List.map_append, h]
  simp [hc, hs]
theorem Same.set {its : List It} {obs : List Ob} (h : Same its obs) {k : Nat} {x : It} {y : Ob} (hc : x.cls = y.cls) (hs : x.sl = y.sl) : Same (its.set k x) (obs.set k y) := by
  unfold Same at h ⊢
  rw [List.map_set, List.map_set, h, hc, hs]

/-- The class of a number. -/
def clsAt (its : List It) (t : Int) : ByteArray := if 1 ≤ t ∧ t ≤ its.length then ((its[(t - 1).toNat]?.map (·.cls)).getD ⟨#[]⟩) else ⟨#[]⟩

theorem heap_Class_all (B : Nat) (w : World) (p : Value) (most : Int) (its : List It) (g r : Nat) (v : Value) (t : Int) (h : IsHp B w p most its g r v) (hi2 : its.length ≤ 1001) :
    Calls Try.prog 21 #[p, .int .i64 t] w fun e w' => e = .returned (.string (clsAt its t)) ∧ ∃ m, w' = w.drewN m := by
  unfold clsAt
  by_cases ht : 1 ≤ t ∧ t ≤ its.length
  · rw [if_pos ht]
    obtain ⟨k, rfl⟩ : ∃ k : Nat, t = (k : Int) + 1 := ⟨(t - 1).toNat, by omega⟩
    obtain ⟨x, hx⟩ : ∃ x, its[k]? = some x := ⟨_, List.getElem?_eq_getElem (show k < its.length by omega)⟩
    have hk1 : ((k : Int) + 1 - 1).toNat = k := by omega
    rw [hk1, hx]
    exact heap_Class B w p most its g r v k x h hi2 hx
  · rw [if_neg ht]
    exact heap_Class_no B w p most its g r v t h hi2 ht

theorem ref_Class_all (B : Nat) (w : World) (p : Value) (most : Int) (its : List It) (obs : List Ob) (g : Nat) (v : Value) (t : Int) (h : IsRh B w p most obs g v) (hi2 : obs.length ≤ 1001) (hD : Same its obs) :
    Calls Try.prog 25 #[p, .int .i64 t] w fun e w' => e = .returned (.string (clsAt its t)) ∧ ∃ m, w' = w.drewN m := by
  have hl := hD.len
  unfold clsAt
  by_cases ht : 1 ≤ t ∧ t ≤ its.length
  · rw [if_pos ht]
    obtain ⟨k, rfl⟩ : ∃ k : Nat, t = (k : Int) + 1 := ⟨(t - 1).toNat, by omega⟩
    obtain ⟨x, hx⟩ : ∃ x, its[k]? = some x := ⟨_, List.getElem?_eq_getElem (show k < its.length by omega)⟩
    obtain ⟨y, hy, h1, h2⟩ := hD.get hx
    have hk1 : ((k : Int) + 1 - 1).toNat = k := by omega
    rw [hk1, hx]
    simp only [Option.map_some, Option.getD_some]
    rw [← h1]
    exact ref_Class B w p most obs g v k y h hi2 hy
  · rw [if_neg ht]
    exact ref_Class_no B w p most obs g v t h hi2 (by rw [← hl]; exact ht)

theorem ref_Get_all (B : Nat) (w : World) (p : Value) (most : Int) (its : List It) (obs : List Ob) (g : Nat) (v : Value) (t u : Int) (h : IsRh B w p most obs g v) (hi2 : obs.length ≤ 1001) (hD : Same its obs) :
    Calls Try.prog 24 #[p, .int .i64 t, .int .i64 u] w fun e w' => e = .returned (.tuple #[.agg #[.bool (slotV its t u).ref, .int .i64 (slotV its t u).n], .int .i64 (slotE its t u)]) ∧ Kept w w' := by
  have hl := hD.len
  have k0 : Kept w (w.alloc (.cells #[.bool false, .int .i64 0] 57)) := (Below.refl _ _).alloc (Nat.le_refl _) _
  by_cases ht : 1 ≤ t ∧ t ≤ its.length
  · obtain ⟨k, rfl⟩ : ∃ k : Nat, t = (k : Int) + 1 := ⟨(t - 1).toNat, by omega⟩
    obtain ⟨x, hx⟩ : ∃ x, its[k]? = some x := ⟨_, List.getElem?_eq_getElem (show k < its.length by omega)⟩
    obtain ⟨y, hy, h1, h2⟩ := hD.get hx
    have hk1 : ((k : Int) + 1 - 1).toNat = k := by omega
    by_cases hu : 0 ≤ u ∧ u < x.sl.length
    · have he : slotE its ((k : Int) + 1) u = 0 := by simp only [slotE, if_pos ht, hk1, hx, Option.map_some, Option.getD_some, if_pos hu]
      obtain ⟨j, rfl⟩ : ∃ j : Nat, u = j := ⟨u.toNat, by omega⟩
      obtain ⟨z, hz⟩ : ∃ z, x.sl[j]? = some z := ⟨_, List.getElem?_eq_getElem (show j < x.sl.length by omega)⟩
      have hv : slotV its ((k : Int) + 1) j = z := by simp only [slotV, if_pos he, hk1, hx, Option.map_some, Option.getD_some, Int.toNat_natCast, hz]
      rw [he, hv]
      exact ref_Get B w p most obs g v k j y z h hi2 hy (by rw [h2]; exact hz)
    · have he : slotE its ((k : Int) + 1) u = 1 := by simp only [slotE, if_pos ht, hk1, hx, Option.map_some, Option.getD_some, if_neg hu]
      have hv : slotV its ((k : Int) + 1) u = zeroV := by simp [slotV, he]
      rw [he, hv]
      have C := ref_slot B _ p most obs g v k y u (h.kept k0) hi2 hy
      rw [h2, if_neg hu] at C
      exact ref_Get_err B w p most obs g v _ u 1 h (by omega) C
  · have he : slotE its t u = 40 := by simp only [slotE, if_neg ht]
    have hv : slotV its t u = zeroV := by simp [slotV, he]
    rw [he, hv]
    exact ref_Get_err B w p most obs g v t u 40 h (by omega) (ref_slot_no B _ p most obs g v t u (h.kept k0) hi2 (by rw [← hl]; exact ht))

theorem ref_Put_all (B : Nat) (w : World) (p : Value) (most : Int) (its : List It) (obs : List Ob) (g : Nat) (v : Value) (t u : Int) (q : ValV) (h : IsRh B w p most obs g v) (hi2 : obs.length ≤ 1001) (hD : Same its obs) :
    Calls Try.prog 27 #[p, .int .i64 t, .int .i64 u, .agg #[.bool q.ref, .int .i64 q.n]] w fun e w' => e = .returned (.int .i64 (putE its t u q)) ∧ ∃ obs', IsRh B w' p most obs' g v ∧ Same (putI its t u q) obs' ∧ Touch (footR g v obs) w w' ∧ ∀ b, footR g v obs' b → footR g v obs b := by
  have hl := hD.len
  have k0 : Kept w (w.alloc (.cells #[.bool q.ref, .int .i64 q.n] 57)) := (Below.refl _ _).alloc (Nat.le_refl _) _
  by_cases ht : 1 ≤ t ∧ t ≤ its.length
  · obtain ⟨k, rfl⟩ : ∃ k : Nat, t = (k : Int) + 1 := ⟨(t - 1).toNat, by omega⟩
    obtain ⟨x, hx⟩ : ∃ x, its[k]? = some x := ⟨_, List.getElem?_eq_getElem (show k < its.length by omega)⟩
    obtain ⟨y, hy, h1, h2⟩ := hD.get hx
    have hk1 : ((k : Int) + 1 - 1).toNat = k := by omega
    by_cases hu : 0 ≤ u ∧ u < x.sl.length
    · have he : slotE its ((k : Int) + 1) u = 0 := by simp only [slotE, if_pos ht, hk1, hx, Option.map_some, Option.getD_some, if_pos hu]
      obtain ⟨j, rfl⟩ : ∃ j : Nat, u = j := ⟨u.toNat, by omega⟩
      obtain ⟨z, hz⟩ : ∃ z, x.sl[j]? = some z := ⟨_, List.getElem?_eq_getElem (show j < x.sl.length by omega)⟩
      have hv : slotV its ((k : Int) + 1) j = z := by simp only [slotV, if_pos he, hk1, hx, Option.map_some, Option.getD_some, Int.toNat_natCast, hz]
      by_cases hr : z.ref = q.ref
      · have hpe : putE its ((k : Int) + 1) j q = 0 := by simp only [putE, if_pos he, hv, if_pos hr]
        have hpi : putI its ((k : Int) + 1) j q = its.set k { x with sl := x.sl.set j q } := by simp only [putI, if_pos hpe, hk1, hx, Option.map_some, Option.getD_some, Int.toNat_natCast]
        rw [hpe, hpi]
        refine (ref_Put B w p most obs g v k j y z q h hi2 hy (by rw [h2]; exact hz) hr).mono ?_
        rintro e w' ⟨rfl, h3, h4⟩
        refine ⟨rfl, _, h3, hD.set h1.symm (by rw [h2]), h4, ?_⟩
        rintro b (hb | hb | ⟨o, ho, hb⟩)
        · exact .inl hb
        · exact .inr (.inl hb)
        · rcases List.mem_or_eq_of_mem_set ho with ho | rfl
          · exact .inr (.inr ⟨o, ho, hb⟩)
          · exact .inr (.inr ⟨y, List.mem_of_getElem? hy, hb⟩)
      · have hpe : putE its ((k : Int) + 1) j q = 41 := by simp only [putE, if_pos he, hv, if_neg hr]
        have hpi : putI its ((k : Int) + 1) j q = its := by simp [putI, hpe]
        rw [hpe, hpi]
        refine (ref_Put_kind B w p most obs g v k j y z q h hi2 hy (by rw [h2]; exact hz) hr).mono ?_
        rintro e w' ⟨rfl, hk⟩
        exact ⟨rfl, obs, h.kept hk, hD, Touch.of_kept hk, fun _ => id⟩
    · have he : slotE its ((k : Int) + 1) u = 1 := by simp only [slotE, if_pos ht, hk1, hx, Option.map_some, Option.getD_some, if_neg hu]
      have hpe : putE its ((k : Int) + 1) u q = 1 := by simp [putE, he]
      have hpi : putI its ((k : Int) + 1) u q = its := by simp [putI, hpe]
      rw [hpe, hpi]
      have C := ref_slot B _ p most obs g v k y u (h.kept k0) hi2 hy
      rw [h2, if_neg hu] at C
      refine (ref_Put_err B w p most obs g v _ u 1 q (by omega) C).mono ?_
      rintro e w' ⟨rfl, hk⟩
      exact ⟨rfl, obs, h.kept hk, hD, Touch.of_kept hk, fun _ => id⟩
  · have he : slotE its t u = 40 := by simp only [slotE, if_neg ht]
    have hpe : putE its t u q = 40 := by simp [putE, he]
    have hpi : putI its t u q = its := by simp [putI, hpe]
    rw [hpe, hpi]
    refine (ref_Put_err B w p most obs g v t u 40 q (by omega) (ref_slot_no B _ p most obs g v t u (h.kept k0) hi2 (by rw [← hl]; exact ht))).mono ?_
    rintro e w' ⟨rfl, hk⟩
    exact ⟨rfl, obs, h.kept hk, hD, Touch.of_kept hk, fun _ => id⟩
end Go.Proofs.Ytjdldgpkcfigiaa
