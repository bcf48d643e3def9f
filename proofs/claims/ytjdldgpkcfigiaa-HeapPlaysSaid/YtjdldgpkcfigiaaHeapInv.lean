/-
  Both heaps side by side: what each call leaves of them.
-/
import Derived.Test.YtjdldgpkcfigiaaHeapLaw
import Derived.Test.YtjdldgpkcfigiaaHeapBoth
namespace Go.Proofs.Ytjdldgpkcfigiaa
open Go.RowKit
set_option maxRecDepth 100000

/-- Package heap's heap and the document's, side by side. -/
structure Two (B B2 : Nat) (w : World) (most : Int) (its : List It) (obs : List Ob) (g r : Nat) (v : Value) (g2 : Nat) (v2 : Value) : Prop where
  hp : IsHp B w (.pointer (some ⟨g, 0, none⟩)) most its g r v
  rh : IsRh B2 w (.pointer (some ⟨g2, 0, none⟩)) most obs g2 v2
  same : Same its obs
  apart : ∀ b, footH g r v its b → footR g2 v2 obs b → False
  lo : 1 ≤ its.length
  hi : (its.length : Int) ≤ most + 1
  hm : most ≤ 1000
  base : B ≤ B2

section
variable {B B2 : Nat} {w w' : World} {most : Int} {its : List It} {obs : List Ob} {g r : Nat} {v : Value} {g2 : Nat} {v2 : Value}
theorem Two.len (h : Two B B2 w most its obs g r v g2 v2) : obs.length = its.length := h.same.len.symm
theorem Two.kept (h : Two B B2 w most its obs g r v g2 v2) (hk : Kept w w') : Two B B2 w' most its obs g r v g2 v2 :=
  ⟨h.hp.kept hk, h.rh.kept hk, h.same, h.apart, h.lo, h.hi, h.hm, h.base⟩
/-- What lies outside both heaps may turn. -/
theorem Two.far (h : Two B B2 w most its obs g r v g2 v2) {S : Nat → Prop} (ht : Touch S w w') (h1 : ∀ b, footH g r v its b → ¬ S b) (h2 : ∀ b, footR g2 v2 obs b → ¬ S b) : Two B B2 w' most its obs g r v g2 v2 :=
  ⟨h.hp.apart ht h1, h.rh.apart ht h2, h.same, h.apart, h.lo, h.hi, h.hm, h.base⟩
theorem Two.small (h : Two B B2 w most its obs g r v g2 v2) : its.length ≤ 1001 := by
  have h1 := h.hi
  have h2 := h.hm
  omega
end

/-- The two new heaps. -/
theorem two_new {w1 w2 w3 : World} {most : Int} {b : Nat} {g r : Nat} {v : Value} {g2 : Nat} {v2 : Value} (h0 : 0 ≤ most) (h1 : most ≤ 1000)
    (hH : IsHp w1.heap.size w2 (.pointer (some ⟨g, 0, none⟩)) most [⟨b, .slice none 0 0, memErr, []⟩] g r v) (k2 : Kept w1 w2)
    (hR : IsRh w2.heap.size w3 (.pointer (some ⟨g2, 0, none⟩)) most [⟨oomB, .slice none 0 0, []⟩] g2 v2) (k3 : Kept w2 w3) :
    Two w1.heap.size w2.heap.size w3 most [⟨b, .slice none 0 0, memErr, []⟩] [⟨oomB, .slice none 0 0, []⟩] g r v g2 v2 :=
  ⟨hH.kept k3, hR, rfl, fun b h h' => by
    have h2 := (hH.foot_ge b h).2
    have h3 := (hR.foot_lt b h').1
    omega, by simp, by show ((1 : Nat) : Int) ≤ most + 1; omega, h1, k2.size⟩

theorem footH_put {g r : Nat} {v : Value} {its : List It} {t u : Int} {y : ValV} : ∀ b, footH g r v (putI its t u y) b → footH g r v its b := by
  intro b hb
  unfold putI at hb
  split at hb
  · cases hx : its[(t - 1).toNat]? with
    | none => rw [hx] at hb; exact hb
    | some x =>
      rw [hx] at hb
      rcases hb with hb | hb | hb | ⟨x', hx', hb⟩
      · exact .inl hb
      · exact .inr (.inl hb)
      · exact .inr (.inr (.inl hb))
      · rcases List.mem_or_eq_of_mem_set hx' with h' | rfl
        · exact .inr (.inr (.inr ⟨x', h', hb⟩))
        · exact .inr (.inr (.inr ⟨x, List.mem_of_getElem? hx, hb⟩))
  · exact hb
theorem putI_len {its : List It} {t u : Int} {y : ValV} : (putI its t u y).length = its.length := by
  unfold putI
  split
  · cases hx : its[(t - 1).toNat]? with
    | none => rfl
    | some x => simp
  · rfl

/-- Behind both calls of Put. -/
theorem Two.put {B B2 : Nat} {w w' w'' : World} {most : Int} {its : List It} {obs obs' : List Ob} {g r : Nat} {v : Value} {g2 : Nat} {v2 : Value} {t u : Int} {y : ValV} (h : Two B B2 w most its obs g r v g2 v2)
    (h1 : IsHp B w' (.pointer (some ⟨g, 0, none⟩)) most (putI its t u y) g r v) (h3 : IsRh B2 w'' (.pointer (some ⟨g2, 0, none⟩)) most obs' g2 v2) (h4 : Same (putI its t u y) obs')
    (h5 : Touch (footR g2 v2 obs) w' w'') (h6 : ∀ b, footR g2 v2 obs' b → footR g2 v2 obs b) : Two B B2 w'' most (putI its t u y) obs' g r v g2 v2 :=
  ⟨h1.apart h5 fun b hb hb' => h.apart b (footH_put b hb) hb', h3, h4, fun b hb hb' => h.apart b (footH_put b hb) (h6 b hb'), by rw [putI_len]; exact h.lo, by rw [putI_len]; exact h.hi, h.hm, h.base⟩

/-- What Make answers, and what it leaves. -/
def mkE (most : Int) (m n : Nat) : Int := if 16384 < n then 2 else if most < m then 42 else 0
def mkN (most : Int) (m n : Nat) : Int := if mkE most m n = 0 then (m : Int) + 1 else 0
def mkD (most : Int) (D : List (ByteArray × List ValV)) (cls : ByteArray) (sl : List ValV) : List (ByteArray × List ValV) := if mkE most D.length sl.length = 0 then D ++ [(cls, sl)] else D

theorem heap_Make_all (B : Nat) (w : World) (p : Value) (most : Int) (its : List It) (g r : Nat) (v : Value) (cls : ByteArray) (a : Option Addr) (c : Nat) (sl : List ValV) (h : IsHp B w p most its g r v) (hs : Rd w 2 (.slice a sl.length c) sl.length (sl.flatMap encVal)) (hc : sl.length ≤ c) (hc2 : c ≤ 9223372036854775807)
    (hi1 : 1 ≤ its.length) (hi2 : its.length ≤ 1001) (hBw : B ≤ w.heap.size) :
    Calls Try.prog 18 #[p, .string cls, .slice a sl.length c] w fun e w' => e = .returned (.tuple #[.int .i64 (mkN most its.length sl.length), .int .i64 (mkE most its.length sl.length)]) ∧
      ∃ its' v', its'.map (fun x => (x.cls, x.sl)) = mkD most (its.map fun x => (x.cls, x.sl)) cls sl ∧ IsHp B w' p most its' g r v' ∧ Touch (footH g r v its) w w' ∧ ∀ b, footH g r v' its' b → footH g r v its b ∨ w.heap.size ≤ b := by
  by_cases h1 : 16384 < sl.length
  · have e1 : mkE most its.length sl.length = 2 := by simp [mkE, h1]
    have e2 : mkN most its.length sl.length = 0 := by simp [mkN, e1]
    rw [e1, e2]
    refine (heap_Make_long B w p most its g r v cls a sl.length c h h1 hc hc2).mono ?_
    rintro e w' ⟨rfl, m, rfl⟩
    exact ⟨rfl, its, v, by simp [mkD, e1], h.kept (kept_drewN (Below.refl _ _) m), Touch.of_kept (kept_drewN (Below.refl _ _) m), fun b => .inl⟩
  · by_cases h2 : most < its.length
    · have e1 : mkE most its.length sl.length = 42 := by simp only [mkE, if_neg h1, if_pos h2]
      have e2 : mkN most its.length sl.length = 0 := by simp [mkN, e1]
      rw [e1, e2]
      refine (heap_Make_full B w p most its g r v cls a sl.length c h (by omega) hi1 hi2 h2).mono ?_
      rintro e w' ⟨rfl, m, rfl⟩
      exact ⟨rfl, its, v, by simp [mkD, e1], h.kept (kept_drewN (Below.refl _ _) m), Touch.of_kept (kept_drewN (Below.refl _ _) m), fun b => .inl⟩
    · have e1 : mkE most its.length sl.length = 0 := by simp only [mkE, if_neg h1, if_neg h2]
      have e2 : mkN most its.length sl.length = its.length + 1 := by simp [mkN, e1]
      rw [e1, e2]
      refine (heap_Make B w p most its g r v cls _ sl h hs (by omega) hi1 hi2 (by omega) hBw).mono ?_
      rintro e w' ⟨rfl, x, v', q1, q2, q3, q4, q5, q6, q7⟩
      refine ⟨rfl, _, v', by simp [mkD, e1, q1, q2], q3, q4.mono ?_, ?_⟩
      · rintro b (rfl | hb)
        · exact .inr (.inl rfl)
        · exact .inr (.inr (.inl hb))
      · rintro b (hb | hb | hb | ⟨z, hz, hb⟩)
        · exact .inl (.inl hb)
        · exact .inl (.inr (.inl hb))
        · exact (q5 b hb).imp (fun e => .inr (.inr (.inl e))) id
        · rcases List.mem_append.1 hz with hz | hz
          · exact .inl (.inr (.inr (.inr ⟨z, hz, hb⟩)))
          · obtain rfl : z = x := by simpa using hz
            rcases hb with rfl | hb
            · exact .inr q6
            · exact .inr (q7 b hb)

theorem ref_Make_all (B : Nat) (w : World) (p : Value) (most : Int) (obs : List Ob) (g : Nat) (v : Value) (cls : ByteArray) (a : Option Addr) (c : Nat) (sl : List ValV) (h : IsRh B w p most obs g v) (hs : Rd w 2 (.slice a sl.length c) sl.length (sl.flatMap encVal))
    (hi2 : obs.length ≤ 1001) (hBw : B ≤ w.heap.size) :
    Calls Try.prog 28 #[p, .string cls, .slice a sl.length c] w fun e w' => e = .returned (.tuple #[.int .i64 (mkN most obs.length sl.length), .int .i64 (mkE most obs.length sl.length)]) ∧
      ∃ obs' v', obs'.map (fun x => (x.cls, x.sl)) = mkD most (obs.map fun x => (x.cls, x.sl)) cls sl ∧ IsRh B w' p most obs' g v' ∧ Touch (footR g v obs) w w' ∧ ∀ b, footR g v' obs' b → footR g v obs b ∨ w.heap.size ≤ b := by
  by_cases h1 : 16384 < sl.length
  · have e1 : mkE most obs.length sl.length = 2 := by simp [mkE, h1]
    have e2 : mkN most obs.length sl.length = 0 := by simp [mkN, e1]
    rw [e1, e2]
    refine (ref_Make_long w p cls a sl.length c h1).mono ?_
    rintro e w' ⟨rfl, rfl⟩
    exact ⟨rfl, obs, v, by simp [mkD, e1], h, Touch.refl _ _, fun b => .inl⟩
  · by_cases h2 : most < obs.length
    · have e1 : mkE most obs.length sl.length = 42 := by simp only [mkE, if_neg h1, if_pos h2]
      have e2 : mkN most obs.length sl.length = 0 := by simp [mkN, e1]
      rw [e1, e2]
      refine (ref_Make_full B w p most obs g v cls a sl.length c h (by omega) h2).mono ?_
      rintro e w' ⟨rfl, hk⟩
      exact ⟨rfl, obs, v, by simp [mkD, e1], h.kept hk, Touch.of_kept hk, fun b => .inl⟩
    · have e1 : mkE most obs.length sl.length = 0 := by simp only [mkE, if_neg h1, if_neg h2]
      have e2 : mkN most obs.length sl.length = obs.length + 1 := by simp [mkN, e1]
      rw [e1, e2]
      refine (ref_Make B w p most obs g v cls _ sl h hs (by omega) hi2 (by omega) hBw).mono ?_
      rintro e w' ⟨rfl, x, v', q1, q2, q3, q4, q5, q7⟩
      refine ⟨rfl, _, v', by simp [mkD, e1, q1, q2], q3, q4, ?_⟩
      rintro b (hb | hb | ⟨z, hz, hb⟩)
      · exact .inl (.inl hb)
      · exact (q5 b hb).imp (fun e => .inr (.inl e)) id
      · rcases List.mem_append.1 hz with hz | hz
        · exact .inl (.inr (.inr ⟨z, hz, hb⟩))
        · obtain rfl : z = x := by simpa using hz
          exact .inr (q7 b hb)

/-- Behind both calls of Make. -/
theorem Two.make {B B2 : Nat} {w w' w'' : World} {most : Int} {its its' : List It} {obs obs' : List Ob} {g r : Nat} {v v' : Value} {g2 : Nat} {v2 v2' : Value} {cls : ByteArray} {sl : List ValV} (h : Two B B2 w most its obs g r v g2 v2)
    (h1 : IsHp B w' (.pointer (some ⟨g, 0, none⟩)) most its' g r v') (hd : its'.map (fun x => (x.cls, x.sl)) = mkD most (its.map fun x => (x.cls, x.sl)) cls sl) (h3 : ∀ b, footH g r v' its' b → footH g r v its b ∨ w.heap.size ≤ b)
    (r1 : IsRh B2 w'' (.pointer (some ⟨g2, 0, none⟩)) most obs' g2 v2') (rd : obs'.map (fun x => (x.cls, x.sl)) = mkD most (obs.map fun x => (x.cls, x.sl)) cls sl) (r2 : Touch (footR g2 v2 obs) w' w'') (r3 : ∀ b, footR g2 v2' obs' b → footR g2 v2 obs b ∨ w'.heap.size ≤ b) :
    Two B B2 w'' most its' obs' g r v' g2 v2' := by
  have hlt := fun b hb => (h.rh.foot_lt b hb).2
  have hlt1 := fun b hb => (h1.foot_ge b hb).2
  have hl : its'.length = (mkD most (its.map fun x => (x.cls, x.sl)) cls sl).length := by rw [← hd, List.length_map]
  have hlen : its'.length = its.length ∨ (its'.length = its.length + 1 ∧ ¬ most < its.length) := by
    rw [hl]
    unfold mkD
    split
    · rename_i he
      right
      refine ⟨by simp, fun hm => ?_⟩
      rw [List.length_map] at he
      unfold mkE at he
      rw [if_pos hm] at he
      split at he <;> omega
    · left; simp
  have lo := h.lo
  have hi := h.hi
  refine ⟨h1.apart r2 fun b hb hb' => ?_, r1, by unfold Same; rw [hd, rd, h.same], fun b hb hb' => ?_, by omega, by omega, h.hm, h.base⟩
  · rcases h3 b hb with h7 | h7
    · exact h.apart b h7 hb'
    · have := hlt b hb'
      omega
  · rcases r3 b hb' with h8 | h8
    · rcases h3 b hb with h7 | h7
      · exact h.apart b h7 h8
      · have := hlt b h8
        omega
    · have := hlt1 b hb
      omega

theorem Two.foot_ge {B B2 : Nat} {w : World} {most : Int} {its : List It} {obs : List Ob} {g r : Nat} {v : Value} {g2 : Nat} {v2 : Value} (h : Two B B2 w most its obs g r v g2 v2) : ∀ b, footH g r v its b ∨ footR g2 v2 obs b → B ≤ b ∧ b < w.heap.size := by
  rintro b (hb | hb)
  · exact h.hp.foot_ge b hb
  · have := h.rh.foot_lt b hb
    have := h.base
    omega
end Go.Proofs.Ytjdldgpkcfigiaa
