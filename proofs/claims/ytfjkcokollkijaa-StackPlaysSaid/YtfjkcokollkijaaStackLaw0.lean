/-
  Chapter 16's law: sameValues, alive.
-/
import Derived.Test.YtfjkcokollkijaaStack4
namespace Go.Proofs.Ytfjkcokollkijaa
open Go.RowKit
set_option maxRecDepth 100000

theorem val_rd {w : World} {l : List ValV} {v : Value} {n : Nat} (hl : l.length = n) (hr : Rd w 2 v n (l.flatMap encVal)) {i : Nat} {m : ValV} (hm : l[i]? = some m) :
    ∃ b off c, v = .slice (some ⟨b, off, none⟩) n c ∧ c ≤ 9223372036854775807 ∧ w.cell? ⟨b, off + i * 2, none⟩ = some (.bool m.ref) ∧ w.cell? ⟨b, off + i * 2 + 1, none⟩ = some (.int .i64 m.n) := by
  have hl' := (List.getElem?_eq_some_iff.1 hm).1
  rcases hr.parts with ⟨h0, _⟩ | ⟨b, off, c, rfl, h0, h1, h2, hc⟩
  · omega
  · have hg : ∀ f u, (encVal m)[f]? = some u → f < 2 → w.cell? ⟨b, off + (i * 2 + f), none⟩ = some u := fun f u hu hf => hc _ _ (by rw [flat_get encVal 2 (fun _ => rfl) l i f m hm hf]; exact hu)
    exact ⟨b, off, c, rfl, h2, hg 0 _ rfl (by omega), hg 1 _ rfl (by omega)⟩

theorem law16_sameValues (l : List ValV) (n : Nat) (va vb : Value) (w : World) (hl : l.length = n) (ha : Rd w 2 va n (l.flatMap encVal)) (hb : Rd w 2 vb n (l.flatMap encVal)) :
    Calls Try.prog 9 #[va, vb] w fun e w' => e = .returned (.bool true) ∧ ∃ m, w' = w.drewN m := by
  have HA := Lib.hid ha
  have HB := Lib.hid hb
  have HL := Lib.hid hl
  obtain ⟨_, aa, ca, rfl, a1, a2, _⟩ := ha
  obtain ⟨_, ab, cb, rfl, b1, b2, _⟩ := hb
  clear hl
  go_enter Try.func9, Try.ntmps9
  go_wp2
  go_loopw [5] (fun s5 wr => ∃ k : Nat, k ≤ n ∧ s5 = .int .i64 k ∧ ∃ m, wr = w.drewN m) (fun s5 _ => n - (intOf s5).toNat)
  case atStart => exact ⟨0, by omega, rfl, 0, rfl⟩
  case round =>
    obtain ⟨k, hk, rfl, mm, rfl⟩ := hrel
    by_cases hlt : k < n
    · obtain ⟨m, hm⟩ : ∃ m, l[k]? = some m := ⟨_, List.getElem?_eq_getElem (show k < l.length by have := HL.out; omega)⟩
      obtain ⟨ba, oa, ca', hva, hca, x0, x1⟩ := val_rd HL.out HA.out hm
      obtain ⟨bb, ob, cb', hvb, hcb, y0, y1⟩ := val_rd HL.out HB.out hm
      simp only [Value.slice.injEq] at hva hvb
      obtain ⟨rfl, -, rfl⟩ := hva
      obtain ⟨rfl, -, rfl⟩ := hvb
      clear hm
      go_wp2
      go_quiet (fail)
      go_wp2
      go_roundw
      case rel => exact ⟨k + 1, by omega, by go_num, _, rfl⟩
      case measure => simp [intOf]; omega
    · go_wp2
      go_ret
      exact ⟨rfl, _, rfl⟩

theorem IsFr.below {T E B : Nat} {w w' : World} {p : Value} {x : FrV} {g : Nat} {v u : Value} (h : IsFr T E B w p x g v u) (ht : Touch (footF g v u) w w') (hBw : B ≤ w.heap.size) : Below B w w' := by
  refine ht.below (fun b hb => ?_) hBw
  rcases hb with rfl | hb | hb
  · exact h.ge
  · exact (h.own.lt b hb).1
  · exact (h.owl.lt b hb).1

theorem law16_num (n : Int) (w : World) : Calls Try.prog 6 #[.int .i64 n] w fun e w' => e = .returned (.int .i64 n) ∧ w = w' := by
  go_enter Try.func6, Try.ntmps6
  go_wp2
  go_ret
  exact ⟨rfl, rfl⟩

theorem alive16 (w : World) : Calls Try.prog 4 #[] w fun e w' => e = .returned (.bool true) ∧ Kept w w' := by
  go_enter Try.func4, Try.ntmps4
  go_wp2_with fail
  refine (stack_New _ _ _).mono ?_
  rintro e w1 (⟨h, -⟩ | ⟨-, g, u, rfl, hP, k1⟩)
  · exact absurd ⟨by decide, by decide, by decide, by decide⟩ h
  have HP := Lib.hid hP
  have K1 := Lib.hid k1
  have B1 := k1.size
  clear hP k1
  go_wp2_with fail
  refine (law16_num _ _).mono ?_
  rintro e w1 ⟨rfl, rfl⟩
  go_wp2_with fail
  refine (stack_Push w.heap.size _ _ _ g _ u ⟨false, 5⟩ HP.out B1 (by decide) (by decide)).mono ?_
  rintro e w2 ⟨rfl, v2, hP2, hT2, -⟩
  have K2 := Lib.hid (Below.trans K1.out (HP.out.below hT2 B1))
  have B2 := K2.out.size
  have HP2 := Lib.hid hP2
  clear hP2 hT2
  go_wp2_with fail
  refine (stack_Push w.heap.size _ _ _ g _ u ⟨true, 0⟩ HP2.out B2 (by decide) (by decide)).mono ?_
  rintro e w3 ⟨rfl, v3, hP3, hT3, -⟩
  have K3 := Lib.hid (Below.trans K2.out (HP2.out.below hT3 B2))
  have B3 := K3.out.size
  have HP3 := Lib.hid hP3
  clear hP3 hT3
  go_wp2_with fail
  refine (stack_Push_no w.heap.size _ _ _ g _ u ⟨false, 0⟩ HP3.out (by decide)).mono ?_
  rintro e w4 ⟨rfl, k4⟩
  have K4 := Lib.hid (Kept.trans K3.out k4)
  have B4 := K4.out.size
  have HP4 := Lib.hid (HP3.out.kept k4)
  clear k4
  go_wp2_with fail
  refine (stack_Pop w.heap.size _ _ g _ u _ HP4.out (by decide) (by decide)).mono ?_
  rintro e w5 (⟨-, rfl, k5⟩ | ⟨h, -⟩)
  rotate_left
  · exfalso
    have := h.2 0 _ _ rfl rfl
    revert this
    decide
  have K5 := Lib.hid (Kept.trans K4.out k5)
  have B5 := K5.out.size
  have HP5 := Lib.hid (HP4.out.kept k5)
  clear k5
  go_wp2_with fail
  refine (stack_Pop w.heap.size _ _ g _ u _ HP5.out (by decide) (by decide)).mono ?_
  rintro e w6 (⟨h, -⟩ | ⟨-, t, v6, rfl, ht, hP6, hT6, -⟩)
  · refine absurd ⟨by decide, ?_⟩ h
    intro j b y hb hy
    rcases j with _ | _ | j
    · simp at hb
      subst hb
      obtain rfl : (⟨false, 5⟩ : ValV) = y := Option.some.inj hy
      decide
    · simp at hb
      subst hb
      obtain rfl : (⟨true, 0⟩ : ValV) = y := Option.some.inj hy
      decide
    · simp at hb
  have K6 := Lib.hid (Below.trans K5.out (HP5.out.below (hT6.mono fun b hb => .inl hb) B5))
  obtain ⟨r, c, rfl, hc1, hc2, _, _, hcell, _⟩ := own_form ht (by decide)
  have c1 := hcell 1 (.int .i64 5) rfl
  clear ht hP6 hT6 hcell
  have hsz : (⟨#[73, 76]⟩ : ByteArray).size = 2 := rfl
  rw [hsz] at hc1 ⊢
  clear hsz
  go_wp2
  go_ret
  exact ⟨rfl, K6.out⟩
end Go.Proofs.Ytfjkcokollkijaa
