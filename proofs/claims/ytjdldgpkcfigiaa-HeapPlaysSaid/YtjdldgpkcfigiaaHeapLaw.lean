/-
  Chapter 15's law HeapFull, walked.
-/
import Derived.Test.YtjdldgpkcfigiaaHeap3
namespace Go.Proofs.Ytjdldgpkcfigiaa
open Go.RowKit
set_option maxRecDepth 100000

theorem law15_num (n : Int) (w : World) : Calls Try.prog 19 #[.int .i64 n] w fun e w' => e = .returned (.int .i64 n) ∧ w = w' := by
  go_enter Try.func19, Try.ntmps19
  go_wp2
  go_ret
  exact ⟨rfl, rfl⟩

/-- The same of one that touches the store alone. -/
theorem IsHp.below_row {B : Nat} {w w' : World} {p : Value} {most : Int} {its : List It} {g r : Nat} {v : Value} (h : IsHp B w p most its g r v) (ht : Touch (fun b => b = r ∨ v.ownBlock = some b) w w') (hBw : B ≤ w.heap.size) : Below B w w' :=
  h.below (ht.mono fun b hb => by rcases hb with rfl | hb; exact .inr (.inl rfl); exact .inr (.inr (.inl hb))) hBw

set_option maxHeartbeats 1000000 in
theorem alive15 (w : World) : Calls Try.prog 16 #[] w fun e w' => e = .returned (.bool true) ∧ Kept w w' := by
  go_enter Try.func16, Try.ntmps16
  go_wp2_with fail
  refine (heap_New 1 _ (by decide) (by decide)).mono ?_
  rintro e w1 ⟨g, r, v, b, rfl, hP, k1⟩
  have HP := Lib.hid hP
  have K1 := Lib.hid k1
  have B1 := k1.size
  clear hP k1
  go_wp2_with fail
  refine (law15_num _ _).mono ?_
  rintro e w1 ⟨rfl, rfl⟩
  go_wp2_with fail
  have k2 : Kept w1 (w1.alloc (.cells #[.bool false, .int .i64 0] 57)) := (Below.refl _ _).alloc (Nat.le_refl _) _
  have rd2 : Rd (w1.alloc (.cells #[.bool false, .int .i64 0] 57)) 2 (.slice (some ⟨w1.heap.size, 0, none⟩) 1 1) [zeroV].length ([zeroV].flatMap encVal) := Rd.one w1 (encVal zeroV) 57 rfl
  have C := heap_Make w.heap.size _ _ 1 _ g r v ⟨#[65]⟩ _ [zeroV] (HP.out.kept k2) rd2 (by simp) (by simp) (by simp) (by simp) (Nat.le_trans B1 k2.size)
  have K2 := Lib.hid (Kept.trans K1.out k2)
  have B2 := K2.out.size
  have HP2 := Lib.hid (HP.out.kept k2)
  clear k2 rd2
  refine C.mono ?_
  rintro e w3 ⟨rfl, x, v3, hx1, hx2, hP3, hT3, -⟩
  have K3 := Lib.hid (Below.trans K2.out (HP2.out.below_row hT3 B2))
  have B3 := K3.out.size
  have HP3 := Lib.hid hP3
  clear C hP3 hT3 hx1 hx2
  go_wp2_with fail
  refine (heap_Make_full w.heap.size _ _ 1 _ g r v3 ⟨#[66]⟩ none 0 0 HP3.out (by decide) (by simp) (by simp) (by simp)).mono ?_
  rintro e w4 ⟨rfl, m4, hw4⟩
  have k4 : Kept w3 w4 := by rw [hw4]; exact kept_drewN (Below.refl _ _) m4
  have K4 := Lib.hid (Below.trans K3.out (k4.mono B3))
  have HP4 := Lib.hid (HP3.out.kept k4)
  clear hw4 k4
  go_wp2_with fail
  refine (law15_num _ _).mono ?_
  rintro e w5 ⟨rfl, rfl⟩
  go_wp2_with fail
  refine (law15_num _ _).mono ?_
  rintro e w5 ⟨rfl, rfl⟩
  go_wp2_with fail
  refine (heap_Class w.heap.size _ _ 1 _ g r v3 0 _ HP4.out (by simp) rfl).mono ?_
  rintro e w5 ⟨rfl, m5, hw5⟩
  have k5 : Kept w4 w5 := by rw [hw5]; exact kept_drewN (Below.refl _ _) m5
  have K5 := Lib.hid (Below.trans K4.out (k5.mono K4.out.size))
  have HP5 := Lib.hid (HP4.out.kept k5)
  clear hw5 k5
  unfold memErr
  go_wp2_with fail
  refine (heap_Count w.heap.size _ _ 1 _ g r v3 HP5.out (by simp) (by simp)).mono ?_
  rintro e w6 ⟨rfl, m6, hw6⟩
  have k6 : Kept w5 w6 := by rw [hw6]; exact kept_drewN (Below.refl _ _) m6
  have K6 := Lib.hid (Below.trans K5.out (k6.mono K5.out.size))
  clear hw6 k6
  go_wp2_with fail
  go_ret
  exact ⟨rfl, K6.out⟩

/-- What was there, and n objects of class A. -/
structure FullOf (its : List It) (n : Nat) : Prop where
  len : its.length = n + 1
  cls : ∀ x ∈ its, x.cls.toList ≠ []

theorem FullOf.snoc {its : List It} {n : Nat} {x : It} (h : FullOf its n) (hx : x.cls.toList ≠ []) : FullOf (its ++ [x]) (n + 1) :=
  ⟨by simp [h.len], fun y hy => by rcases List.mem_append.1 hy with hy | hy; exact h.cls y hy; (obtain rfl : y = x := by simpa using hy); exact hx⟩

set_option maxHeartbeats 2000000 in
theorem walk_HeapFull (most more : Int) (w : World) (_ : (Lit.int .i64 most).wf = true) (_ : (Lit.int .i64 more).wf = true) :
    Calls Try.prog 4 #[.int .i64 most, .int .i64 more] w fun e w' => e = .returned (.bool true) ∧ Below w.heap.size w w' := by
  by_cases hr : 0 ≤ most ∧ most ≤ 1000 ∧ 1 ≤ more ∧ more ≤ 5
  · obtain ⟨a1, a2, a3, a4⟩ := hr
    obtain ⟨M, rfl⟩ : ∃ M : Nat, most = M := ⟨most.toNat, by omega⟩
    obtain ⟨R, rfl⟩ : ∃ R : Nat, more = R := ⟨more.toNat, by omega⟩
    go_enter Try.func4, Try.ntmps4
    go_wp2_with fail
    refine (alive15 _).mono ?_
    rintro e w1 ⟨rfl, k1⟩
    have K1 := Lib.hid k1
    have B1 := k1.size
    clear k1
    go_wp2_with fail
    refine (heap_New _ _ a1 a2).mono ?_
    rintro e w2 ⟨g, r, v, b, rfl, hP, k2⟩
    have HP := Lib.hid hP
    have K2 := Lib.hid (Kept.trans K1.out k2)
    have B2 := k2.size
    clear hP k2
    go_wp2_with fail
    have hF0 : FullOf [⟨b, .slice none 0 0, memErr, []⟩] 0 := ⟨rfl, fun x hx => by (obtain rfl : x = _ := by simpa using hx); simp [memErr]⟩
    have HF0 := Lib.hid hF0
    clear hF0
    go_loopw [8] (fun s8 wr => ∃ k : Nat, k ≤ M ∧ s8 = .int .i64 k ∧ (∃ its v, IsHp w1.heap.size wr (.pointer (some ⟨g, 0, none⟩)) M its g r v ∧ FullOf its k) ∧ Below w1.heap.size w2 wr) (fun s8 _ => M - (intOf s8).toNat)
    case atStart => exact ⟨0, by omega, rfl, ⟨_, _, HP.out, HF0.out⟩, Below.refl _ _⟩
    case round =>
      obtain ⟨k, hk, rfl, ⟨its, vk, hPk, hFk⟩, hB⟩ := hrel
      have HPK := Lib.hid hPk
      have HFK := Lib.hid hFk
      have HB := Lib.hid hB
      have hl := hFk.len
      have hl1 : its.length ≤ k + 1 := by omega
      have hl2 : k + 1 ≤ its.length := by omega
      clear hPk hFk hB hl
      by_cases hlt : k < M
      · have C := heap_Make w1.heap.size wr _ M its g r vk ⟨#[65]⟩ _ [] HPK.out Rd.nil (by simp) (by omega) (by omega) (by omega) (Nat.le_trans B2 HB.out.size)
        have hle : ((its.length : Int) + 1) = (k : Int) + 2 := by omega
        rw [hle] at C
        clear hle
        go_wp2_with fail
        refine C.mono ?_
        rintro e w3 ⟨rfl, x, v3, hx1, hx2, hP3, hT3, -⟩
        have hF3 := HFK.out.snoc (x := x) (by rw [hx1]; simp)
        have hB3 := HPK.out.below_row hT3 (Nat.le_trans B2 HB.out.size)
        have HP3 := Lib.hid hP3
        have HF3 := Lib.hid hF3
        have HB3 := Lib.hid hB3
        clear C hP3 hF3 hB3 hT3 hx1 hx2
        go_wp2_with fail
        refine (law15_num _ _).mono ?_
        rintro e w4 ⟨rfl, rfl⟩
        go_wp2_with fail
        go_roundw
        case rel => exact ⟨k + 1, by omega, by go_num, ⟨_, _, HP3.out, HF3.out⟩, Below.trans HB.out HB3.out⟩
        case measure => simp [intOf]; omega
      · obtain rfl : k = M := by omega
        have KR := Lib.hid (Below.trans K2.out (HB.out.mono K1.out.size))
        have BR : w1.heap.size ≤ wr.heap.size := Nat.le_trans B2 HB.out.size
        go_wp2_with fail
        obtain ⟨wo, rfl⟩ : ∃ wo : World, wo = wr := ⟨_, rfl⟩
        go_loopw [11] (fun s11 wr => ∃ j : Nat, j ≤ R ∧ s11 = .int .i64 j ∧ Kept wo wr) (fun s11 _ => R - (intOf s11).toNat)
        case atStart => exact ⟨0, by omega, rfl, Below.refl _ _⟩
        case round =>
          obtain ⟨j, hj, rfl, hKj⟩ := hrel
          have HKJ := Lib.hid hKj
          clear hKj
          by_cases hlt : j < R
          · have C := heap_Make_full w1.heap.size wr _ k its g r vk ⟨#[65]⟩ none 0 0 (HPK.out.kept HKJ.out) (by omega) (by omega) (by omega) (by omega)
            go_wp2_with fail
            refine C.mono ?_
            rintro e w3 ⟨rfl, m3, hw3⟩
            have k3 := Lib.hid (show Kept wo w3 by rw [hw3]; exact kept_drewN HKJ.out m3)
            clear C hw3
            go_wp2_with fail
            refine (law15_num _ _).mono ?_
            rintro e w4 ⟨rfl, rfl⟩
            go_wp2_with fail
            go_roundw
            case rel => exact ⟨j + 1, by omega, by go_num, k3.out⟩
            case measure => simp [intOf]; omega
          · have HPJ := Lib.hid (HPK.out.kept HKJ.out)
            have C1 := heap_Count w1.heap.size wr _ k its g r vk HPJ.out (by omega) (by omega)
            obtain ⟨x, hx⟩ : ∃ x, its[k]? = some x := ⟨_, List.getElem?_eq_getElem (by omega)⟩
            have hne0 := HFK.out.cls x (List.mem_of_getElem? hx)
            have hne : x.cls.toList.isEmpty = false := by simpa using hne0
            have hne2 : (!x.cls.toList.isEmpty) = true := by simpa using hne0
            clear hne0
            have hle : ((its.length : Int) - 1) = (k : Int) := by omega
            rw [hle] at C1
            have HX := Lib.hid hx
            clear hle hx
            go_wp2_with fail
            refine C1.mono ?_
            rintro e w3 ⟨rfl, m3, hw3⟩
            have k3 := Lib.hid (show Kept wr w3 by rw [hw3]; exact kept_drewN (Below.refl _ _) m3)
            clear C1 hw3
            go_wp2_with fail
            refine (heap_Class w1.heap.size w3 _ k its g r vk k x (HPJ.out.kept k3.out) (by omega) HX.out).mono ?_
            rintro e w4 ⟨rfl, m4, hw4⟩
            have k4 := Lib.hid (show Kept wr w4 by rw [hw4]; exact kept_drewN k3.out m4)
            clear hw4
            go_wp2_with fail
            refine (heap_Class_no w1.heap.size w4 _ k its g r vk _ (HPJ.out.kept k4.out) (by omega) (by omega)).mono ?_
            rintro e w5 ⟨rfl, m5, hw5⟩
            have k5 := Lib.hid (show Kept wr w5 by rw [hw5]; exact kept_drewN k4.out m5)
            clear hw5
            go_wp2_with fail
            go_ret
            exact ⟨rfl, Below.trans KR.out ((Below.trans HKJ.out (k5.out.mono HKJ.out.size)).mono KR.out.size)⟩
  · rcases (by omega : most < 0 ∨ (0 ≤ most ∧ 1000 < most) ∨ (0 ≤ most ∧ most ≤ 1000 ∧ more < 1) ∨ (0 ≤ most ∧ most ≤ 1000 ∧ 1 ≤ more ∧ 5 < more)) with h | ⟨h0, h⟩ | ⟨h0, h1, h⟩ | ⟨h0, h1, h2, h⟩
    all_goals
      clear hr
      go_enter Try.func4, Try.ntmps4
      go_wp2_with (go_at_call 16; ((with_reducible refine (alive15 _).mono ?_); rintro e w1 ⟨rfl, k1⟩))
      go_ret
      exact ⟨rfl, k1⟩
end Go.Proofs.Ytjdldgpkcfigiaa
