/-
  Chapter 7's law CoreNames, walked.
-/
import Derived.Test.YtmpnieokgeomcaaCoreRef
namespace Go.Proofs.Ytmpnieokgeomcaa
open Go.RowKit
set_option maxRecDepth 100000

theorem its_name {its : List (TyC × Value)} (h : its.map (·.1) = types26) {k : Nat} {x : TyC × Value} (hx : its[k]? = some x) : names26[k]? = some x.1.name := by
  rw [← types26_names, ← h, List.map_map, List.getElem?_map, hx]
  rfl
theorem its_len {its : List (TyC × Value)} (h : its.map (·.1) = types26) : its.length = 26 := by
  have := congrArg List.length h
  rw [List.length_map, types26_len] at this
  exact this

theorem ref7_Is (s : ByteArray) (w : World) : Calls Try.prog 7 #[.string s] w fun e w' => e = .returned (.bool (isNm s)) ∧ Kept w w' := by
  go_enter Try.func7, Try.ntmps7
  go_wp2_with fail
  refine (ref7_Types w).mono ?_
  rintro e w1 ⟨v, its, rfl, hT, hm, k1⟩
  have hl := its_len hm
  have ho := hT.own
  rw [hl] at ho
  obtain ⟨g, c, rfl, hc1, hc2, -, -, hcell, -⟩ := own_form ho (by omega)
  have HM := Lib.hid hm
  have HC := Lib.hid hcell
  have K1 := Lib.hid k1
  have HL := Lib.hid hl
  clear hT hm k1 ho hcell hl
  go_wp2_with fail
  go_loopw [4] (fun s4 wr => ∃ k : Nat, k ≤ 26 ∧ s4 = .int .i64 k ∧ (∀ y ∈ names26.take k, y ≠ s) ∧ w1 = wr) (fun s4 _ => 26 - (intOf s4).toNat)
  case atStart => exact ⟨0, by omega, rfl, by simp, rfl⟩
  case round =>
    obtain ⟨k, hk, rfl, hn, rfl⟩ := hrel
    have HN := Lib.hid hn
    clear hn
    by_cases hlt : k < 26
    · obtain ⟨x, hx⟩ : ∃ x, its[k]? = some x := ⟨_, List.getElem?_eq_getElem (by have := HL.out; omega)⟩
      have z0 : w1.cell? ⟨g, k * 6, none⟩ = some (.string x.1.name) := HC.out _ _ (by have := flat_get encT 6 (fun _ => rfl) its k 0 x hx (by omega); simpa [encT] using this)
      have hnx := its_name HM.out hx
      obtain ⟨y, hy⟩ : ∃ y, y = x.1.name := ⟨_, rfl⟩
      rw [← hy] at z0 hnx
      have HNX := Lib.hid hnx
      clear hx hnx hy
      by_cases he : y = s
      · have hv := isNm_yes (s := s) (he ▸ List.mem_of_getElem? HNX.out)
        have HV := Lib.hid hv
        rw [he] at z0
        clear hv he
        go_wp2
        go_ret
        exact ⟨by rw [HV.out]; rfl, K1.out⟩
      · have hb := str_neq he
        have HE := Lib.hid he
        clear he
        go_wp2
        go_roundw
        case rel =>
          refine ⟨k + 1, by omega, by go_num, fun z hz => ?_, trivial⟩
          rw [List.take_add_one, HNX.out] at hz
          rcases List.mem_append.1 hz with hz | hz
          · exact HN.out z hz
          · obtain rfl : z = y := by simpa using hz
            exact HE.out
        case measure => simp [intOf]; omega
    · obtain rfl : k = 26 := by omega
      have hv := isNm_no (s := s) (fun y hy => HN.out y (by rw [List.take_of_length_le (by rw [names26_len]; omega)]; exact hy))
      have HV := Lib.hid hv
      clear hv
      go_wp2
      go_ret
      exact ⟨by rw [HV.out]; rfl, K1.out⟩

theorem nm_task : isNm taskB = true := isNm_yes (by simp [names26])
theorem nm_x : isNm ⟨#[106, 97, 118, 97, 47, 120]⟩ = false := by decide +kernel
theorem own_x : ownB ⟨#[106, 97, 118, 97, 47, 120]⟩ = true := by decide +kernel

theorem alive7 (w : World) : Calls Try.prog 5 #[] w fun e w' => e = .returned (.bool true) ∧ Kept w w' := by
  have C1 := Lib.hid (fun w => core_Is ⟨#[118, 109, 47, 84, 97, 115, 107]⟩ w)
  have e1 : isNm ⟨#[118, 109, 47, 84, 97, 115, 107]⟩ = true := nm_task
  have C2 := Lib.hid (fun w => core_Own ⟨#[106, 97, 118, 97, 47, 120]⟩ w (by unfold maxLen; decide))
  have C3 := Lib.hid (fun w => core_Is ⟨#[106, 97, 118, 97, 47, 120]⟩ w)
  rw [e1] at C1
  rw [own_x] at C2
  rw [nm_x] at C3
  clear e1
  go_enter Try.func5, Try.ntmps5
  go_wp2_with fail
  refine (C1.out _).mono ?_
  rintro e w1 ⟨rfl, k1⟩
  have K1 := Lib.hid k1
  clear k1
  go_wp2_with fail
  refine (C2.out _).mono ?_
  rintro e w2 ⟨rfl, rfl⟩
  go_wp2_with fail
  refine (C3.out _).mono ?_
  rintro e w3 ⟨rfl, k3⟩
  have K3 := Lib.hid (Kept.trans K1.out k3)
  clear k3
  go_wp2_with fail
  go_ret
  exact ⟨rfl, K3.out⟩

theorem walk_CoreNames (s : ByteArray) (w : World) (hs : s.size ≤ maxLen) : Calls Try.prog 3 #[.string s] w fun e w' => e = .returned (.bool true) ∧ Below w.heap.size w w' := by
  have C1 := Lib.hid (fun w => core_Is s w)
  have C2 := Lib.hid (fun w => ref7_Is s w)
  have C3 := Lib.hid (fun w => core_Own s w hs)
  have C4 := Lib.hid (fun w => ref7_Own s w hs)
  generalize isNm s = b1 at C1 C2
  generalize ownB s = b2 at C3 C4
  clear hs
  go_enter Try.func3, Try.ntmps3
  go_wp2_with fail
  refine (alive7 _).mono ?_
  rintro e w1 ⟨rfl, k1⟩
  have K1 := Lib.hid k1
  clear k1
  go_wp2_with fail
  refine (C1.out _).mono ?_
  rintro e w2 ⟨rfl, k2⟩
  have K2 := Lib.hid (Kept.trans K1.out k2)
  clear k2
  go_wp2_with fail
  refine (C2.out _).mono ?_
  rintro e w3 ⟨rfl, k3⟩
  have K3 := Lib.hid (Kept.trans K2.out k3)
  clear k3
  go_wp2_with fail
  refine (C3.out _).mono ?_
  rintro e w4 ⟨rfl, rfl⟩
  go_wp2_with fail
  refine (C4.out _).mono ?_
  rintro e w5 ⟨rfl, rfl⟩
  go_wp2_with fail
  go_ret
  exact ⟨by simp, K3.out⟩
end Go.Proofs.Ytmpnieokgeomcaa
