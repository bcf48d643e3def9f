/-
  Chapter 2's laws, walked.
-/
import Derived.Test.YtdgpnfjneioahaaDescP
namespace Go.Proofs.Ytdgpnfjneioahaa
open Go.RowKit
set_option maxRecDepth 100000

def aliveS : ByteArray := ⟨#[40, 73, 76, 97, 47, 66, 59, 41, 86]⟩
def aliveC : ByteArray := ⟨#[97, 47, 66, 36, 49]⟩
def objS : ByteArray := ⟨#[106, 97, 118, 97, 47, 108, 97, 110, 103, 47, 79, 98, 106, 101, 99, 116]⟩
theorem alive2_facts : kindsL aliveS.data.toList = some ([73, 76], [86]) ∧ clsB aliveC.data.toList = true ∧ pkgOf objS = ⟨#[106, 97, 118, 97, 47, 108, 97, 110, 103]⟩ := by
  refine ⟨by decide +kernel, by decide +kernel, by decide +kernel⟩

set_option maxHeartbeats 1000000 in
theorem alive2 (w : World) : Calls Try.prog 7 #[] w fun e w' => e = .returned (.bool true) ∧ Kept w w' := by
  obtain ⟨f1, f2, f3⟩ := alive2_facts
  have C1 := desc_Kinds aliveS w (by decide)
  have C2 := fun W => desc_Class aliveC W (by decide)
  have C3 := fun W => desc_Package objS W (by decide)
  rw [f1] at C1
  rw [f2] at C2
  rw [f3] at C3
  clear f1 f2 f3
  go_enter Try.func7, Try.ntmps7
  go_wp2_with fail
  refine C1.mono ?_
  rintro e w1 ⟨rfl, k1⟩
  clear C1
  unfold resK
  dsimp only
  have K1 := Lib.hid k1
  clear k1
  go_wp2_with fail
  refine (C2 _).mono ?_
  rintro e w2 ⟨rfl, k2⟩
  have K2 := Lib.hid (Kept.trans K1.out k2)
  clear k2
  go_wp2_with fail
  refine (C3 _).mono ?_
  rintro e w3 ⟨rfl, rfl⟩
  go_wp2_with fail
  go_ret
  exact ⟨rfl, K2.out⟩

set_option maxHeartbeats 2000000 in
theorem walk_DescNames (s : ByteArray) (w : World) (hs : s.size ≤ maxLen) :
    Calls Try.prog 6 #[.string s] w fun e w' => e = .returned (.bool true) ∧ Below w.heap.size w w' := by
  have HS := Lib.hid hs
  unfold maxLen at hs
  have C1 := fun W => desc_Class s W HS.out
  have C2 := fun W => ref2_Class s W HS.out
  have C3 := fun W => desc_Member s W HS.out
  have C4 := fun W => ref2_Member s W HS.out
  have C5 := fun W => desc_Method s W HS.out
  have C6 := fun W => ref2_Method s W HS.out
  obtain ⟨b1, hb1⟩ : ∃ b, b = clsB s.data.toList := ⟨_, rfl⟩
  obtain ⟨b2, hb2⟩ : ∃ b, b = memB s.data.toList := ⟨_, rfl⟩
  obtain ⟨b3, hb3⟩ : ∃ b, b = metB s.data.toList := ⟨_, rfl⟩
  rw [← hb1] at C1 C2
  rw [← hb2] at C3 C4
  rw [← hb3] at C5 C6
  clear hb1 hb2 hb3
  go_enter Try.func6, Try.ntmps6
  go_wp2_with fail
  refine (alive2 _).mono ?_
  rintro e w1 ⟨rfl, k1⟩
  have K1 := Lib.hid k1
  clear k1
  by_cases h1 : 2000 < s.size
  · have h1' : 2000 < (s.size : Int) := by omega
    go_wp2_with fail
    go_ret
    exact ⟨rfl, K1.out⟩
  have h1' : ¬ 2000 < (s.size : Int) := by omega
  go_wp2_with fail
  refine (C1 _).mono ?_
  rintro e w2 ⟨rfl, k2⟩
  have K2 := Lib.hid (Kept.trans K1.out k2)
  clear k2
  go_wp2_with fail
  refine (C2 _).mono ?_
  rintro e w3 ⟨rfl, k3⟩
  have K3 := Lib.hid (Kept.trans K2.out k3)
  clear k3
  go_wp2_with fail
  refine (C3 _).mono ?_
  rintro e w4 ⟨rfl, k4⟩
  have K4 := Lib.hid (Kept.trans K3.out k4)
  clear k4
  go_wp2_with fail
  refine (C4 _).mono ?_
  rintro e w5 ⟨rfl, k5⟩
  have K5 := Lib.hid (Kept.trans K4.out k5)
  clear k5
  go_wp2_with fail
  refine (C5 _).mono ?_
  rintro e w6 ⟨rfl, k6⟩
  have K6 := Lib.hid (Kept.trans K5.out k6)
  clear k6
  go_wp2_with fail
  refine (C6 _).mono ?_
  rintro e w7 ⟨rfl, k7⟩
  have K7 := Lib.hid (Kept.trans K6.out k7)
  clear k7
  go_wp2_with fail
  refine (desc_Package s _ HS.out).mono ?_
  rintro e w8 ⟨rfl, rfl⟩
  go_wp2_with fail
  refine (ref2_Package s _ HS.out).mono ?_
  rintro e w8 ⟨rfl, rfl⟩
  go_wp2_with fail
  go_ret
  exact ⟨rfl, K7.out⟩

set_option maxHeartbeats 2000000 in
theorem walk_DescKinds (s : ByteArray) (w : World) (hs : s.size ≤ maxLen) :
    Calls Try.prog 3 #[.string s] w fun e w' => e = .returned (.bool true) ∧ Below w.heap.size w w' := by
  have HS := Lib.hid hs
  unfold maxLen at hs
  have C1 := fun W => desc_Kinds s W HS.out
  have C2 := fun W => ref2_Kinds s W HS.out
  have C3 := fun W => desc_Field s W HS.out
  have C4 := fun W => ref2_Field s W HS.out
  obtain ⟨b1, hb1⟩ : ∃ b, b = fldB s.data.toList := ⟨_, rfl⟩
  rw [← hb1] at C3 C4
  clear hb1
  obtain ⟨A, R, ok, hr⟩ : ∃ A R ok, resK (kindsL s.data.toList) = .tuple #[.string A, .string R, .bool ok] := by
    cases kindsL s.data.toList with
    | none => exact ⟨_, _, _, rfl⟩
    | some x => exact ⟨_, _, _, rfl⟩
  rw [hr] at C1 C2
  clear hr
  go_enter Try.func3, Try.ntmps3
  go_wp2_with fail
  refine (alive2 _).mono ?_
  rintro e w1 ⟨rfl, k1⟩
  have K1 := Lib.hid k1
  clear k1
  by_cases h1 : 2000 < s.size
  · have h1' : 2000 < (s.size : Int) := by omega
    go_wp2_with fail
    go_ret
    exact ⟨rfl, K1.out⟩
  have h1' : ¬ 2000 < (s.size : Int) := by omega
  go_wp2_with fail
  refine (C1 _).mono ?_
  rintro e w2 ⟨rfl, k2⟩
  have K2 := Lib.hid (Kept.trans K1.out k2)
  clear k2
  go_wp2_with fail
  refine (C2 _).mono ?_
  rintro e w3 ⟨rfl, k3⟩
  have K3 := Lib.hid (Kept.trans K2.out k3)
  clear k3
  go_wp2_with fail
  refine (C3 _).mono ?_
  rintro e w4 ⟨rfl, k4⟩
  have K4 := Lib.hid (Kept.trans K3.out k4)
  clear k4
  go_wp2_with fail
  refine (C4 _).mono ?_
  rintro e w5 ⟨rfl, k5⟩
  have K5 := Lib.hid (Kept.trans K4.out k5)
  clear k5
  go_wp2_with fail
  go_ret
  exact ⟨rfl, K5.out⟩
end Go.Proofs.Ytdgpnfjneioahaa
