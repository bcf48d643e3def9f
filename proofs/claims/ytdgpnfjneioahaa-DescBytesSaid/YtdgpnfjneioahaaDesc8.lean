/-
  Chapter 2's law on bytes, walked.
-/
import Derived.Test.YtdgpnfjneioahaaDesc7
import Derived.Laws.IdiomStrings
namespace Go.Proofs.Ytdgpnfjneioahaa
open Go.RowKit
set_option maxRecDepth 100000

theorem u8_wrap (c : Int) : ∃ n : Nat, n < 256 ∧ IntKind.u8.wrap c = (n : Int) := by
  refine ⟨(IntKind.u8.wrap c).toNat, ?_, ?_⟩ <;> simp [IntKind.wrap, IntKind.signed, IntKind.bits] <;> omega
set_option maxHeartbeats 1000000 in
theorem walk_DescBytes (c : Int) (w : World) (hwf : (Lit.int .i64 c).wf = true) :
    Calls Try.prog 5 #[.int .i64 c] w fun e w' => e = .returned (.bool true) ∧ Below w.heap.size w w' := by
  obtain ⟨n, hn, hw⟩ := u8_wrap c
  go_enter Try.func5, Try.ntmps5
  go_wp2_with fail
  refine (alive2 _).mono ?_
  rintro e w1 ⟨rfl, k1⟩
  have K1 := Lib.hid k1
  clear k1
  obtain ⟨S, hS⟩ : ∃ S : ByteArray, S = ⟨#[UInt8.ofNat n]⟩ := ⟨_, rfl⟩
  have hcv : (convert 27 9 (.slice (some ⟨w1.heap.size, 0, none⟩) 1 1)).run Try.prog (w1.alloc (.cells #[.int .u8 (n : Int)] 5)) = .ok (.string S) (w1.alloc (.cells #[.int .u8 (n : Int)] 5)) := by
    rw [hS]
    refine run_convert_bytes_back (l := [UInt8.ofNat n]) _ _ _ _ _ _ Try.underlying27 Try.underlying5 Try.underlying9 ?_
    intro j hj
    obtain rfl : j = 0 := by simpa using hj
    have ht : (UInt8.ofNat n).toNat = n := by rw [UInt8.toNat_ofNat']; omega
    simp [Addr.add, ht]
  have k2 : Kept w (w1.alloc (.cells #[.int .u8 (n : Int)] 5)) := Kept.trans K1.out ((Below.refl _ _).alloc (Nat.le_refl _) _)
  have hSz1 : S.size ≤ 1 := by rw [hS]; exact Nat.le_refl 1
  have HS := Lib.hid hS
  clear hS
  go_upto_region 4 with fail
  clear hcv
  have hS := HS.out
  clear HS
  generalize (w1.alloc (.cells #[.int .u8 (n : Int)] 5)) = w2 at *
  have K2 := Lib.hid k2
  obtain ⟨f1, f2⟩ := byte_facts n hn
  have e1 : ((⟨#[97]⟩ : ByteArray) ++ S ++ ⟨#[98]⟩).data.toList = [97, UInt8.ofNat n, 98] := by rw [hS]; simp [ByteArray.data_append]
  have hSz : S.size = 1 := by rw [hS]; rfl
  have C1 : ∀ W, Calls Try.prog 12 #[.string ((⟨#[97]⟩ : ByteArray) ++ S ++ ⟨#[98]⟩)] W _ := fun W => desc_Class _ W (by rw [ByteArray.size_append, ByteArray.size_append, hSz]; decide)
  have C2 : ∀ W, Calls Try.prog 13 #[.string ((⟨#[97]⟩ : ByteArray) ++ S ++ ⟨#[98]⟩)] W _ := fun W => desc_Member _ W (by rw [ByteArray.size_append, ByteArray.size_append, hSz]; decide)
  rw [e1, f1] at C1
  rw [e1, f2] at C2
  have HF := Lib.hid (show prB n = (decide (33 ≤ n) && decide (n ≤ 126) && (n != 46) && (n != 59) && (n != 91)) from rfl)
  clear k2 f1 f2 e1 hw hS hSz
  by_cases t0 : 33 ≤ n
  case neg =>
    have i0 : ¬ (33 ≤ (n : Int)) := by omega
    have HP := Lib.hid (show prB n = false by rw [HF.out]; simp [t0])
    rw [show prB n = false from HP.out] at C1 C2
    clear HP HF
    simp only [Bool.false_and] at C2
    go_wp2_with fail
    refine (C1 _).mono ?_
    rintro e w3 ⟨rfl, k3⟩
    have K3 := Lib.hid (Kept.trans K2.out k3)
    clear k3 C1
    go_wp2_with fail
    refine (C2 _).mono ?_
    rintro e w4 ⟨rfl, k4⟩
    have K4 := Lib.hid (Kept.trans K3.out k4)
    clear k4 C2
    go_wp2_with fail
    go_ret
    exact ⟨rfl, K4.out⟩
  have i0 : 33 ≤ (n : Int) := by omega
  by_cases t1 : n ≤ 126
  case neg =>
    have i1 : ¬ ((n : Int) ≤ 126) := by omega
    have HP := Lib.hid (show prB n = false by rw [HF.out]; simp [t1])
    rw [show prB n = false from HP.out] at C1 C2
    clear HP HF
    simp only [Bool.false_and] at C2
    go_wp2_with fail
    refine (C1 _).mono ?_
    rintro e w3 ⟨rfl, k3⟩
    have K3 := Lib.hid (Kept.trans K2.out k3)
    clear k3 C1
    go_wp2_with fail
    refine (C2 _).mono ?_
    rintro e w4 ⟨rfl, k4⟩
    have K4 := Lib.hid (Kept.trans K3.out k4)
    clear k4 C2
    go_wp2_with fail
    go_ret
    exact ⟨rfl, K4.out⟩
  have i1 : (n : Int) ≤ 126 := by omega
  by_cases t2 : n = 46
  case pos =>
    have i2 : ((n : Int) == 46) = true := by simp; omega
    have j2 : ((n : Int) != 46) = false := by unfold bne; rw [i2]; rfl
    have HP := Lib.hid (show prB n = false by rw [HF.out]; simp [t2])
    rw [show prB n = false from HP.out] at C1 C2
    clear HP HF
    simp only [Bool.false_and] at C2
    go_wp2_with fail
    refine (C1 _).mono ?_
    rintro e w3 ⟨rfl, k3⟩
    have K3 := Lib.hid (Kept.trans K2.out k3)
    clear k3 C1
    go_wp2_with fail
    refine (C2 _).mono ?_
    rintro e w4 ⟨rfl, k4⟩
    have K4 := Lib.hid (Kept.trans K3.out k4)
    clear k4 C2
    go_wp2_with fail
    go_ret
    exact ⟨rfl, K4.out⟩
  have i2 : ((n : Int) == 46) = false := by simp; omega
  have j2 : ((n : Int) != 46) = true := by unfold bne; rw [i2]; rfl
  by_cases t3 : n = 59
  case pos =>
    have i3 : ((n : Int) == 59) = true := by simp; omega
    have j3 : ((n : Int) != 59) = false := by unfold bne; rw [i3]; rfl
    have HP := Lib.hid (show prB n = false by rw [HF.out]; simp [t3])
    rw [show prB n = false from HP.out] at C1 C2
    clear HP HF
    simp only [Bool.false_and] at C2
    go_wp2_with fail
    refine (C1 _).mono ?_
    rintro e w3 ⟨rfl, k3⟩
    have K3 := Lib.hid (Kept.trans K2.out k3)
    clear k3 C1
    go_wp2_with fail
    refine (C2 _).mono ?_
    rintro e w4 ⟨rfl, k4⟩
    have K4 := Lib.hid (Kept.trans K3.out k4)
    clear k4 C2
    go_wp2_with fail
    go_ret
    exact ⟨rfl, K4.out⟩
  have i3 : ((n : Int) == 59) = false := by simp; omega
  have j3 : ((n : Int) != 59) = true := by unfold bne; rw [i3]; rfl
  by_cases t4 : n = 91
  case pos =>
    have i4 : ((n : Int) == 91) = true := by simp; omega
    have j4 : ((n : Int) != 91) = false := by unfold bne; rw [i4]; rfl
    have HP := Lib.hid (show prB n = false by rw [HF.out]; simp [t4])
    rw [show prB n = false from HP.out] at C1 C2
    clear HP HF
    simp only [Bool.false_and] at C2
    go_wp2_with fail
    refine (C1 _).mono ?_
    rintro e w3 ⟨rfl, k3⟩
    have K3 := Lib.hid (Kept.trans K2.out k3)
    clear k3 C1
    go_wp2_with fail
    refine (C2 _).mono ?_
    rintro e w4 ⟨rfl, k4⟩
    have K4 := Lib.hid (Kept.trans K3.out k4)
    clear k4 C2
    go_wp2_with fail
    go_ret
    exact ⟨rfl, K4.out⟩
  have i4 : ((n : Int) == 91) = false := by simp; omega
  have j4 : ((n : Int) != 91) = true := by unfold bne; rw [i4]; rfl
  have HP := Lib.hid (show prB n = true by rw [HF.out]; simp [t0, t1, t2, t3, t4])
  by_cases m0 : n = 47
  · have i10 : ((n : Int) == 47) = true := by simp; omega
    have j10 : ((n : Int) != 47) = false := by unfold bne; rw [i10]; rfl
    have HM := Lib.hid (show (true && (n != 47) && (n != 60) && (n != 62)) = false by simp [m0])
    rw [show prB n = true from HP.out] at C1 C2
    clear HP HF
    rw [HM.out] at C2
    clear HM
    go_wp2_with fail
    refine (C1 _).mono ?_
    rintro e w3 ⟨rfl, k3⟩
    have K3 := Lib.hid (Kept.trans K2.out k3)
    clear k3 C1
    go_wp2_with fail
    refine (C2 _).mono ?_
    rintro e w4 ⟨rfl, k4⟩
    have K4 := Lib.hid (Kept.trans K3.out k4)
    clear k4 C2
    go_wp2_with fail
    go_ret
    exact ⟨rfl, K4.out⟩
  have i10 : ((n : Int) == 47) = false := by simp; omega
  have j10 : ((n : Int) != 47) = true := by unfold bne; rw [i10]; rfl
  by_cases m1 : n = 60
  · have i11 : ((n : Int) == 60) = true := by simp; omega
    have j11 : ((n : Int) != 60) = false := by unfold bne; rw [i11]; rfl
    have HM := Lib.hid (show (true && (n != 47) && (n != 60) && (n != 62)) = false by simp [m1])
    rw [show prB n = true from HP.out] at C1 C2
    clear HP HF
    rw [HM.out] at C2
    clear HM
    go_wp2_with fail
    refine (C1 _).mono ?_
    rintro e w3 ⟨rfl, k3⟩
    have K3 := Lib.hid (Kept.trans K2.out k3)
    clear k3 C1
    go_wp2_with fail
    refine (C2 _).mono ?_
    rintro e w4 ⟨rfl, k4⟩
    have K4 := Lib.hid (Kept.trans K3.out k4)
    clear k4 C2
    go_wp2_with fail
    go_ret
    exact ⟨rfl, K4.out⟩
  have i11 : ((n : Int) == 60) = false := by simp; omega
  have j11 : ((n : Int) != 60) = true := by unfold bne; rw [i11]; rfl
  by_cases m2 : n = 62
  · have i12 : ((n : Int) == 62) = true := by simp; omega
    have j12 : ((n : Int) != 62) = false := by unfold bne; rw [i12]; rfl
    have HM := Lib.hid (show (true && (n != 47) && (n != 60) && (n != 62)) = false by simp [m2])
    rw [show prB n = true from HP.out] at C1 C2
    clear HP HF
    rw [HM.out] at C2
    clear HM
    go_wp2_with fail
    refine (C1 _).mono ?_
    rintro e w3 ⟨rfl, k3⟩
    have K3 := Lib.hid (Kept.trans K2.out k3)
    clear k3 C1
    go_wp2_with fail
    refine (C2 _).mono ?_
    rintro e w4 ⟨rfl, k4⟩
    have K4 := Lib.hid (Kept.trans K3.out k4)
    clear k4 C2
    go_wp2_with fail
    go_ret
    exact ⟨rfl, K4.out⟩
  have i12 : ((n : Int) == 62) = false := by simp; omega
  have j12 : ((n : Int) != 62) = true := by unfold bne; rw [i12]; rfl
  have HM := Lib.hid (show (true && (n != 47) && (n != 60) && (n != 62)) = true by simp [m0, m1, m2])
  rw [show prB n = true from HP.out] at C1 C2
  clear HP HF
  rw [HM.out] at C2
  clear HM
  go_wp2_with fail
  refine (C1 _).mono ?_
  rintro e w3 ⟨rfl, k3⟩
  have K3 := Lib.hid (Kept.trans K2.out k3)
  clear k3 C1
  go_wp2_with fail
  refine (C2 _).mono ?_
  rintro e w4 ⟨rfl, k4⟩
  have K4 := Lib.hid (Kept.trans K3.out k4)
  clear k4 C2
  go_wp2_with fail
  go_ret
  exact ⟨rfl, K4.out⟩
end Go.Proofs.Ytdgpnfjneioahaa
