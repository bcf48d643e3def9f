/-
  Chapter 2's laws on bytes and lengths, walked.
-/
import Derived.Test.YtdgpnfjneioahaaDesc6
namespace Go.Proofs.Ytdgpnfjneioahaa
open Go.RowKit
set_option maxRecDepth 100000

def prB (n : Nat) : Bool := decide (33 ≤ n) && decide (n ≤ 126) && (n != 46) && (n != 59) && (n != 91)
theorem byte_facts : ∀ n < 256, clsB [97, UInt8.ofNat n, 98] = prB n ∧ memB [97, UInt8.ofNat n, 98] = (prB n && (n != 47) && (n != 60) && (n != 62)) := by decide +kernel
def repA (n : Nat) : List UInt8 := List.replicate n 97
theorem long_facts : ∀ n < 301, 1 ≤ n → clsB (repA n) = decide ((n : Int) ≤ 255) ∧ memB (repA n) = decide ((n : Int) ≤ 255) ∧ fldB (76 :: (repA n ++ [59])) = decide ((n : Int) ≤ 253) ∧ (kindsL (40 :: 76 :: (repA n ++ [59, 41, 86]))).isSome = decide ((n : Int) ≤ 250) := by decide +kernel
theorem resK_form (k : Option (List UInt8 × List UInt8)) : ∃ A R, resK k = .tuple #[.string A, .string R, .bool k.isSome] := by
  cases k with
  | none => exact ⟨_, _, rfl⟩
  | some x => exact ⟨_, _, rfl⟩
theorem rep_next (k : Nat) : (⟨(repA k).toArray⟩ : ByteArray) ++ ⟨#[97]⟩ = ⟨(repA (k + 1)).toArray⟩ := by
  apply bytes_eq
  simp only [ByteArray.data_append, Array.toList_append, repA, List.replicate_succ']
theorem app_list (a : ByteArray) (x y : List UInt8) : ((⟨x.toArray⟩ : ByteArray) ++ a ++ ⟨y.toArray⟩).data.toList = x ++ a.data.toList ++ y := by
  simp only [ByteArray.data_append, Array.toList_append]
theorem size_mk_ (l : List UInt8) : (⟨l.toArray⟩ : ByteArray).size = l.length := by simp [ByteArray.size]

set_option maxHeartbeats 2000000 in
theorem walk_DescLong (n : Int) (w : World) (hwf : (Lit.int .i64 n).wf = true) :
    Calls Try.prog 4 #[.int .i64 n] w fun e w' => e = .returned (.bool true) ∧ Below w.heap.size w w' := by
  go_enter Try.func4, Try.ntmps4
  go_wp2_with fail
  refine (alive2 _).mono ?_
  rintro e w1 ⟨rfl, k1⟩
  have K1 := Lib.hid k1
  clear k1
  by_cases h1 : n < 1
  · go_wp2_with fail
    go_ret
    exact ⟨rfl, K1.out⟩
  by_cases h2 : n > 300
  · go_wp2_with fail
    go_ret
    exact ⟨rfl, K1.out⟩
  obtain ⟨N, rfl⟩ : ∃ N : Nat, n = N := ⟨n.toNat, by omega⟩
  have hN1 : 1 ≤ N := by omega
  have hN2 : N ≤ 300 := by omega
  clear hwf
  go_wp2_with fail
  go_loop [4, 5] (fun s4 s5 => ∃ k : Nat, k ≤ N ∧ s4 = .string ⟨(repA k).toArray⟩ ∧ s5 = .int .i64 k) (fun _ s5 => N - (intOf s5).toNat)
  case atStart => exact ⟨0, by omega, rfl, rfl⟩
  case round =>
    obtain ⟨k, hk, rfl, rfl⟩ := hrel
    have hkz : (⟨(repA k).toArray⟩ : ByteArray).size = k := by rw [size_mk_]; simp [repA]
    by_cases hlt : k < N
    · have hltI : (k : Int) < (N : Int) := by omega
      have HR := Lib.hid (rep_next k)
      obtain ⟨S, hS⟩ : ∃ S, S = (⟨(repA k).toArray⟩ : ByteArray) := ⟨_, rfl⟩
      rw [← hS] at hkz HR ⊢
      clear hS
      have HKZ := Lib.hid hkz
      have hkz' : S.size ≤ 300 := by omega
      clear hkz
      go_wp2_with fail
      go_round
      case rel => exact ⟨k + 1, by omega, by rw [← HR.out], by go_num⟩
      case measure => simp [intOf]; omega
    · obtain rfl : k = N := by omega
      obtain ⟨f1, f2, f3, f4⟩ := long_facts k (by omega) hN1
      obtain ⟨S, hS⟩ : ∃ S, S = (⟨(repA k).toArray⟩ : ByteArray) := ⟨_, rfl⟩
      rw [← hS] at hkz ⊢
      have hSl : S.data.toList = repA k := by rw [hS]
      have hltI : ¬ (k : Int) < (k : Int) := by omega
      obtain ⟨A, R, hr⟩ := resK_form (kindsL (40 :: 76 :: (repA k ++ [59, 41, 86])))
      rw [f4] at hr
      have C1 : ∀ W, Calls Try.prog 8 #[.string ((⟨#[40, 76]⟩ : ByteArray) ++ S ++ ⟨#[59, 41, 86]⟩)] W _ := fun W => desc_Kinds _ W (by rw [ByteArray.size_append, ByteArray.size_append, hkz]; unfold maxLen; show 2 + k + 3 ≤ _; omega)
      have C2 := fun W => desc_Class S W (by rw [hkz]; unfold maxLen; omega)
      have C3 := fun W => desc_Member S W (by rw [hkz]; unfold maxLen; omega)
      have C4 : ∀ W, Calls Try.prog 10 #[.string ((⟨#[76]⟩ : ByteArray) ++ S ++ ⟨#[59]⟩)] W _ := fun W => desc_Field _ W (by rw [ByteArray.size_append, ByteArray.size_append, hkz]; unfold maxLen; show 1 + k + 1 ≤ _; omega)
      have e1 : ((⟨#[40, 76]⟩ : ByteArray) ++ S ++ ⟨#[59, 41, 86]⟩).data.toList = 40 :: 76 :: (repA k ++ [59, 41, 86]) := by rw [← hSl]; simp [ByteArray.data_append]
      have e4 : ((⟨#[76]⟩ : ByteArray) ++ S ++ ⟨#[59]⟩).data.toList = 76 :: (repA k ++ [59]) := by rw [← hSl]; simp [ByteArray.data_append]
      rw [e1, hr] at C1
      rw [hSl, f1] at C2
      rw [hSl, f2] at C3
      rw [e4, f3] at C4
      have hkz' : S.size ≤ 300 := by omega
      clear hS hSl f1 f2 f3 f4 hr e1 e4 hkz
      go_wp2_with fail
      refine (C1 _).mono ?_
      rintro e w2 ⟨rfl, k2⟩
      have K2 := Lib.hid (Kept.trans K1.out k2)
      clear k2 C1
      go_wp2_with fail
      refine (C2 _).mono ?_
      rintro e w3 ⟨rfl, k3⟩
      have K3 := Lib.hid (Kept.trans K2.out k3)
      clear k3 C2
      go_wp2_with fail
      refine (C3 _).mono ?_
      rintro e w4 ⟨rfl, k4⟩
      have K4 := Lib.hid (Kept.trans K3.out k4)
      clear k4 C3
      go_wp2_with fail
      refine (C4 _).mono ?_
      rintro e w5 ⟨rfl, k5⟩
      have K5 := Lib.hid (Kept.trans K4.out k5)
      clear k5 C4
      go_wp2_with fail
      go_ret
      exact ⟨rfl, K5.out⟩
end Go.Proofs.Ytdgpnfjneioahaa
