/-
  Names by contract: the document's own.
-/
import Derived.Test.YtcklmhbcjgiplaaDesc1
namespace Go.Proofs.Ytcklmhbcjgiplaa
set_option linter.unusedVariables false
set_option linter.unusedSimpArgs false
open Go.RowKit
set_option maxRecDepth 100000

theorem in_of_get {no : ByteArray} {c : UInt8} {k : Nat} (hk : k < no.size) (h : ((no[k]'hk).toNat : Int) = (c.toNat : Int)) : no.data.toList.contains c = true := by
  have h1 : no[k]'hk = c := by apply UInt8.toNat_inj.1; omega
  rw [List.contains_iff_mem]
  exact List.mem_of_getElem? (by rw [get_list_ no k hk, h1])
theorem notin_of_all {no : ByteArray} {c : UInt8} (h : ∀ (i : Nat) d, i < no.size → no.data.toList[i]? = some d → d ≠ c) : no.data.toList.contains c = false := by
  rw [Bool.eq_false_iff]
  intro hc
  rw [List.contains_iff_mem] at hc
  obtain ⟨i, hi⟩ := List.getElem?_of_mem hc
  exact h i c (by have := (List.getElem?_eq_some_iff.1 hi).1; simpa using this) hi rfl

set_option maxHeartbeats 2000000 in
theorem ref2_plain (s no : ByteArray) (w : World) (hs : s.size ≤ maxLen) (hno : no.size ≤ maxLen) :
    Calls Try.prog 96 #[.string s, .string no] w fun e w' => e = .returned (.bool (ltrB no.data.toList s.data.toList)) ∧ Kept w w' := by
  unfold maxLen at hs hno
  by_cases h0 : s.size < 1
  · have h0' : (s.size : Int) < 1 := by omega
    have HR := Lib.hid (show ltrB no.data.toList s.data.toList = false by
      have : s.data.toList = [] := by apply List.eq_nil_of_length_eq_zero; rw [size_list]; omega
      rw [this]; exact ltrB_nil _)
    go_enter Try.func96, Try.ntmps96
    go_wp2_with fail
    go_ret
    exact ⟨ret_bool HR.out.symm, Below.refl _ _⟩
  have h0' : ¬ (s.size : Int) < 1 := by omega
  by_cases h9 : 255 < s.size
  · have h9' : 255 < (s.size : Int) := by omega
    have HR := Lib.hid (show ltrB no.data.toList s.data.toList = false by
      unfold ltrB
      rw [decide_eq_false (p := s.data.toList.length ≤ 255) (by rw [size_list]; omega), Bool.and_false])
    go_enter Try.func96, Try.ntmps96
    go_wp2_with fail
    go_ret
    exact ⟨ret_bool HR.out.symm, Below.refl _ _⟩
  have h9' : ¬ 255 < (s.size : Int) := by omega
  go_enter Try.func96, Try.ntmps96
  go_wp2_with fail
  clear h0' h9'
  go_loopw [5] (fun s5 wr => ∃ j : Nat, j ≤ s.size ∧ s5 = .int .i64 j ∧ Kept w wr ∧ ∀ i c, i < j → s.data.toList[i]? = some c → okB no.data.toList c = true) (fun s5 _ => s.size - (intOf s5).toNat)
  case atStart => exact ⟨0, by omega, rfl, Below.refl _ _, fun i c h => by omega⟩
  case round =>
    obtain ⟨j, hj, rfl, hkr, hok⟩ := hrel
    have HOK := Lib.hid hok
    have KR := Lib.hid hkr
    clear hok hkr
    by_cases hp : j < s.size
    · have hp' : (j : Int) < (s.size : Int) := by omega
      have HGET := Lib.hid (get_list_ s j hp)
      by_cases h1 : (s[j]'hp).toNat < 33
      · have HR := Lib.hid (ltrB_no (no := no.data.toList) HGET.out (okB_lo h1))
        have h1' : ((s[j]'hp).toNat : Int) < 33 := by omega
        go_wp2_with fail
        go_ret
        exact ⟨ret_bool HR.out.symm, KR.out⟩
      by_cases h2 : 126 < (s[j]'hp).toNat
      · have HR := Lib.hid (ltrB_no (no := no.data.toList) HGET.out (okB_hi h2))
        have h1' : ¬ (((s[j]'hp).toNat : Int) < 33) := by omega
        have h2' : 126 < ((s[j]'hp).toNat : Int) := by omega
        go_wp2_with fail
        go_ret
        exact ⟨ret_bool HR.out.symm, KR.out⟩
      have h1' : ¬ (((s[j]'hp).toNat : Int) < 33) := by omega
      have h2' : ¬ (126 < ((s[j]'hp).toNat : Int)) := by omega
      go_wp2_with fail
      obtain ⟨wo, rfl⟩ : ∃ wo : World, wo = wr := ⟨_, rfl⟩
      go_loopw [6] (fun s6 wq => ∃ k : Nat, k ≤ no.size ∧ s6 = .int .i64 k ∧ Kept w wq ∧ ∀ i d, i < k → no.data.toList[i]? = some d → d ≠ s[j]'hp) (fun s6 _ => no.size - (intOf s6).toNat)
      case atStart => exact ⟨0, by omega, rfl, KR.out, fun i d h => by omega⟩
      case round =>
        obtain ⟨k, hk, rfl, hkq, hne⟩ := hrel
        have HNE := Lib.hid hne
        have KQ := Lib.hid hkq
        clear hne hkq
        by_cases hq : k < no.size
        · have hq' : (k : Int) < (no.size : Int) := by omega
          cases he : (((s[j]'hp).toNat : Int) == ((no[k]'hq).toNat : Int)) with
          | true =>
            have HR := Lib.hid (ltrB_no (no := no.data.toList) HGET.out (okB_in (in_of_get hq (by have := eq_of_beq he; omega))))
            go_wp2_with fail
            go_quiet (fail)
            go_wp2_with fail
            go_ret
            exact ⟨ret_bool HR.out.symm, kept_drewN KQ.out _⟩
          | false =>
            have HN := Lib.hid (show no[k]'hq ≠ s[j]'hp by
              intro e
              rw [e] at he
              simp at he)
            go_wp2_with fail
            go_quiet (fail)
            go_wp2_with fail
            go_roundw
            case rel => exact ⟨k + 1, by omega, by go_num, kept_drewN KQ.out _, fun i d hi hd => by
              rcases Nat.lt_or_eq_of_le (Nat.le_of_lt_succ hi) with h3 | rfl
              · exact HNE.out i d h3 hd
              · rw [get_list_ no i hq] at hd
                obtain rfl : no[i]'hq = d := by simpa using hd
                exact HN.out⟩
            case measure => simp [intOf]; omega
        · obtain rfl : k = no.size := by omega
          have hq' : ¬ ((no.size : Int) < (no.size : Int)) := by omega
          have HOK2 := Lib.hid (okB_ok (Nat.le_of_not_lt h1) (Nat.le_of_not_lt h2) (notin_of_all (c := s[j]'hp) HNE.out))
          go_wp2_with fail
          go_roundw
          case rel => exact ⟨j + 1, by omega, by go_num, KQ.out, fun i d hi hd => by
            rcases Nat.lt_or_eq_of_le (Nat.le_of_lt_succ hi) with h3 | rfl
            · exact HOK.out i d h3 hd
            · rw [HGET.out] at hd
              obtain rfl : s[i]'hp = d := by simpa using hd
              exact HOK2.out⟩
          case measure => simp [intOf]; omega
    · obtain rfl : j = s.size := by omega
      have hp' : ¬ ((s.size : Int) < (s.size : Int)) := by omega
      have hl := ltrB_yes (no := no.data.toList) (l := s.data.toList) (fun i c hc => HOK.out i c (by have := (List.getElem?_eq_some_iff.1 hc).1; simpa using this) hc)
      have HR := Lib.hid (show ltrB no.data.toList s.data.toList = true by
        rw [hl, decide_eq_true (p := s.data.toList ≠ []) (fun e => by have := size_list s; rw [e] at this; simp at this; omega), size_list, decide_eq_true (by omega)]; rfl)
      clear hl
      go_wp2_with fail
      go_ret
      exact ⟨ret_bool HR.out.symm, KR.out⟩
theorem ref2_Member (s : ByteArray) (w : World) (hs : s.size ≤ maxLen) :
    Calls Try.prog 88 #[.string s] w fun e w' => e = .returned (.bool (memB s.data.toList)) ∧ Kept w w' := by
  have C := ref2_plain s ⟨#[46, 59, 91, 47, 60, 62]⟩ w hs (by decide)
  have hno : (ByteArray.mk #[46, 59, 91, 47, 60, 62]).data.toList = noM := rfl
  rw [hno] at C
  clear hno
  go_enter Try.func88, Try.ntmps88
  go_wp2_with fail
  refine C.mono ?_
  rintro e w1 ⟨rfl, k1⟩
  clear C
  go_wp2_with fail
  go_ret
  exact ⟨rfl, k1⟩
theorem ref2_Method (s : ByteArray) (w : World) (hs : s.size ≤ maxLen) :
    Calls Try.prog 85 #[.string s] w fun e w' => e = .returned (.bool (metB s.data.toList)) ∧ Kept w w' := by
  have C := ref2_Member s w hs
  cases hm : memB s.data.toList with
  | true =>
    rw [hm] at C
    have HR := Lib.hid (show metB s.data.toList = true by unfold metB; rw [hm, Bool.or_true])
    clear hm
    go_enter Try.func85, Try.ntmps85
    go_wp2_with fail
    refine C.mono ?_
    rintro e w1 ⟨rfl, k1⟩
    clear C
    go_wp2_with fail
    go_ret
    exact ⟨ret_bool HR.out.symm, k1⟩
  | false =>
    rw [hm] at C
    have HR := Lib.hid (show metB s.data.toList = (s.toList == [60, 105, 110, 105, 116, 62] || s.toList == [60, 99, 108, 105, 110, 105, 116, 62]) by unfold metB; rw [hm, Bool.or_false, ByteArray.toList_eq]; first | done | rfl)
    clear hm
    go_enter Try.func85, Try.ntmps85
    go_wp2_with fail
    refine C.mono ?_
    rintro e w1 ⟨rfl, k1⟩
    clear C
    go_wp2_with fail
    all_goals
      go_ret
      exact ⟨ret_bool (by first | (rw [HR.out]; done) | (rw [HR.out]; simp_all)), k1⟩
set_option maxHeartbeats 1000000 in
theorem ref2_Class (s : ByteArray) (w : World) (hs : s.size ≤ maxLen) :
    Calls Try.prog 84 #[.string s] w fun e w' => e = .returned (.bool (clsB s.data.toList)) ∧ Kept w w' := by
  have C := ref2_plain s ⟨#[46, 59, 91]⟩ w hs (by decide)
  have hno : (ByteArray.mk #[46, 59, 91]).data.toList = noC := rfl
  rw [hno] at C
  clear hno
  unfold maxLen at hs
  cases hl : ltrB noC s.data.toList with
  | false =>
    rw [hl] at C
    have HR := Lib.hid (show clsB s.data.toList = false by unfold clsB; rw [hl]; rfl)
    clear hl
    go_enter Try.func84, Try.ntmps84
    go_wp2_with fail
    refine C.mono ?_
    rintro e w1 ⟨rfl, k1⟩
    clear C
    go_wp2_with fail
    go_ret
    exact ⟨ret_bool HR.out.symm, k1⟩
  | true =>
    rw [hl] at C
    have HC := Lib.hid (show clsB s.data.toList = segB 47 s.data.toList by unfold clsB; rw [hl]; rfl)
    have hz : 0 < s.size := by
      rcases Nat.eq_zero_or_pos s.size with h0 | h0
      · have : s.data.toList = [] := by apply List.eq_nil_of_length_eq_zero; rw [size_list]; exact h0
        rw [this, ltrB_nil] at hl
        cases hl
      · exact h0
    clear hl
    have hz1 : s.size - 1 < s.size := by omega
    have hsub : ((s.size : Int) - 1) = ((s.size - 1 : Nat) : Int) := by omega
    by_cases h1 : s[0]'hz = 47
    · have h1' : (((s[0]'hz).toNat : Int) == 47) = true := by rw [u8_47, h1]; rfl
      have HR := Lib.hid (show clsB s.data.toList = false by rw [HC.out]; exact segB_no (i := 0) rfl (by rw [get_list_ s 0 hz, h1]))
      clear h1
      go_enter Try.func84, Try.ntmps84
      go_wp2_with fail
      refine C.mono ?_
      rintro e w1 ⟨rfl, k1⟩
      clear C
      go_wp2_with fail
      go_ret
      exact ⟨ret_bool HR.out.symm, k1⟩
    have h1' : (((s[0]'hz).toNat : Int) == 47) = false := by rw [u8_47]; simpa using h1
    by_cases h2 : s[s.size - 1]'hz1 = 47
    · have h2' : (((s[s.size - 1]'hz1).toNat : Int) == 47) = true := by rw [u8_47, h2]; rfl
      have HR := Lib.hid (show clsB s.data.toList = false by
        rw [HC.out]
        refine segB_end ?_
        rw [size_list]
        obtain ⟨n, hn⟩ : ∃ n, s.size = n + 1 := ⟨s.size - 1, by omega⟩
        rw [hn, List.getElem?_cons_succ]
        have h3 := get_list_ s (s.size - 1) hz1
        rw [h2] at h3
        rw [show n = s.size - 1 by omega]
        exact h3)
      clear h1 h2
      go_enter Try.func84, Try.ntmps84
      go_wp2_with fail
      refine C.mono ?_
      rintro e w1 ⟨rfl, k1⟩
      clear C
      go_wp2_with fail
      go_ret
      exact ⟨ret_bool HR.out.symm, k1⟩
    have h2' : (((s[s.size - 1]'hz1).toNat : Int) == 47) = false := by rw [u8_47]; simpa using h2
    have H1 := Lib.hid h1
    have H2 := Lib.hid h2
    clear h1 h2
    go_enter Try.func84, Try.ntmps84
    go_wp2_with fail
    refine C.mono ?_
    rintro e w1 ⟨rfl, k1⟩
    clear C
    have K1 := Lib.hid k1
    clear k1
    go_wp2_with fail
    clear h1' h2' hsub
    go_loopw [4] (fun s4 wr => ∃ j : Nat, 1 ≤ j ∧ j ≤ s.size ∧ s4 = .int .i64 j ∧ Kept w wr ∧ ∀ i, i < j → (47 :: s.data.toList)[i]? = some 47 → s.data.toList[i]? ≠ some 47) (fun s4 _ => s.size - (intOf s4).toNat)
    case atStart => exact ⟨1, Nat.le_refl _, by omega, rfl, K1.out, fun i hi _ h => by
      obtain rfl : i = 0 := by omega
      rw [get_list_ s 0 hz] at h
      exact H1.out (by simpa using h)⟩
    case round =>
      obtain ⟨j, hj1, hj, rfl, hkr, hok⟩ := hrel
      have HOK := Lib.hid hok
      have KR := Lib.hid hkr
      clear hok hkr
      by_cases hp : j < s.size
      · have hp' : (j : Int) < (s.size : Int) := by omega
        have hj0 : ((j : Int) - 1) = ((j - 1 : Nat) : Int) := by omega
        obtain ⟨m, rfl⟩ : ∃ m, j = m + 1 := ⟨j - 1, by omega⟩
        have hm : m < s.size := by omega
        have hm1 : (((m + 1 : Nat) : Int) - 1) = (m : Int) := by omega
        cases h3 : (((s[m + 1]'hp).toNat : Int) == 47) with
        | false =>
          have HN := Lib.hid (show s[m + 1]'hp ≠ 47 by intro e; rw [u8_47, e] at h3; cases h3)
          clear hj0 hm1
          go_wp2_with fail
          go_roundw
          case rel => exact ⟨m + 1 + 1, by omega, by omega, by go_num, KR.out, fun i hi h4 h5 => by
            rcases Nat.lt_or_eq_of_le (Nat.le_of_lt_succ hi) with h6 | rfl
            · exact HOK.out i h6 h4 h5
            · rw [get_list_ s _ hp] at h5
              exact HN.out (by simpa using h5)⟩
          case measure => simp [intOf]; omega
        | true =>
          cases h4 : (((s[m]'hm).toNat : Int) == 47) with
          | true =>
            have HR := Lib.hid (show clsB s.data.toList = false by
              rw [HC.out]
              rw [u8_47] at h3 h4
              refine segB_no (i := m + 1) ?_ ?_
              · rw [List.getElem?_cons_succ, get_list_ s m hm]; simpa using h4
              · rw [get_list_ s _ hp]; simpa using h3)
            clear hj0
            go_wp2_with fail
            go_ret
            exact ⟨ret_bool HR.out.symm, KR.out⟩
          | false =>
            have HN := Lib.hid (show s[m]'hm ≠ 47 by intro e; rw [u8_47, e] at h4; cases h4)
            clear hj0
            go_wp2_with fail
            go_roundw
            case rel => exact ⟨m + 1 + 1, by omega, by omega, by go_num, KR.out, fun i hi h5 h6 => by
              rcases Nat.lt_or_eq_of_le (Nat.le_of_lt_succ hi) with h7 | rfl
              · exact HOK.out i h7 h5 h6
              · rw [List.getElem?_cons_succ, get_list_ s m hm] at h5
                exact HN.out (by simpa using h5)⟩
            case measure => simp [intOf]; omega
      · obtain rfl : j = s.size := by omega
        have hp' : ¬ ((s.size : Int) < (s.size : Int)) := by omega
        have HR := Lib.hid (show clsB s.data.toList = true by
          rw [HC.out]
          refine segB_yes (fun i h3 h4 => ?_) ?_
          · have h5 : i < s.size := by have := (List.getElem?_eq_some_iff.1 h4).1; simpa using this
            exact HOK.out i h5 h3 h4
          · rw [size_list]
            obtain ⟨n, hn⟩ : ∃ n, s.size = n + 1 := ⟨s.size - 1, by omega⟩
            rw [hn, List.getElem?_cons_succ]
            have h3 := get_list_ s (s.size - 1) hz1
            rw [show n = s.size - 1 by omega, h3]
            simpa using H2.out)
        go_wp2_with fail
        go_ret
        exact ⟨ret_bool HR.out.symm, KR.out⟩
end Go.Proofs.Ytcklmhbcjgiplaa
