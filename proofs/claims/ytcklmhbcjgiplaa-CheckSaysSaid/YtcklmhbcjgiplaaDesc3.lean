/-
  Descriptors by contract: the document's Field, one, Kinds.
-/
import Derived.Test.YtcklmhbcjgiplaaDesc2
import Derived.Lib.PathFns
namespace Go.Proofs.Ytcklmhbcjgiplaa
set_option linter.unusedVariables false
set_option linter.unusedSimpArgs false
open Go.RowKit
set_option maxRecDepth 100000

set_option maxHeartbeats 1000000 in
theorem ref2_Field (s : ByteArray) (w : World) (hs : s.size ≤ maxLen) :
    Calls Try.prog 86 #[.string s] w fun e w' => e = .returned (.bool (fldB s.data.toList)) ∧ Kept w w' := by
  have C := ref2_Class (s.extract 1 (s.size - 1)) w (mid_size s _ _ hs)
  rw [mid_list s s.size rfl] at C
  by_cases h1 : s.data.toList = [73]
  · have e1 := strl_eq h1
    have HR := Lib.hid (show fldB s.data.toList = true by unfold fldB; rw [h1]; rfl)
    clear h1 C
    go_enter Try.func86, Try.ntmps86
    go_wp2_with fail
    go_ret
    exact ⟨ret_bool HR.out.symm, Below.refl _ _⟩
  have e1 := strl_ne h1
  have HF := Lib.hid (show fldB s.data.toList = (decide (2 < s.size) && decide (s.size ≤ 255) && (s.data.toList[0]?.getD 0 == 76) && (s.data.toList[s.size - 1]?.getD 0 == 59) && clsB (midL s.data.toList)) by
    unfold fldB
    have a1 : (s.data.toList == [73]) = false := by simpa using h1
    rw [a1, size_list]; rfl)
  clear h1
  unfold maxLen at hs
  by_cases h2 : 2 < s.size
  case neg =>
    have h2' : (s.size : Int) < 3 := by omega
    have HR := Lib.hid (show fldB s.data.toList = false by rw [HF.out, decide_eq_false h2]; rfl)
    clear C HF
    go_enter Try.func86, Try.ntmps86
    go_wp2_with fail
    go_ret
    exact ⟨ret_bool HR.out.symm, Below.refl _ _⟩
  by_cases h3 : s.size ≤ 255
  case neg =>
    have h2' : ¬ (s.size : Int) < 3 := by omega
    have h3' : 255 < (s.size : Int) := by omega
    have HR := Lib.hid (show fldB s.data.toList = false by rw [HF.out, decide_eq_false h3, Bool.and_false]; rfl)
    clear C HF
    go_enter Try.func86, Try.ntmps86
    go_wp2_with fail
    go_ret
    exact ⟨ret_bool HR.out.symm, Below.refl _ _⟩
  have hz0 : 0 < s.size := by omega
  have hz1 : s.size - 1 < s.size := by omega
  have HF2 := Lib.hid (show fldB s.data.toList = ((((s[0]'hz0).toNat : Int) == 76) && (((s[s.size - 1]'hz1).toNat : Int) == 59) && clsB (midL s.data.toList)) by
    rw [HF.out, decide_eq_true h2, decide_eq_true h3, get_getD s 0 hz0, get_getD s (s.size - 1) hz1, u8_76, u8_59]; rfl)
  clear HF
  have hsub : ((s.size : Int) - 1) = ((s.size - 1 : Nat) : Int) := by omega
  have h2' : ¬ (s.size : Int) < 3 := by omega
  have h3' : ¬ 255 < (s.size : Int) := by omega
  cases h4 : (((s[0]'hz0).toNat : Int) == 76) with
  | false =>
    have HR := Lib.hid (show fldB s.data.toList = false by rw [HF2.out, h4]; rfl)
    have h4' : (((s[0]'hz0).toNat : Int) != 76) = true := by unfold bne; rw [h4]; rfl
    clear C HF2
    go_enter Try.func86, Try.ntmps86
    go_wp2_with fail
    go_ret
    exact ⟨ret_bool HR.out.symm, Below.refl _ _⟩
  | true =>
    have h4' : (((s[0]'hz0).toNat : Int) != 76) = false := by unfold bne; rw [h4]; rfl
    cases h5 : (((s[s.size - 1]'hz1).toNat : Int) == 59) with
    | false =>
      have HR := Lib.hid (show fldB s.data.toList = false by rw [HF2.out, h4, h5]; rfl)
      have h5' : (((s[s.size - 1]'hz1).toNat : Int) != 59) = true := by unfold bne; rw [h5]; rfl
      clear C HF2
      go_enter Try.func86, Try.ntmps86
      go_wp2_with fail
      go_ret
      exact ⟨ret_bool HR.out.symm, Below.refl _ _⟩
    | true =>
      have HR := Lib.hid (show fldB s.data.toList = clsB (midL s.data.toList) by rw [HF2.out, h4, h5]; rfl)
      have h5' : (((s[s.size - 1]'hz1).toNat : Int) != 59) = false := by unfold bne; rw [h5]; rfl
      clear HF2
      go_enter Try.func86, Try.ntmps86
      go_wp2_with fail
      refine C.mono ?_
      rintro e w1 ⟨rfl, k1⟩
      clear C
      go_wp2_with fail
      go_ret
      exact ⟨ret_bool HR.out.symm, k1⟩

theorem u8_73 (c : UInt8) : ((c.toNat : Int) == 73) = (c == 73) := u8_eq c 73 (by omega)
def oneN (l : List UInt8) : Nat := if l[0]?.getD 0 = 73 then 1 else match idxB 59 l with
  | some i => if fldB (l.take (i + 1)) = true then i + 1 else 0
  | none => 0
theorem fldB_head {c : UInt8} {r : List UInt8} (h1 : c ≠ 73) (h2 : c ≠ 76) : fldB (c :: r) = false := by
  unfold fldB
  have a1 : ((c :: r) == [73]) = false := by simp [h1]
  have a2 : ((c :: r)[0]?.getD 0 == 76) = false := by simpa using h2
  rw [a1, a2]
  simp
theorem fldB_last {l : List UInt8} (h1 : l ≠ [73]) (h : ∀ i : Nat, l[i]? ≠ some 59) : fldB l = false := by
  unfold fldB
  have a1 : (l == [73]) = false := by simpa using h1
  have a2 : (l[l.length - 1]?.getD 0 == 59) = false := by
    cases hx : l[l.length - 1]? with
    | none => rfl
    | some c =>
      have : c ≠ 59 := fun e => h _ (by rw [hx, e])
      simpa using this
  rw [a1, a2]
  simp
theorem take_get {l : List UInt8} {n : Nat} (h : 0 < n) : (l.take n)[0]?.getD 0 = l[0]?.getD 0 := by rw [List.getElem?_take_of_lt h]
theorem one_eq (c : UInt8) (r : List UInt8) : oneN (c :: r) = if fldB ((c :: r).take (cutN (c :: r))) = true then cutN (c :: r) else 0 := by
  unfold oneN cutN
  have h0 : ((c :: r)[0]?.getD 0) = c := rfl
  rw [h0]
  by_cases h1 : c = 73
  · subst h1
    rw [if_pos rfl]
    have h4 : ¬ ((73 : UInt8) = 76) := by decide
    rw [if_neg h4]
    show 1 = if fldB [73] = true then 1 else 0
    rw [if_pos (by decide)]
  · rw [if_neg h1]
    by_cases h2 : c = 76
    · rw [if_pos h2]
      cases hx : idxB 59 (c :: r) with
      | some i => rfl
      | none =>
        simp only
        rw [List.take_length, fldB_last (fun e => by simp at e; exact h1 e.1) (fun i e => by
          have h3 : ∀ {l : List UInt8}, idxB 59 l = none → ∀ i : Nat, l[i]? ≠ some 59 := by
            intro l
            induction l with
            | nil => intro _ i h; simp at h
            | cons d l ih =>
              intro h i hi
              unfold idxB at h
              split at h
              · cases h
              · rename_i hd
                cases i with
                | zero => simp at hi; exact hd hi
                | succ i => exact ih (by simpa using h) i (by simpa using hi)
          exact h3 hx i e)]
        rfl
    · rw [if_neg h2]
      have h3 : fldB ((c :: r).take 1) = false := fldB_head (r := []) h1 h2
      rw [h3, if_neg (by decide)]
      cases idxB 59 (c :: r) with
      | none => rfl
      | some i =>
        simp only
        rw [List.take_succ_cons, fldB_head h1 h2]
        rfl
theorem kgo_one {f : Nat} {c : UInt8} {r a : List UInt8} (hf : (c :: r).length < f) (hc : c ≠ 41) : kgo f (c :: r) a =
    if oneN (c :: r) = 0 ∨ a.length = 16 then none else kgo f ((c :: r).drop (oneN (c :: r))) (a ++ [c]) := by
  rw [kgo_cons hf, if_neg hc, one_eq]
  have h1 := cutN_pos (c := c) (r := r)
  by_cases hb : fldB ((c :: r).take (cutN (c :: r))) = true
  · rw [if_pos hb]
    by_cases ha : a.length = 16
    · rw [if_neg (fun e => e.2 ha), if_pos (.inr ha)]
    · rw [if_pos ⟨hb, ha⟩, if_neg (by omega)]
  · rw [if_neg hb, if_neg (fun e => hb e.1), if_pos (.inl rfl)]
theorem oneN_le (c : UInt8) (r : List UInt8) : oneN (c :: r) ≤ (c :: r).length := by
  rw [one_eq]
  split
  · exact cutN_le
  · omega

theorem take_ext (s : ByteArray) (k : Nat) : (s.extract 0 k).data.toList = s.data.toList.take k := by simp [ByteArray.data_extract]
theorem drop_ext (s : ByteArray) (k : Nat) : (s.extract k s.size).data.toList = s.data.toList.drop k := Lib.extract_to_end s k

set_option maxHeartbeats 1000000 in
theorem ref2_one (s : ByteArray) (w : World) (hs : s.size ≤ maxLen) (hz : 0 < s.size) :
    Calls Try.prog 97 #[.string s] w fun e w' => e = .returned (.int .i64 (oneN s.data.toList)) ∧ Kept w w' := by
  have HS := Lib.hid hs
  unfold maxLen at hs
  cases h73 : (((s[0]'hz).toNat : Int) == 73) with
  | true =>
    have HR := Lib.hid (show oneN s.data.toList = 1 by
      unfold oneN
      rw [get_getD s 0 hz]
      rw [u8_73] at h73
      rw [if_pos (by simpa using h73)])
    go_enter Try.func97, Try.ntmps97
    go_wp2_with fail
    go_ret
    exact ⟨ret_int (by rw [HR.out]; rfl), Below.refl _ _⟩
  | false =>
    have HN := Lib.hid (show oneN s.data.toList = match idxB 59 s.data.toList with
        | some i => if fldB (s.data.toList.take (i + 1)) = true then i + 1 else 0
        | none => 0 by
      unfold oneN
      rw [get_getD s 0 hz]
      rw [u8_73] at h73
      rw [if_neg (by simpa using h73)])
    go_enter Try.func97, Try.ntmps97
    go_wp2_with fail
    clear h73
    go_loop [3] (fun s3 => ∃ j : Nat, j ≤ s.size ∧ s3 = .int .i64 j ∧ ∀ i : Nat, i < j → s.data.toList[i]? ≠ some 59) (fun s3 => s.size - (intOf s3).toNat)
    case atStart => exact ⟨0, by omega, rfl, fun i h => by omega⟩
    case round =>
      obtain ⟨j, hj, rfl, hno⟩ := hrel
      have HNO := Lib.hid hno
      clear hno
      by_cases hp : j < s.size
      · have hp' : (j : Int) < (s.size : Int) := by omega
        have HGET := Lib.hid (get_list_ s j hp)
        cases h59 : (((s[j]'hp).toNat : Int) == 59) with
        | true =>
          have HX := Lib.hid (show idxB 59 s.data.toList = some j by
            rw [u8_59] at h59
            exact idxB_at (by rw [HGET.out]; simpa using h59) HNO.out)
          have C := ref2_Field (s.extract 0 (j + 1)) w (mid_size s _ _ HS.out)
          rw [take_ext] at C
          cases hf : fldB (s.data.toList.take (j + 1)) with
          | true =>
            rw [hf] at C
            have HR := Lib.hid (show oneN s.data.toList = j + 1 by rw [HN.out, HX.out]; simp only; rw [hf, if_pos rfl])
            clear hf
            go_wp2_with fail
            refine C.mono ?_
            rintro e w1 ⟨rfl, k1⟩
            clear C
            go_wp2_with fail
            go_ret
            exact ⟨ret_int (by rw [HR.out]; rfl), k1⟩
          | false =>
            rw [hf] at C
            have HR := Lib.hid (show oneN s.data.toList = 0 by rw [HN.out, HX.out]; simp only; rw [hf, if_neg (by decide)])
            clear hf
            go_wp2_with fail
            refine C.mono ?_
            rintro e w1 ⟨rfl, k1⟩
            clear C
            go_wp2_with fail
            go_ret
            exact ⟨ret_int (by rw [HR.out]; rfl), k1⟩
        | false =>
          have HN2 := Lib.hid (show s[j]'hp ≠ 59 by intro e; rw [u8_59, e] at h59; cases h59)
          go_wp2_with fail
          go_round
          case rel => exact ⟨j + 1, by omega, by go_num, fun i hi hd => by
            rcases Nat.lt_or_eq_of_le (Nat.le_of_lt_succ hi) with h3 | rfl
            · exact HNO.out i h3 hd
            · rw [HGET.out] at hd
              exact HN2.out (by simpa using hd)⟩
          case measure => simp [intOf]; omega
      · obtain rfl : j = s.size := by omega
        have hp' : ¬ ((s.size : Int) < (s.size : Int)) := by omega
        have HR := Lib.hid (show oneN s.data.toList = 0 by
          rw [HN.out, idxB_none (fun i h => HNO.out i (by have := (List.getElem?_eq_some_iff.1 h).1; simpa using this) h)])
        go_wp2_with fail
        go_ret
        exact ⟨ret_int (by rw [HR.out]; rfl), Below.refl _ _⟩

/-- What is told of a method's descriptor. -/
def resK (r : Option (List UInt8 × List UInt8)) : Value := match r with
  | none => .tuple #[.string ⟨#[]⟩, .string ⟨#[]⟩, .bool false]
  | some (a, q) => .tuple #[.string ⟨a.toArray⟩, .string ⟨q.toArray⟩, .bool true]
theorem fldB_nil : fldB [] = false := by decide
theorem kinds_short {l : List UInt8} (h : l.length < 3) : kindsL l = none := by
  cases l with
  | nil => rfl
  | cons c r =>
    unfold kindsL
    by_cases hc : c = 40 ∧ (c :: r).length ≤ 255
    · simp only
      rw [if_pos hc]
      cases hk : kgo 256 r [] with
      | none => rfl
      | some x =>
        obtain ⟨a, q⟩ := x
        have := (kgo_len hk (by simp)).2
        have hq : q = [] := by apply List.eq_nil_of_length_eq_zero; simp at h; omega
        subst hq
        simp only
        rw [if_neg (by rw [fldB_nil]; simp)]
    · simp only
      rw [if_neg hc]
theorem kinds_no {l : List UInt8} (h : 255 < l.length ∨ l[0]?.getD 0 ≠ 40) : kindsL l = none := by
  cases l with
  | nil => rfl
  | cons c r =>
    unfold kindsL
    simp only
    rw [if_neg (fun e => by
      rcases h with h | h
      · omega
      · exact h (by simpa using e.1))]
theorem kinds_is {c : UInt8} {r : List UInt8} (h1 : (c :: r).length ≤ 255) (h2 : c = 40) : kindsL (c :: r) = (match kgo 256 r [] with
    | none => none
    | some (a, q) => if q = [86] ∨ fldB q = true then some (a, q.take 1) else none) := by
  unfold kindsL
  simp only
  rw [if_pos ⟨h2, h1⟩]
  cases kgo 256 r [] <;> rfl
theorem bytes_eq {a : ByteArray} {l : List UInt8} (h : a.data.toList = l) : a = ⟨l.toArray⟩ := by
  subst h
  exact ByteArray.ext (by simp)

theorem u8_40 (c : UInt8) : ((c.toNat : Int) == 40) = (c == 40) := u8_eq c 40 (by omega)
theorem u8_41 (c : UInt8) : ((c.toNat : Int) == 41) = (c == 41) := u8_eq c 41 (by omega)
theorem list_cons {s : ByteArray} (h : 0 < s.size) : s.data.toList = s[0]'h :: s.data.toList.drop 1 := by
  have h1 := get_list_ s 0 h
  cases hs : s.data.toList with
  | nil => rw [hs] at h1; simp at h1
  | cons c r =>
    rw [hs] at h1
    simp at h1
    simp [h1]
theorem drop_cons {s : ByteArray} {i : Nat} (h : i < s.size) : s.data.toList.drop i = s[i]'h :: s.data.toList.drop (i + 1) := by
  rw [List.drop_eq_getElem_cons (by simpa using h)]; rfl
theorem one_byte (s : ByteArray) {i : Nat} (h : i < s.size) : (s.extract i (i + 1)).data.toList = [s[i]'h] := by
  simp only [ByteArray.data_extract, Array.toList_extract, List.extract_eq_take_drop]
  rw [drop_cons h]
  simp

set_option maxHeartbeats 4000000 in
theorem ref2_Kinds (s : ByteArray) (w : World) (hs : s.size ≤ maxLen) :
    Calls Try.prog 87 #[.string s] w fun e w' => e = .returned (resK (kindsL s.data.toList)) ∧ Kept w w' := by
  have HS := Lib.hid hs
  unfold maxLen at hs
  by_cases h1 : 255 < s.size
  · have h1' : 255 < (s.size : Int) := by omega
    have HR := Lib.hid (show kindsL s.data.toList = none from kinds_no (.inl (by rw [size_list]; exact h1)))
    go_enter Try.func87, Try.ntmps87
    go_wp2_with fail
    go_ret3
    exact ⟨by rw [HR.out]; rfl, Below.refl _ _⟩
  have h1' : ¬ 255 < (s.size : Int) := by omega
  by_cases h2 : s.size < 3
  · have h2' : (s.size : Int) < 3 := by omega
    have HR := Lib.hid (show kindsL s.data.toList = none from kinds_short (by rw [size_list]; exact h2))
    go_enter Try.func87, Try.ntmps87
    go_wp2_with fail
    go_ret3
    exact ⟨by rw [HR.out]; rfl, Below.refl _ _⟩
  have h2' : ¬ (s.size : Int) < 3 := by omega
  have hz : 0 < s.size := by omega
  cases h3 : (((s[0]'hz).toNat : Int) == 40) with
  | false =>
    have h3' : (((s[0]'hz).toNat : Int) != 40) = true := by unfold bne; rw [h3]; rfl
    have HR := Lib.hid (show kindsL s.data.toList = none from kinds_no (.inr (by
      rw [get_getD s 0 hz]
      rw [u8_40] at h3
      simpa using h3)))
    go_enter Try.func87, Try.ntmps87
    go_wp2_with fail
    go_ret3
    exact ⟨by rw [HR.out]; rfl, Below.refl _ _⟩
  | true =>
    have h3' : (((s[0]'hz).toNat : Int) != 40) = false := by unfold bne; rw [h3]; rfl
    have HK := Lib.hid (show kindsL s.data.toList = (match kgo 256 (s.data.toList.drop 1) [] with
        | none => none
        | some (a, q) => if q = [86] ∨ fldB q = true then some (a, q.take 1) else none) by
      have h4 := list_cons hz
      have h5 := kinds_is (c := s[0]'hz) (r := s.data.toList.drop 1) (by rw [← h4, size_list]; omega) (by rw [u8_40] at h3; simpa using h3)
      rw [← h4] at h5
      exact h5)
    go_enter Try.func87, Try.ntmps87
    go_wp2_with fail
    clear h3 h3' h1' h2'
    go_loopw [5, 6] (fun s5 s6 wr => ∃ (A : ByteArray) (i : Nat), s5 = .string A ∧ s6 = .int .i64 i ∧ 1 ≤ i ∧ i ≤ s.size ∧ A.size ≤ 16 ∧ Kept w wr ∧ kgo 256 (s.data.toList.drop 1) [] = kgo 256 (s.data.toList.drop i) A.data.toList) (fun _ s6 _ => s.size - (intOf s6).toNat)
    case atStart => exact ⟨⟨#[]⟩, 1, rfl, rfl, Nat.le_refl _, by omega, by decide, Below.refl _ _, rfl⟩
    case round =>
      obtain ⟨A, i, rfl, rfl, hi1, hi2, hA, hkr, hgo⟩ := hrel
      have HG := Lib.hid hgo
      have KR := Lib.hid hkr
      clear hgo hkr
      have hsub : ((s.size : Int) - 1) = ((s.size - 1 : Nat) : Int) := by omega
      by_cases hp : i < s.size
      · have hp' : (i : Int) < (s.size : Int) := by omega
        cases h41 : (((s[i]'hp).toNat : Int) == 41) with
        | true =>
          have h41' : (((s[i]'hp).toNat : Int) != 41) = false := by unfold bne; rw [h41]; rfl
          have HQ := Lib.hid (show kgo 256 (s.data.toList.drop 1) [] = some (A.data.toList, s.data.toList.drop (i + 1)) by
            rw [HG.out, drop_cons hp, kgo_cons (by rw [← drop_cons hp, List.length_drop, size_list]; omega), if_pos (by rw [u8_41] at h41; simpa using h41)])
          clear h41
          by_cases hend : s.size - 1 ≤ i
          · have hend' : ((s.size : Int) - 1) ≤ (i : Int) := by omega
            have HR := Lib.hid (show kindsL s.data.toList = none by
              rw [HK.out, HQ.out]
              have : s.data.toList.drop (i + 1) = [] := List.drop_of_length_le (by rw [size_list]; omega)
              rw [this]
              simp only
              rw [if_neg (by rw [fldB_nil]; simp)])
            clear hsub
            go_wp2_with fail
            go_ret3
            exact ⟨by rw [HR.out]; rfl, KR.out⟩
          · have hend' : ¬ ((s.size : Int) - 1) ≤ (i : Int) := by omega
            have C := ref2_Field (s.extract (i + 1) s.size) wr (mid_size s _ _ HS.out)
            rw [drop_ext] at C
            have HX := Lib.hid (drop_ext s (i + 1))
            have HXZ := Lib.hid (show (s.extract (i + 1) s.size).size = s.size - (i + 1) by simp)
            clear hsub
            by_cases h86 : s.data.toList.drop (i + 1) = [86]
            · have e86 : ((s.extract (i + 1) s.size).toList == [86]) = true := strl_eq (by rw [drop_ext]; exact h86)
              have HR := Lib.hid (show kindsL s.data.toList = some (A.data.toList, [86]) by
                rw [HK.out, HQ.out]
                simp only
                rw [if_pos (.inl h86), h86]
                rfl)
              rw [h86, show fldB [86] = false by decide] at C
              have H86 := Lib.hid h86
              clear h86
              have hx1 : 1 ≤ (s.extract (i + 1) s.size).size := by rw [HXZ.out]; omega
              have hx1' : (1 : Int) ≤ ((s.extract (i + 1) s.size).size : Int) := by omega
              go_wp2_with fail
              refine C.mono ?_
              rintro e w1 ⟨rfl, k1⟩
              clear C
              have K1 := Lib.hid (Kept.trans KR.out k1)
              clear k1
              go_wp2_with fail
              go_quiet (fail)
              go_wp2_with fail
              go_ret3
              refine ⟨?_, kept_drewN K1.out _⟩
              rw [HR.out]
              exact ret3 (congrArg Value.string (bytes_eq rfl)) (congrArg Value.string (bytes_eq (by rw [take_ext, HX.out, H86.out]; rfl))) rfl
            · have e86 : ((s.extract (i + 1) s.size).toList == [86]) = false := strl_ne (by rw [drop_ext]; exact h86)
              cases hfb : fldB (s.data.toList.drop (i + 1)) with
              | true =>
                rw [hfb] at C
                have HR := Lib.hid (show kindsL s.data.toList = some (A.data.toList, (s.data.toList.drop (i + 1)).take 1) by
                  rw [HK.out, HQ.out]
                  simp only
                  rw [if_pos (.inr hfb)])
                clear hfb h86
                have hx1 : 1 ≤ (s.extract (i + 1) s.size).size := by rw [HXZ.out]; omega
                have hx1' : (1 : Int) ≤ ((s.extract (i + 1) s.size).size : Int) := by omega
                go_wp2_with fail
                refine C.mono ?_
                rintro e w1 ⟨rfl, k1⟩
                clear C
                have K1 := Lib.hid (Kept.trans KR.out k1)
                clear k1
                go_wp2_with fail
                go_quiet (fail)
                go_wp2_with fail
                go_ret3
                refine ⟨?_, kept_drewN K1.out _⟩
                rw [HR.out]
                exact ret3 (congrArg Value.string (bytes_eq rfl)) (congrArg Value.string (bytes_eq (by rw [take_ext, HX.out]))) rfl
              | false =>
                rw [hfb] at C
                have HR := Lib.hid (show kindsL s.data.toList = none by
                  rw [HK.out, HQ.out]
                  simp only
                  rw [if_neg (by rw [hfb]; simpa using h86)])
                clear hfb h86
                go_wp2_with fail
                refine C.mono ?_
                rintro e w1 ⟨rfl, k1⟩
                clear C
                have K1 := Lib.hid (Kept.trans KR.out k1)
                clear k1
                go_wp2_with fail
                go_ret3
                exact ⟨by rw [HR.out]; rfl, K1.out⟩
        | false =>
          have h41' : (((s[i]'hp).toNat : Int) != 41) = true := by unfold bne; rw [h41]; rfl
          have hne41 : s[i]'hp ≠ 41 := by intro e; rw [u8_41, e] at h41; cases h41
          have HXZ := Lib.hid (show (s.extract i s.size).size = s.size - i by simp)
          have C := ref2_one (s.extract i s.size) wr (mid_size s _ _ HS.out) (by rw [HXZ.out]; omega)
          rw [drop_ext] at C
          have hgo := HG.out
          rw [drop_cons hp, kgo_one (by rw [← drop_cons hp, List.length_drop, size_list]; omega) hne41, ← drop_cons hp, size_list, List.drop_drop] at hgo
          have hol : oneN (s.data.toList.drop i) ≤ s.size - i := by
            have := oneN_le (s[i]'hp) (s.data.toList.drop (i + 1))
            rw [← drop_cons hp, List.length_drop, size_list] at this
            exact this
          obtain ⟨o, ho⟩ : ∃ o, o = oneN (s.data.toList.drop i) := ⟨_, rfl⟩
          rw [← ho] at C hgo hol
          have HGO := Lib.hid hgo
          clear hgo ho hne41 h41 hsub
          by_cases ho0 : o = 0
          · subst ho0
            have HR := Lib.hid (show kindsL s.data.toList = none by rw [HK.out, HGO.out, if_pos (.inl rfl)])
            go_wp2_with fail
            refine C.mono ?_
            rintro e w1 ⟨rfl, k1⟩
            clear C
            have K1 := Lib.hid (Kept.trans KR.out k1)
            clear k1
            go_wp2_with fail
            go_ret3
            exact ⟨by rw [HR.out]; rfl, K1.out⟩
          · by_cases hA16 : A.size = 16
            · have HR := Lib.hid (show kindsL s.data.toList = none by rw [HK.out, HGO.out, if_pos (.inr hA16)])
              have e16 : ((A.size : Int) == 16) = true := by simp; omega
              have e0 : ((o : Int) == 0) = false := by simp; omega
              clear hA16
              go_wp2_with fail
              refine C.mono ?_
              rintro e w1 ⟨rfl, k1⟩
              clear C
              have K1 := Lib.hid (Kept.trans KR.out k1)
              clear k1
              go_wp2_with fail
              go_ret3
              exact ⟨by rw [HR.out]; rfl, K1.out⟩
            · have HN := Lib.hid (show kgo 256 (s.data.toList.drop 1) [] = kgo 256 (s.data.toList.drop (i + o)) (A.data.toList ++ [s[i]'hp]) by
                rw [HGO.out, if_neg (fun e => e.elim ho0 hA16)])
              have e16 : ((A.size : Int) == 16) = false := by simp; omega
              have e0 : ((o : Int) == 0) = false := by simp; omega
              have hA16' : A.size < 16 := by omega
              have hop : 0 < o := by omega
              have H1B := Lib.hid (one_byte s hp)
              clear ho0 hA16
              go_wp2_with fail
              refine C.mono ?_
              rintro e w1 ⟨rfl, k1⟩
              clear C
              have K1 := Lib.hid (Kept.trans KR.out k1)
              clear k1
              go_wp2_with fail
              go_roundw
              case rel => exact ⟨A ++ s.extract i (i + 1), i + o, rfl, by go_num, by omega, by omega, by rw [ByteArray.size_append]; simp; omega, K1.out, by
                rw [HN.out, ByteArray.data_append, Array.toList_append, H1B.out]⟩
              case measure => simp [intOf]; omega
      · obtain rfl : i = s.size := by omega
        have hp' : ¬ (s.size : Int) < (s.size : Int) := by omega
        have hend' : ((s.size : Int) - 1) ≤ (s.size : Int) := by omega
        have HR := Lib.hid (show kindsL s.data.toList = none by
          rw [HK.out, HG.out, List.drop_of_length_le (by rw [size_list]; omega), kgo_nil])
        clear hsub
        go_wp2_with fail
        go_ret3
        exact ⟨by rw [HR.out]; rfl, KR.out⟩
end Go.Proofs.Ytcklmhbcjgiplaa
