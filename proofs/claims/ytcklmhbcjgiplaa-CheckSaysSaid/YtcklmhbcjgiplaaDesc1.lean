/-
  Names by contract: the library's search for a byte, desc.letters, Class, Member, Method, Field.
-/
import Derived.Test.YtcklmhbcjgiplaaProg
import Derived.Test.YtcklmhbcjgiplaaTouch
import Derived.Test.YtcklmhbcjgiplaaDesc0
import Derived.Lib.OthersKept
import Derived.Lib.RuneCount
import Derived.Lib.Bytealg
import Derived.Lib.IndexAny
import Derived.Laws.Externs
import Derived.Laws.RangeString
import Derived.Laws.RangeAny
namespace Go.Proofs.Ytcklmhbcjgiplaa
set_option linter.unusedVariables false
set_option linter.unusedSimpArgs false
open Go.RowKit
set_option maxRecDepth 100000

theorem bytealg_index (s : ByteArray) (c : Int) (w : World) :
    (callFunc 103 #[.string s, .int .u8 c]).run Try.prog w = .ok (.value (.int .i64 (Lib.indexByte s.data.toList c.toNat.toUInt8))) w := by
  rw [run_callFunc_extern Try.func103 (by kernel_rfl) (by kernel_rfl) (by kernel_rfl) (e := Extern.BytealgIndexByte.indexByte) (by kernel_rfl), Lib.run_indexByteString]
  rfl
theorem lite_index (s : ByteArray) (c : Int) (w : World) :
    Calls Try.prog 99 #[.string s, .int .u8 c] w fun e w' => e = .returned (.int .i64 (Lib.indexByte s.data.toList c.toNat.toUInt8)) ∧ w = w' := by
  have hx := bytealg_index s c
  go_enter Try.func99, Try.ntmps99
  go_wp2
  go_ret
  exact ⟨rfl, rfl⟩
theorem strings_index (s : ByteArray) (c : Int) (w : World) :
    Calls Try.prog 95 #[.string s, .int .u8 c] w fun e w' => e = .returned (.int .i64 (Lib.indexByte s.data.toList c.toNat.toUInt8)) ∧ w = w' := by
  go_enter Try.func95, Try.ntmps95
  go_wp2_with fail
  refine (lite_index s c w).mono ?_
  rintro e w1 ⟨rfl, rfl⟩
  go_wp2
  go_ret
  exact ⟨rfl, rfl⟩
theorem strings_rune (s : ByteArray) (r : Int) (w : World) (h0 : 0 ≤ r) (h1 : r < 128) :
    Calls Try.prog 98 #[.string s, .int .i32 r] w fun e w' => e = .returned (.int .i64 (Lib.indexByte s.data.toList r.toNat.toUInt8)) ∧ w = w' := by
  go_enter Try.func98, Try.ntmps98
  go_wp2_with fail
  refine (strings_index s r w).mono ?_
  rintro e w1 ⟨rfl, rfl⟩
  go_wp2
  go_ret
  exact ⟨rfl, rfl⟩
theorem strings_has (s : ByteArray) (r : Int) (w : World) (h0 : 0 ≤ r) (h1 : r < 128) :
    Calls Try.prog 93 #[.string s, .int .i32 r] w fun e w' => e = .returned (.bool (s.data.toList.contains r.toNat.toUInt8)) ∧ w = w' := by
  go_enter Try.func93, Try.ntmps93
  go_wp2_with fail
  refine (strings_rune s r w h0 h1).mono ?_
  rintro e w1 ⟨rfl, rfl⟩
  go_wp2
  go_ret
  exact ⟨by rw [Lib.contains_iff_indexByte]; rfl, rfl⟩

theorem get_list_ (s : ByteArray) (j : Nat) (h : j < s.size) : s.data.toList[j]? = some (s[j]'h) := by
  rw [List.getElem?_eq_getElem (by simpa using h)]; rfl
theorem size_list (s : ByteArray) : s.data.toList.length = s.size := by simp
theorem strl_eq {s : ByteArray} {l : List UInt8} (h : s.data.toList = l) : (s.toList == l) = true := by rw [ByteArray.toList_eq, h]; simp
theorem strl_ne {s : ByteArray} {l : List UInt8} (h : s.data.toList ≠ l) : (s.toList == l) = false := by rw [ByteArray.toList_eq]; simpa using h
theorem strl_neq {s : ByteArray} {l : List UInt8} (h : s.data.toList ≠ l) : (s.toList != l) = true := by rw [ByteArray.toList_eq]; simpa using h
theorem strl_neqF {s : ByteArray} {l : List UInt8} (h : s.data.toList = l) : (s.toList != l) = false := by rw [ByteArray.toList_eq, h]; simp
theorem strl_nil {s : ByteArray} (h : s.data.toList = []) : s.toList = [] := by rw [ByteArray.toList_eq, h]
theorem strl_nnil {s : ByteArray} (h : s.data.toList ≠ []) : ¬ s.toList = [] := by rw [ByteArray.toList_eq]; exact h
theorem strl_empty {s : ByteArray} (h : s.data.toList ≠ []) : s.toList.isEmpty = false := by rw [ByteArray.toList_eq]; simpa using h
theorem u8_eq (c : UInt8) (k : Nat) (hk : k < 256) : ((c.toNat : Int) == (k : Int)) = (c == UInt8.ofNat k) := by
  rw [Bool.eq_iff_iff]
  simp only [beq_iff_eq]
  constructor
  · intro h
    apply UInt8.toNat_inj.1
    rw [UInt8.toNat_ofNat']
    omega
  · intro h
    subst h
    rw [UInt8.toNat_ofNat']
    omega
theorem u8_47 (c : UInt8) : ((c.toNat : Int) == 47) = (c == 47) := u8_eq c 47 (by omega)
theorem u8_back (c : UInt8) : ((c.toNat : Int)).toNat.toUInt8 = c := by simp

theorem ltr_size {s : ByteArray} (h : s.data.toList ≠ []) : (decide (s.data.toList ≠ []) && decide (s.data.toList.length ≤ 255)) = decide ((s.size : Int) ≤ 255) := by
  rw [decide_eq_true h, Bool.true_and, size_list]
  by_cases h1 : s.size ≤ 255
  · rw [decide_eq_true h1, decide_eq_true (by omega)]
  · rw [decide_eq_false h1, decide_eq_false (by omega)]
set_option maxHeartbeats 1000000 in
theorem desc_letters (s no : ByteArray) (w : World) (hs : s.size ≤ maxLen) :
    Calls Try.prog 82 #[.string s, .string no] w fun e w' => e = .returned (.bool (ltrB no.data.toList s.data.toList)) ∧ Kept w w' := by
  unfold maxLen at hs
  go_enter Try.func82, Try.ntmps82
  go_wp2_with fail
  have k0 : Kept w (w.iter s 0) := (Below.refl _ _).alloc (Nat.le_refl _) _
  have it0 : (w.iter s 0).heap[w.heap.size]? = some (.stringIter s 0) := World.iter_heap _ _ _
  have hH : w.heap.size ≤ w.heap.size := Nat.le_refl _
  obtain ⟨H, hHe⟩ : ∃ H, H = w.heap.size := ⟨_, rfl⟩
  rw [← hHe] at it0 ⊢
  have HH := Lib.hid (show w.heap.size ≤ H by omega)
  clear hHe hH
  have IT0 := Lib.hid it0
  have K0 := Lib.hid k0
  clear it0 k0
  go_loopw [4] (fun s4 wr => ∃ j : Nat, j ≤ s.size ∧ s4 = .bool false ∧ wr.heap[H]? = some (.stringIter s j) ∧ Kept w wr ∧ ∀ i c, i < j → s.data.toList[i]? = some c → okB no.data.toList c = true) (fun _ wr => s.size - wr.iterPos H)
  case atStart => exact ⟨0, by omega, rfl, IT0.out, K0.out, fun i c h => by omega⟩
  case round =>
    obtain ⟨j, hj, rfl, hit, hkr, hok⟩ := hrel
    have HOK := Lib.hid hok
    clear hok
    by_cases hp : j < s.size
    · have hnx : ∀ ty, (Instr.next (.pointer (some ⟨H, 0, none⟩)) true ty).run Try.prog wr = _ := fun ty => Lib.run_next_any_at wr H s j ty hit hp
      have HGET := Lib.hid (get_list_ s j hp)
      by_cases ha : (s[j]'hp).toNat < 128
      · rw [decode_ascii s j hp ha] at hnx
        dsimp only at hnx
        obtain ⟨c, hc⟩ : ∃ c, c = s[j]'hp := ⟨_, rfl⟩
        rw [← hc] at hnx ha HGET
        clear hc
        obtain ⟨W2, hW2⟩ : ∃ W2, W2 = wr.iterAt H s (j + 1) := ⟨_, rfl⟩
        have k2 : Kept w W2 := by rw [hW2]; exact Lib.below_iterAt hkr HH.out s _
        have it2 : W2.heap[H]? = some (.stringIter s (j + 1)) := by rw [hW2]; exact Lib.iterAt_heap wr H s j _ hit
        rw [← hW2] at hnx
        have K2 := Lib.hid k2
        have IT2 := Lib.hid it2
        have HIT := Lib.hid hit
        clear hW2 k2 it2 hit hkr
        by_cases h1 : c.toNat < 33
        · have HR := Lib.hid (ltrB_no (no := no.data.toList) HGET.out (okB_lo h1))
          have h1' : (c.toNat : Int) < 33 := by omega
          go_wp2_with fail
          go_ret
          exact ⟨ret_bool HR.out.symm, K2.out⟩
        by_cases h2 : 126 < c.toNat
        · have HR := Lib.hid (ltrB_no (no := no.data.toList) HGET.out (okB_hi h2))
          have h1' : ¬ ((c.toNat : Int) < 33) := by omega
          have h2' : 126 < (c.toNat : Int) := by omega
          go_wp2_with fail
          go_ret
          exact ⟨ret_bool HR.out.symm, K2.out⟩
        have h1' : ¬ ((c.toNat : Int) < 33) := by omega
        have h2' : ¬ (126 < (c.toNat : Int)) := by omega
        have C := strings_has no c.toNat W2 (by omega) (by omega)
        rw [u8_back] at C
        cases hcn : no.data.toList.contains c with
        | true =>
          rw [hcn] at C
          have HR := Lib.hid (ltrB_no HGET.out (okB_in hcn))
          clear hcn
          go_wp2_with fail
          refine C.mono ?_
          rintro e w3 ⟨rfl, rfl⟩
          clear C
          go_wp2_with fail
          go_ret
          exact ⟨ret_bool HR.out.symm, K2.out⟩
        | false =>
          rw [hcn] at C
          have HR := Lib.hid (okB_ok (Nat.le_of_not_lt h1) (Nat.le_of_not_lt h2) hcn)
          clear hcn
          go_wp2_with fail
          refine C.mono ?_
          rintro e w3 ⟨rfl, rfl⟩
          clear C
          go_wp2_with fail
          go_roundw
          case rel => exact ⟨j + 1, by omega, rfl, IT2.out, K2.out, fun i d hi hd => by
            rcases Nat.lt_or_eq_of_le (Nat.le_of_lt_succ hi) with h3 | rfl
            · exact HOK.out i d h3 hd
            · rw [HGET.out] at hd
              obtain rfl : c = d := by simpa using hd
              exact HR.out⟩
          case measure =>
            have e1 : W2.iterPos H = j + 1 := by simp [World.iterPos, IT2.out]
            have e0 : wr.iterPos H = j := by simp [World.iterPos, HIT.out]
            rw [e1, e0]
            omega
      · have hr := (decode_high s j hp (by omega)).1
        have HR := Lib.hid (ltrB_no (no := no.data.toList) HGET.out (okB_hi (by omega)))
        obtain ⟨r, hre⟩ : ∃ r, r = (Utf8.decode s j).1 := ⟨_, rfl⟩
        rw [← hre] at hnx hr
        obtain ⟨W2, hW2⟩ : ∃ W2, W2 = wr.iterAt H s (j + (Utf8.decode s j).2) := ⟨_, rfl⟩
        have k2 : Kept w W2 := by rw [hW2]; exact Lib.below_iterAt hkr HH.out s _
        rw [← hW2] at hnx
        have K2 := Lib.hid k2
        clear hre hW2 k2 ha hit hkr
        have h1' : ¬ ((r : Int) < 33) := by omega
        have h2' : 126 < (r : Int) := by omega
        go_wp2_with fail
        go_ret
        exact ⟨ret_bool HR.out.symm, K2.out⟩
    · have hnx : ∀ ty, (Instr.next (.pointer (some ⟨H, 0, none⟩)) true ty).run Try.prog wr = _ := fun ty => Lib.run_next_end_at wr H s j ty hit hp
      obtain rfl : j = s.size := by omega
      have hl := ltrB_yes (no := no.data.toList) (l := s.data.toList) (fun i c hc => HOK.out i c (by have := (List.getElem?_eq_some_iff.1 hc).1; simpa using this) hc)
      have KR := Lib.hid hkr
      clear hkr hit
      by_cases h0 : s.data.toList = []
      · have e1 := strl_nil h0
        have HR := Lib.hid (show ltrB no.data.toList s.data.toList = false by rw [hl, h0]; rfl)
        clear hl h0
        go_wp2_with fail
        go_ret
        exact ⟨ret_bool HR.out.symm, KR.out⟩
      · have e1 := strl_empty h0
        have e2 := strl_nnil h0
        have HR := Lib.hid (show ltrB no.data.toList s.data.toList = decide ((s.size : Int) ≤ 255) by rw [hl]; exact ltr_size h0)
        clear hl h0
        go_wp2_with fail
        go_ret
        exact ⟨ret_bool HR.out.symm, KR.out⟩

theorem seg_get {l : List UInt8} {j : Nat} {c d : UInt8} (h : (47 :: l)[j]? = some d) (hc : l[j]? = some c) : (47 :: l)[j + 1]? = some c := by simpa using hc
set_option maxHeartbeats 1000000 in
theorem desc_Class (s : ByteArray) (w : World) (hs : s.size ≤ maxLen) :
    Calls Try.prog 43 #[.string s] w fun e w' => e = .returned (.bool (clsB s.data.toList)) ∧ Kept w w' := by
  have C := desc_letters s ⟨#[46, 59, 91]⟩ w hs
  unfold maxLen at hs
  have hno : (ByteArray.mk #[46, 59, 91]).data.toList = noC := rfl
  rw [hno] at C
  clear hno
  cases hl : ltrB noC s.data.toList with
  | false =>
    rw [hl] at C
    have HR := Lib.hid (show clsB s.data.toList = false by unfold clsB; rw [hl]; rfl)
    clear hl
    go_enter Try.func43, Try.ntmps43
    go_wp2_with fail
    refine C.mono ?_
    rintro e w1 ⟨rfl, k1⟩
    clear C
    go_wp2_with fail
    go_ret
    exact ⟨ret_bool HR.out.symm, k1⟩
  | true =>
    rw [hl] at C
    have HC := Lib.hid (show clsB s.data.toList = segB 47 s.data.toList by unfold clsB; rw [hl]; rfl)
    have HO := Lib.hid (show ∀ (i : Nat) (c : UInt8), s.data.toList[i]? = some c → c.toNat < 128 by
      intro i c hc
      have h1 : okB noC c = true := by
        cases ho : okB noC c with
        | true => rfl
        | false => rw [ltrB_no hc ho] at hl; cases hl
      have := (okB_ascii h1).2
      omega)
    clear hl
    go_enter Try.func43, Try.ntmps43
    go_wp2_with fail
    refine C.mono ?_
    rintro e w1 ⟨rfl, k1⟩
    clear C
    have K1 := Lib.hid k1
    clear k1
    go_wp2_with fail
    have k0 : Kept w (w1.iter s 0) := Kept.trans K1.out ((Below.refl _ _).alloc (Nat.le_refl _) _)
    have it0 : (w1.iter s 0).heap[w1.heap.size]? = some (.stringIter s 0) := World.iter_heap _ _ _
    have hH : w.heap.size ≤ w1.heap.size := K1.out.size
    obtain ⟨H, hHe⟩ : ∃ H, H = w1.heap.size := ⟨_, rfl⟩
    rw [← hHe] at it0 hH ⊢
    have HH := Lib.hid hH
    clear hHe hH
    have IT0 := Lib.hid it0
    have K0 := Lib.hid k0
    clear it0 k0
    go_loopw [2, 3] (fun s2 s3 wr => ∃ (j : Nat) (d : UInt8), j ≤ s.size ∧ s2 = .bool false ∧ s3 = .int .i32 d.toNat ∧ wr.heap[H]? = some (.stringIter s j) ∧ Kept w wr ∧ (47 :: s.data.toList)[j]? = some d ∧ ∀ i, i < j → (47 :: s.data.toList)[i]? = some 47 → s.data.toList[i]? ≠ some 47) (fun _ _ wr => s.size - wr.iterPos H)
    case atStart => exact ⟨0, 47, by omega, rfl, rfl, IT0.out, K0.out, rfl, fun i h => by omega⟩
    case round =>
      obtain ⟨j, d, hj, rfl, rfl, hit, hkr, hd, hok⟩ := hrel
      have HD := Lib.hid hd
      have HOK := Lib.hid hok
      clear hd hok
      have hd47 : d.toNat < 256 := d.toNat_lt
      by_cases hp : j < s.size
      · have hnx : ∀ ty, (Instr.next (.pointer (some ⟨H, 0, none⟩)) true ty).run Try.prog wr = _ := fun ty => Lib.run_next_any_at wr H s j ty hit hp
        have HGET := Lib.hid (get_list_ s j hp)
        have ha := HO.out j _ HGET.out
        rw [decode_ascii s j hp ha] at hnx
        dsimp only at hnx
        obtain ⟨c, hc⟩ : ∃ c, c = s[j]'hp := ⟨_, rfl⟩
        rw [← hc] at hnx ha HGET
        clear hc
        obtain ⟨W2, hW2⟩ : ∃ W2, W2 = wr.iterAt H s (j + 1) := ⟨_, rfl⟩
        have k2 : Kept w W2 := by rw [hW2]; exact Lib.below_iterAt hkr HH.out s _
        have it2 : W2.heap[H]? = some (.stringIter s (j + 1)) := by rw [hW2]; exact Lib.iterAt_heap wr H s j _ hit
        rw [← hW2] at hnx
        have K2 := Lib.hid k2
        have IT2 := Lib.hid it2
        have HIT := Lib.hid hit
        clear hW2 k2 it2 hit hkr
        by_cases hc47 : c = 47 ∧ d = 47
        · have HR := Lib.hid (show segB 47 s.data.toList = false from segB_no (i := j) (by rw [HD.out, hc47.2]) (by rw [HGET.out, hc47.1]))
          obtain ⟨hc1, hd1⟩ := hc47
          subst hc1
          subst hd1
          go_wp2_with fail
          go_ret
          exact ⟨ret_bool (by rw [HC.out, HR.out]), K2.out⟩
        · have HN := Lib.hid (show ∀ i, i < j + 1 → (47 :: s.data.toList)[i]? = some 47 → s.data.toList[i]? ≠ some 47 by
            intro i hi h1 h2
            rcases Nat.lt_or_eq_of_le (Nat.le_of_lt_succ hi) with h3 | rfl
            · exact HOK.out i h3 h1 h2
            · rw [HGET.out] at h2
              rw [HD.out] at h1
              exact hc47 ⟨by simpa using h2, by simpa using h1⟩)
          have HI := Lib.hid (show ((c.toNat : Int) == 47) = true → ((d.toNat : Int) == 47) = false by
            intro h1
            rw [u8_47] at h1 ⊢
            have h2 : c = 47 := by simpa using h1
            have h4 : ¬ d = 47 := fun e => hc47 ⟨h2, e⟩
            simpa using h4)
          clear hc47
          cases hc1 : ((c.toNat : Int) == 47) with
          | true =>
            have hd1 := HI.out hc1
            go_wp2_with fail
            go_roundw
            case rel => exact ⟨j + 1, c, by omega, rfl, rfl, IT2.out, K2.out, seg_get HD.out HGET.out, HN.out⟩
            case measure =>
              have e1 : W2.iterPos H = j + 1 := by simp [World.iterPos, IT2.out]
              have e0 : wr.iterPos H = j := by simp [World.iterPos, HIT.out]
              rw [e1, e0]
              omega
          | false =>
            go_wp2_with fail
            go_roundw
            case rel => exact ⟨j + 1, c, by omega, rfl, rfl, IT2.out, K2.out, seg_get HD.out HGET.out, HN.out⟩
            case measure =>
              have e1 : W2.iterPos H = j + 1 := by simp [World.iterPos, IT2.out]
              have e0 : wr.iterPos H = j := by simp [World.iterPos, HIT.out]
              rw [e1, e0]
              omega
      · have hnx : ∀ ty, (Instr.next (.pointer (some ⟨H, 0, none⟩)) true ty).run Try.prog wr = _ := fun ty => Lib.run_next_end_at wr H s j ty hit hp
        obtain rfl : j = s.size := by omega
        have KR := Lib.hid hkr
        clear hkr hit
        by_cases hd1 : d = 47
        · have HR := Lib.hid (show segB 47 s.data.toList = false from segB_end (by rw [size_list, HD.out, hd1]))
          subst hd1
          go_wp2_with fail
          go_ret
          exact ⟨ret_bool (by rw [HC.out, HR.out]), KR.out⟩
        · have HR := Lib.hid (show segB 47 s.data.toList = true from segB_yes (fun i h1 h2 => by
            have h3 : i < s.size := by have := (List.getElem?_eq_some_iff.1 h2).1; simpa using this
            exact HOK.out i h3 h1 h2) (by rw [size_list, HD.out]; simpa using hd1))
          have h4 : ((d.toNat : Int) != 47) = true := by
            have h5 := u8_47 d
            have h6 : (d == 47) = false := by simpa using hd1
            rw [h6] at h5
            unfold bne
            rw [h5]; rfl
          clear hd1
          go_wp2_with fail
          go_ret
          exact ⟨ret_bool (by rw [HC.out, HR.out]), KR.out⟩
theorem desc_Member (s : ByteArray) (w : World) (hs : s.size ≤ maxLen) :
    Calls Try.prog 57 #[.string s] w fun e w' => e = .returned (.bool (memB s.data.toList)) ∧ Kept w w' := by
  have C := desc_letters s ⟨#[46, 59, 91, 47, 60, 62]⟩ w hs
  have hno : (ByteArray.mk #[46, 59, 91, 47, 60, 62]).data.toList = noM := rfl
  rw [hno] at C
  clear hno
  go_enter Try.func57, Try.ntmps57
  go_wp2_with fail
  refine C.mono ?_
  rintro e w1 ⟨rfl, k1⟩
  clear C
  go_wp2_with fail
  go_ret
  exact ⟨rfl, k1⟩
theorem desc_Method (s : ByteArray) (w : World) (hs : s.size ≤ maxLen) :
    Calls Try.prog 44 #[.string s] w fun e w' => e = .returned (.bool (metB s.data.toList)) ∧ Kept w w' := by
  have C := desc_Member s w hs
  by_cases h1 : s.data.toList = iniL
  · have e1 : (s.toList == [60, 105, 110, 105, 116, 62]) = true := strl_eq h1
    have HR := Lib.hid (show metB s.data.toList = true by unfold metB; rw [h1]; rfl)
    clear h1 C
    go_enter Try.func44, Try.ntmps44
    go_wp2_with fail
    go_ret
    exact ⟨ret_bool HR.out.symm, Below.refl _ _⟩
  by_cases h2 : s.data.toList = cliL
  · have e1 : (s.toList == [60, 105, 110, 105, 116, 62]) = false := strl_ne h1
    have e2 : (s.toList == [60, 99, 108, 105, 110, 105, 116, 62]) = true := strl_eq h2
    have HR := Lib.hid (show metB s.data.toList = true by unfold metB; rw [h2]; rfl)
    clear h1 h2 C
    go_enter Try.func44, Try.ntmps44
    go_wp2_with fail
    go_ret
    exact ⟨ret_bool HR.out.symm, Below.refl _ _⟩
  have e1 : (s.toList == [60, 105, 110, 105, 116, 62]) = false := strl_ne h1
  have e2 : (s.toList == [60, 99, 108, 105, 110, 105, 116, 62]) = false := strl_ne h2
  have HR := Lib.hid (show metB s.data.toList = memB s.data.toList by
    unfold metB
    have a1 : (s.data.toList == iniL) = false := by simpa using h1
    have a2 : (s.data.toList == cliL) = false := by simpa using h2
    rw [a1, a2]; rfl)
  clear h1 h2
  go_enter Try.func44, Try.ntmps44
  go_wp2_with fail
  refine C.mono ?_
  rintro e w1 ⟨rfl, k1⟩
  clear C
  go_wp2_with fail
  go_ret
  exact ⟨ret_bool HR.out.symm, k1⟩
theorem mid_list (s : ByteArray) (n : Nat) (h : s.size = n) : (s.extract 1 (n - 1)).data.toList = midL s.data.toList := by
  unfold midL
  rw [size_list, h]
  simp [ByteArray.data_extract]
  rw [← List.drop_one, ← List.drop_one, List.drop_take]
theorem mid_size (s : ByteArray) (n m : Nat) (h : s.size ≤ maxLen) : (s.extract n m).size ≤ maxLen := by
  have : (s.extract n m).size ≤ s.size := by simp; omega
  omega
theorem get_getD (s : ByteArray) (j : Nat) (h : j < s.size) : s.data.toList[j]?.getD 0 = s[j]'h := by rw [get_list_ s j h]; rfl
theorem u8_76 (c : UInt8) : ((c.toNat : Int) == 76) = (c == 76) := u8_eq c 76 (by omega)
theorem u8_59 (c : UInt8) : ((c.toNat : Int) == 59) = (c == 59) := u8_eq c 59 (by omega)

set_option maxHeartbeats 1000000 in
theorem desc_Field (s : ByteArray) (w : World) (hs : s.size ≤ maxLen) :
    Calls Try.prog 45 #[.string s] w fun e w' => e = .returned (.bool (fldB s.data.toList)) ∧ Kept w w' := by
  have C := desc_Class (s.extract 1 (s.size - 1)) w (mid_size s _ _ hs)
  rw [mid_list s s.size rfl] at C
  by_cases h1 : s.data.toList = [73]
  · have e1 := strl_eq h1
    have HR := Lib.hid (show fldB s.data.toList = true by unfold fldB; rw [h1]; rfl)
    clear h1 C
    go_enter Try.func45, Try.ntmps45
    go_wp2_with fail
    go_ret
    exact ⟨ret_bool HR.out.symm, Below.refl _ _⟩
  have e1 := strl_ne h1
  have HF := Lib.hid (show fldB s.data.toList = (decide (2 < s.size) && decide (s.size ≤ 255) && (s.data.toList[0]?.getD 0 == 76) && (s.data.toList[s.size - 1]?.getD 0 == 59) && clsB (midL s.data.toList)) by
    unfold fldB
    have a1 : (s.data.toList == [73]) = false := by simpa using h1
    rw [a1, size_list]; rfl)
  clear h1
  unfold maxLen at hs
  by_cases h2 : 2 < s.size
  case neg =>
    have h2' : ¬ ((2 : Int) < (s.size : Int)) := by omega
    have HR := Lib.hid (show fldB s.data.toList = false by rw [HF.out, decide_eq_false h2]; rfl)
    clear C HF
    go_enter Try.func45, Try.ntmps45
    go_wp2_with fail
    go_ret
    exact ⟨ret_bool HR.out.symm, Below.refl _ _⟩
  by_cases h3 : s.size ≤ 255
  case neg =>
    have h3' : ¬ ((s.size : Int) ≤ 255) := by omega
    have HR := Lib.hid (show fldB s.data.toList = false by rw [HF.out, decide_eq_false h3, Bool.and_false]; rfl)
    clear C HF
    go_enter Try.func45, Try.ntmps45
    go_wp2_with fail
    go_ret
    exact ⟨ret_bool HR.out.symm, Below.refl _ _⟩
  have HF2 := Lib.hid (show fldB s.data.toList = ((((s[0]'(by omega)).toNat : Int) == 76) && (((s[s.size - 1]'(by omega)).toNat : Int) == 59) && clsB (midL s.data.toList)) by
    rw [HF.out, decide_eq_true h2, decide_eq_true h3, get_getD s 0 (by omega), get_getD s (s.size - 1) (by omega), u8_76, u8_59]; rfl)
  clear HF
  have hsub : ((s.size : Int) - 1) = ((s.size - 1 : Nat) : Int) := by omega
  have h2' : (2 : Int) < (s.size : Int) := by omega
  have h3' : (s.size : Int) ≤ 255 := by omega
  cases h4 : (((s[0]'(by omega)).toNat : Int) == 76) with
  | false =>
    have HR := Lib.hid (show fldB s.data.toList = false by rw [HF2.out, h4]; rfl)
    clear C HF2
    go_enter Try.func45, Try.ntmps45
    go_wp2_with fail
    go_ret
    exact ⟨ret_bool HR.out.symm, Below.refl _ _⟩
  | true =>
    cases h5 : (((s[s.size - 1]'(by omega)).toNat : Int) == 59) with
    | false =>
      have HR := Lib.hid (show fldB s.data.toList = false by rw [HF2.out, h4, h5]; rfl)
      clear C HF2
      go_enter Try.func45, Try.ntmps45
      go_wp2_with fail
      go_ret
      exact ⟨ret_bool HR.out.symm, Below.refl _ _⟩
    | true =>
      have HR := Lib.hid (show fldB s.data.toList = clsB (midL s.data.toList) by rw [HF2.out, h4, h5]; rfl)
      clear HF2
      go_enter Try.func45, Try.ntmps45
      go_wp2_with fail
      refine C.mono ?_
      rintro e w1 ⟨rfl, k1⟩
      clear C
      go_wp2_with fail
      go_ret
      exact ⟨ret_bool HR.out.symm, k1⟩
end Go.Proofs.Ytcklmhbcjgiplaa
