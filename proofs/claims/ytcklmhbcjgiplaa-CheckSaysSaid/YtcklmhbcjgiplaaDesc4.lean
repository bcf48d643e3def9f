/-
  Descriptors by contract: desc.parts, an iterator.
-/
import Derived.Test.YtcklmhbcjgiplaaDesc3
import Derived.Test.YtcklmhbcjgiplaaRangeX
import Derived.Test.YtcklmhbcjgiplaaScope
import Derived.Deep.LoopGhost
import Derived.Deep.CutBlock
import Derived.RangeFuncNested
import Derived.RangeFuncBound
import Derived.RangeFuncCalls
namespace Go.Proofs.Ytcklmhbcjgiplaa
set_option linter.unusedVariables false
set_option linter.unusedSimpArgs false
open Go.RowKit Go.Shelf
set_option maxRecDepth 100000
attribute [local go_sem] Oper.semAt_some

/-- So many first parts, and what is left. -/
def Cuts : List (List UInt8) → List UInt8 → List UInt8 → Prop
  | [], rest, l => l = rest
  | p :: ps, rest, l => l ≠ [] ∧ p = l.take (cutN l) ∧ Cuts ps rest (l.drop (cutN l))
theorem Cuts.snoc : ∀ {pre : List (List UInt8)} {rest l : List UInt8}, Cuts pre rest l → rest ≠ [] → Cuts (pre ++ [rest.take (cutN rest)]) (rest.drop (cutN rest)) l
  | [], rest, l, h, hn => by
    have h : l = rest := h
    subst h
    exact ⟨hn, rfl, rfl⟩
  | p :: ps, rest, l, h, hn => ⟨h.1, h.2.1, Cuts.snoc h.2.2 hn⟩
theorem Cuts.fn : ∀ {pre : List (List UInt8)} {rest rest' l : List UInt8}, Cuts pre rest l → Cuts pre rest' l → rest = rest'
  | [], rest, rest', l, h, h' => by
    have h : l = rest := h
    have h' : l = rest' := h'
    rw [← h, h']
  | p :: ps, _, _, _, h, h' => Cuts.fn h.2.2 h'.2.2
theorem Cuts.last : ∀ {pre : List (List UInt8)} {x rest' rest l : List UInt8}, Cuts (pre ++ [x]) rest' l → Cuts pre rest l → rest ≠ [] ∧ x = rest.take (cutN rest) ∧ rest' = rest.drop (cutN rest)
  | [], x, rest', rest, l, h, h' => by
    have h' : l = rest := h'
    subst h'
    exact ⟨h.1, h.2.1, h.2.2.symm⟩
  | p :: ps, x, rest', rest, l, h, h' => Cuts.last h.2.2 h'.2.2
theorem Cuts.len : ∀ {pre : List (List UInt8)} {rest l : List UInt8}, Cuts pre rest l → pre.length + rest.length ≤ l.length
  | [], rest, l, h => by
    have h : l = rest := h
    subst h; simp
  | p :: ps, rest, l, h => by
    have := Cuts.len h.2.2
    rw [List.length_drop] at this
    cases l with
    | nil => exact absurd rfl h.1
    | cons c r =>
      have h1 := cutN_pos (c := c) (r := r)
      have h2 := cutN_le (c := c) (r := r)
      simp only [List.length_cons] at *
      omega
def strE (p : List UInt8) : Value := .string ⟨p.toArray⟩

theorem desc_parts (s : ByteArray) (w : World) :
    Calls Try.prog 83 #[.string s] w fun e w' => e = .returned (.func (.func 94) #[] #[.pointer (some ⟨w.heap.size, 0, none⟩)]) ∧ w' = w.alloc (.cells #[.string s] 9) := by
  go_enter Try.func83, Try.ntmps83
  go_wp2
  go_ret
  exact ⟨rfl, rfl⟩
theorem index_idx {l : List UInt8} {c : UInt8} : Lib.indexByte l c = match idxB c l with
    | some i => (i : Int)
    | none => -1 := by
  induction l with
  | nil => rfl
  | cons d r ih =>
    unfold Lib.indexByte idxB
    by_cases h : d = c
    · rw [if_pos h, if_pos (by simpa using h)]; rfl
    · rw [if_neg h, if_neg (by simpa using h), ih]
      cases idxB c r with
      | none => rfl
      | some i =>
        simp only [Option.map_some]
        have h1 : ¬ (((i : Int) == -1) = true) := by
          intro e
          have := eq_of_beq e
          omega
        rw [if_neg h1]
        push_cast
        rfl

set_option maxHeartbeats 4000000 in
theorem parts_seq (n : Nat) (hn : 2 ≤ n) (s : ByteArray) (W0 : World) (b B : Nat) (X0 : Nat → Prop) (hs : s.size ≤ maxLen) (hb : Blk W0 b 9 #[.string s]) (hx : X0 b) (hX0 : ∀ k, X0 k → k < W0.heap.size) :
    SeqX Fence.wide n Try.prog 94 #[.pointer (some ⟨b, 0, none⟩)] strE (fun xs => Cuts xs [] s.data.toList) (fun pre => ∃ rest, Cuts pre rest s.data.toList) s.size B X0 W0 := fun l J Jx hJ hJx hY h0 => by
  refine callsIn_of_wp Try.func94 rfl trivial ?_ rfl
  refine wpIn_wide.2 ?_
  simp only [Try.ntmps94, List.size_toArray, List.length_cons, List.length_nil, Nat.reduceAdd, Nat.reduceSub, Array.replicate_succ, Array.replicate_zero, List.push_toArray, List.append_toArray, List.nil_append, List.cons_append]
  have HJ := Lib.hid hJ
  have HJx := Lib.hid hJx
  have HY := Lib.hid hY
  have H0 := Lib.hid h0
  have HX0 := Lib.hid hX0
  have HB := Lib.hid hb
  have HX := Lib.hid hx
  clear hJ hJx hY h0 hX0 hb hx
  go_wp2_with fail
  go_loopg [3] s.size (fun g s3 wr => ∃ (pre : List (List UInt8)) (R : ByteArray), R.size ≤ g ∧ R.size ≤ maxLen ∧ Cuts pre R.data.toList s.data.toList ∧ J pre X0 wr ∧ Blk wr b 9 #[.string R] ∧ W0.heap.size ≤ wr.heap.size)
  case atStart => exact ⟨[], s, Nat.le_refl _, hs, rfl, H0.out, HB.out, Nat.le_refl _⟩
  case round =>
    obtain ⟨pre, R, hg, hR, hcut, hj, hbk, hsz⟩ := hrel
    have HC := Lib.hid hcut
    have HJ1 := Lib.hid hj
    have HBK := Lib.hid hbk
    have c0 := hbk.cell 0
    have f0 := hbk.frozen 0
    simp only [List.getElem?_toArray, List.getElem?_cons_zero] at c0
    clear hcut hj hbk
    by_cases hz : R.data.toList = []
    · have e0 := strl_nil hz
      have HZ := Lib.hid hz
      clear hz
      go_wp2_with fail
      refine bodyPost_end (results_none rfl _ _ _) rfl ?_
      exact ⟨⟨_, rfl⟩, .inl ⟨_, X0, by have := HC.out; rw [HZ.out] at this; exact this, HJ1.out⟩⟩
    · have e0 := strl_nnil hz
      have e1 := strl_empty hz
      have hzs : 0 < R.size := by
        rcases Nat.eq_zero_or_pos R.size with h0 | h0
        · exact absurd (List.eq_nil_of_length_eq_zero (by rw [size_list]; exact h0)) hz
        · exact h0
      have hRI := hR
      unfold maxLen at hRI
      obtain ⟨q, hq⟩ : ∃ q, q = cutN R.data.toList := ⟨_, rfl⟩
      have hq1 : 1 ≤ q ∧ q ≤ R.size := by
        have h1 := list_cons hzs
        have h2 := cutN_pos (c := R[0]'hzs) (r := R.data.toList.drop 1)
        have h3 := cutN_le (c := R[0]'hzs) (r := R.data.toList.drop 1)
        rw [← h1] at h2 h3
        rw [size_list] at h3
        rw [hq]
        exact ⟨h2, h3⟩
      obtain ⟨hq1, hq2⟩ := hq1
      have HQ := Lib.hid hq
      have HZ := Lib.hid hz
      clear hz hq
      obtain ⟨b76, hb76⟩ : ∃ b : Bool, (((R[0]'hzs).toNat : Int) == 76) = b := ⟨_, rfl⟩
      go_upto_if 8 with fail
      have HB76 := Lib.hid hb76
      clear hb76
      go_cut [3] from 9 to 15 (fun s3 wx => s3 = .int .i64 q ∧ wr = wx)
      case first =>
        have C := strings_index R 59 wr
        rw [show ((59 : Int).toNat.toUInt8) = (59 : UInt8) from rfl, index_idx] at C
        have h76 := HB76.out
        clear HB76
        cases b76 with
        | false =>
          have HR := Lib.hid (show q = 1 by
            rw [HQ.out]; unfold cutN
            rw [get_getD R 0 hzs]
            rw [u8_76] at h76
            rw [if_neg (by simpa using h76)])
          clear h76
          go_wp2_with fail
          go_meet
          exact ⟨by rw [HR.out]; rfl, rfl⟩
        | true =>
          have HR := Lib.hid (show q = (match idxB 59 R.data.toList with
              | some i => i + 1
              | none => R.data.toList.length) by
            rw [HQ.out]; unfold cutN
            rw [get_getD R 0 hzs]
            rw [u8_76] at h76
            rw [if_pos (by simpa using h76)]
            rfl)
          clear h76
          cases hx : idxB 59 R.data.toList with
          | none =>
            rw [hx] at C
            have HR2 := Lib.hid (show q = R.size by rw [HR.out, hx]; simp)
            clear hx
            go_wp2_with fail
            refine C.mono ?_
            rintro e w1 ⟨rfl, rfl⟩
            clear C
            go_wp2_with fail
            go_meet
            exact ⟨by rw [HR2.out], rfl⟩
          | some i =>
            rw [hx] at C
            have HR2 := Lib.hid (show q = i + 1 by rw [HR.out, hx])
            have hil : i < R.size := by have := idxB_lt hx; rwa [size_list] at this
            have e1 : (((i : Int) + 1) == 0) = false := by simp; omega
            clear hx
            go_wp2_with fail
            refine C.mono ?_
            rintro e w1 ⟨rfl, rfl⟩
            clear C
            go_wp2_with fail
            go_meet
            exact ⟨by rw [HR2.out]; go_num, rfl⟩
      case rest =>
      obtain ⟨rfl, rfl⟩ := hcut
      have hcs := HC.out.snoc HZ.out
      rw [← HQ.out] at hcs
      have HCS := Lib.hid hcs
      have hpl := HC.out.len
      rw [size_list, size_list] at hpl
      obtain ⟨fn, tmps, assign, body, hy, hRd⟩ := HY.out pre X0 (R.data.toList.take q) wr HJ1.out (fun k hk => Nat.lt_of_lt_of_le (HX0.out k hk) hsz) (by omega) ⟨_, hcs⟩
      have hse : strE (R.data.toList.take q) = .string (R.extract 0 q) := congrArg Value.string (bytes_eq (take_ext R q)).symm
      rw [hse] at hy
      clear hcs hse
      have hq0 : (0 : Int) ≤ (q : Int) := by omega
      have hqI : (q : Int) ≤ (R.size : Int) := by omega
      go_upto_region 6 with fail
      refine (wpIn_wide (n := n)).1 ?_
      gi_wp2
      refine ⟨fun _ => by omega, hRd.mono ?_⟩
      rintro e W3 (⟨rfl, hJ4, hAp, hBe⟩ | ⟨rfl, hJx4⟩)
      · have hb3 : Blk W3 b 9 #[.string R] := (hAp.same b HX.out HBK.out.lt).trans HBK.out
        have d0 := hb3.cell 0
        have d1 := hb3.frozen 0
        simp only [List.getElem?_toArray, List.getElem?_cons_zero] at d0
        have HB3 := Lib.hid hb3
        have HJ4 := Lib.hid hJ4
        have hz3 : W0.heap.size ≤ W3.heap.size := Nat.le_trans hsz hAp.size
        clear hJ4 hAp hBe hb3 hy hRd c0 f0
        gi_wp2
        go_wp2_with fail
        have hst : Step1 X0 W3 X0 (W3.setCell ⟨b, 0, none⟩ (.string (R.extract q R.size))) := ⟨(Touch.refl X0 W3).setCell (p := ⟨b, 0, none⟩) (.inl HX.out) _, fun _ => id, fun _ => .inl⟩
        go_roundg (gk - 1)
        case rel => exact ⟨_, R.extract q R.size, by simp; omega, mid_size R _ _ hR, by rw [drop_ext]; exact HCS.out, HJ.out _ _ _ _ _ HJ4.out hst, by simpa using HB3.out.set_ 0 (.string (R.extract q R.size)), by simpa using hz3⟩
        case measure => omega
      · have HJ4 := Lib.hid hJx4
        clear hJx4 hy hRd
        gi_wp2
        go_wp2_with fail
        refine bodyPost_ret (results_none rfl _ _ _) rfl ?_
        exact ⟨⟨_, rfl⟩, .inr ⟨_, X0, ⟨_, HCS.out⟩, HJ4.out⟩⟩
end Go.Proofs.Ytcklmhbcjgiplaa
