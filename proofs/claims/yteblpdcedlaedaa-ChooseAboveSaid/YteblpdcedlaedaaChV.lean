/-
  Chapter 13's law ChooseAbove, walked.
-/
import Derived.Test.YteblpdcedlaedaaChU
import Derived.Test.YteblpdcedlaedaaChC
namespace Go.Proofs.Yteblpdcedlaedaa
open Go.RowKit
set_option maxRecDepth 100000

theorem acc13 (sup : Bool) : -9223372036854775808 ≤ accA sup ∧ accA sup ≤ 9223372036854775807 := by cases sup <;> decide
theorem mem13 (W : World) {nm : ByteArray} (h : nm.size ≤ maxLen) : MemberV.Ok W ⟨1, nm, dV, true, 0⟩ :=
  ⟨by show -9223372036854775808 ≤ (1 : Int) ∧ (1 : Int) ≤ 9223372036854775807; decide, h, by show dV.size ≤ maxLen; decide, by show -9223372036854775808 ≤ (0 : Int) ∧ (0 : Int) ≤ 9223372036854775807; decide⟩
theorem bit_or (a : Int) : bits .and .i64 a 1 = 0 ∨ bits .and .i64 a 1 = 1 := by
  have e1 : bits .and .i64 a 1 = (((BitVec.ofInt 64 a).toNat &&& 1 : Nat) : Int) := bits_nat a 1 (by omega)
  rw [e1, Nat.and_one_is_mod]
  omega

set_option maxHeartbeats 8000000 in
theorem walk_ChooseAbove (n d : Int) (sup ini : Bool) (w : World) (hwf : (Lit.int .i64 n).wf = true) (hdf : (Lit.int .i64 d).wf = true) :
    Calls Try.prog 7 #[.int .i64 n, .int .i64 d, .bool sup, .bool ini] w fun e w' => e = .returned (.bool true) ∧ Below w.heap.size w w' := by
  go_enter Try.func7, Try.ntmps7
  go_wp2_with fail
  refine (alive13 _).mono ?_
  rintro e w1 ⟨rfl, k1⟩
  have K1 := Lib.hid k1
  clear k1
  by_cases hn1 : n < 3
  · go_wp2_with fail
    go_ret
    exact ⟨rfl, K1.out⟩
  by_cases hn2 : n > 10
  · go_wp2_with fail
    go_ret
    exact ⟨rfl, K1.out⟩
  obtain ⟨N, rfl⟩ : ∃ N : Nat, n = N := ⟨n.toNat, by omega⟩
  have hN1 : 3 ≤ N := by omega
  have hN2 : N ≤ 10 := by omega
  clear hwf hdf
  go_upto_if 29 with fail
  go_cut [10] from 29 to 29 (fun s10 wx => s10 = .string (nameA ini) ∧ w1 = wx)
  case first =>
    cases ini <;>
    (go_wp2_with fail
     go_meet
     exact ⟨rfl, rfl⟩)
  case rest =>
  obtain ⟨rfl, rfl⟩ := hcut
  obtain ⟨nm, hnm⟩ : ∃ x, x = nameA ini := ⟨_, rfl⟩
  rw [← hnm]
  have HNM := Lib.hid hnm
  clear hnm
  obtain ⟨B, hB⟩ : ∃ B : Nat → Bool, B = fun i : Nat => (bits .and .i64 (d / 2 ^ i) 1 == 1) || ((i : Int) == (N : Int) - 1) := ⟨_, rfl⟩
  have HB := Lib.hid hB
  clear hB
  go_wp2_with fail
  go_loopw [11, 12] (fun s11 s12 wr => ∃ (k : Nat) (R : List TypeV), k ≤ N ∧ s12 = .int .i64 k ∧ ClsS w wr N k k (accA sup) [] (oneM B 1 nm dV) [] s11 R) (fun _ s12 _ => N - (intOf s12).toNat)
  case atStart => exact ⟨0, [], by omega, rfl, ⟨rfl, World.ownsRow_nil _ _ _ _, rfl, by simp, K1.out⟩⟩
  case round =>
    obtain ⟨k, R, hk, rfl, hS⟩ := hrel
    have HS := Lib.hid hS
    clear hS
    by_cases hlt : k < N
    · have hkN : (k : Int) < (N : Int) := by omega
      have zr := HS.out.kept.size
      go_wp2_with fail
      refine (letter13_ k k _ rfl (by omega)).mono ?_
      rintro e w2 ⟨rfl, rfl⟩
      go_upto_region 12 with fail
      have kx : Kept wr (wr.alloc (.cells #[.string (letterS k), .string ⟨#[]⟩, .int .i64 1, .slice none 0 0, .slice none 0 0, .slice none 0 0] 36)) := (Below.refl _ _).alloc (Nat.le_refl _) _
      have bx := Blk.new wr 36 #[.string (letterS k), .string ⟨#[]⟩, .int .i64 1, .slice none 0 0, .slice none 0 0, .slice none 0 0]
      obtain ⟨gt, hgt⟩ : ∃ x, x = wr.heap.size := ⟨_, rfl⟩
      rw [← hgt] at bx ⊢
      have zg : wr.heap.size ≤ gt := Nat.le_of_eq hgt.symm
      have ZG := Lib.hid zg
      generalize (wr.alloc (.cells #[.string (letterS k), .string ⟨#[]⟩, .int .i64 1, .slice none 0 0, .slice none 0 0, .slice none 0 0] 36)) = X at *
      have KX := Lib.hid kx
      have BX := Lib.hid bx
      clear hgt kx bx zg
      go_upto_if 38 with fail
      go_cut [13] from 38 to 39 (fun s13 wx => s13 = .pointer (some ⟨gt, 0, none⟩) ∧ Kept wr wx ∧ Blk wx gt 36 #[.string (letterS k), .string ⟨#[]⟩, .int .i64 (accA sup), .slice none 0 0, .slice none 0 0, .slice none 0 0])
      case first =>
        have c2 := BX.out.cell 2
        have f2 := BX.out.frozen 2
        simp only [List.getElem?_toArray, List.getElem?_cons_succ, List.getElem?_cons_zero] at c2
        cases sup with
        | true =>
          go_wp2_with fail
          go_meet
          exact ⟨rfl, KX.out.setCell ZG.out _, by simpa [accA] using BX.out.set_ 2 (.int .i64 33)⟩
        | false =>
          go_wp2_with fail
          go_meet
          exact ⟨rfl, KX.out, by simpa [accA] using BX.out⟩
      case rest =>
      clear KX BX
      obtain ⟨rfl, kx, bx⟩ := hcut
      rename World => X1
      have KX := Lib.hid kx
      have BX := Lib.hid bx
      clear kx bx
      go_upto_if 43 with fail
      go_cut [13] from 43 to 47 (fun s13 wx => s13 = .pointer (some ⟨gt, 0, none⟩) ∧ Kept wr wx ∧ Blk wx gt 36 #[.string (letterS k), .string (supN N k), .int .i64 (accA sup), .slice none 0 0, .slice none 0 0, .slice none 0 0])
      case first =>
        have c1 := BX.out.cell 1
        have f1 := BX.out.frozen 1
        simp only [List.getElem?_toArray, List.getElem?_cons_succ, List.getElem?_cons_zero] at c1
        by_cases hs : k + 1 < N
        · have hs' : (k : Int) + 1 < (N : Int) := by omega
          have HSUP := Lib.hid (show supN N k = letterS (k + 1) by unfold supN; rw [if_pos hs])
          go_wp2_with fail
          refine (letter13_ _ (k + 1) _ (by omega) (by omega)).mono ?_
          rintro e w2 ⟨rfl, rfl⟩
          go_wp2_with fail
          go_meet
          exact ⟨rfl, KX.out.setCell ZG.out _, by rw [HSUP.out]; simpa using BX.out.set_ 1 (.string (letterS (k + 1)))⟩
        · have hs' : ¬ ((k : Int) + 1 < (N : Int)) := by omega
          have HSUP := Lib.hid (show supN N k = ⟨#[]⟩ by unfold supN; rw [if_neg hs])
          go_wp2_with fail
          go_meet
          exact ⟨rfl, KX.out, by rw [HSUP.out]; exact BX.out⟩
      case rest =>
      clear KX BX
      obtain ⟨rfl, kx, bx⟩ := hcut
      rename World => X2
      have KX := Lib.hid kx
      have BX := Lib.hid bx
      clear kx bx
      go_upto_region 16 with fail
      go_cut [59] from 48 to 59 (fun s59 wx => s59 = .bool (B k) ∧ X2 = wx)
      case first =>
        go_wp2_with fail
        all_goals
          rename_i hb
          go_meet
          refine ⟨?_, rfl⟩
          rw [HB.out] <;> simp [hb]
      case rest =>
      obtain ⟨rfl, rfl⟩ := hcut
      obtain ⟨b, hb⟩ : ∃ b, b = B k := ⟨_, rfl⟩
      rw [← hb]
      have HBK := Lib.hid hb
      clear hb
      go_upto_if 59 with fail
      go_cut [13] from 60 to 63 (fun s13 wx => ∃ mv, s13 = .pointer (some ⟨gt, 0, none⟩) ∧ Kept wr wx ∧ Blk wx gt 36 #[.string (letterS k), .string (supN N k), .int .i64 (accA sup), .slice none 0 0, .slice none 0 0, mv] ∧ OneY wx mv (oneM B 1 nm dV k))
      case first =>
        have c5 := BX.out.cell 5
        have f5 := BX.out.frozen 5
        have zq := BX.out.lt
        have zn : ¬ (gt = X2.heap.size) := Nat.ne_of_lt zq
        have nn5 := World.new_ne _ _ c5
        simp only [List.getElem?_toArray, List.getElem?_cons_succ, List.getElem?_cons_zero] at c5
        cases b with
        | true =>
          go_wp2_with fail
          go_meet
          exact ⟨_, rfl, (KX.out.setCell ZG.out _).alloc (KX.out.setCell ZG.out _).size _, by simpa using (BX.out.set_ 5 (.slice (some ⟨X2.heap.size, 0, none⟩) 1 1)).alloc _, .inr ⟨X2.heap.size, ⟨1, nm, dV, true, 0⟩, mem13 _ (by rw [HNM.out]; cases ini <;> decide), rfl, by unfold oneM; rw [← HBK.out]; rfl, blk_at_ (by simp)⟩⟩
        | false =>
          go_wp2_with fail
          go_meet
          exact ⟨_, rfl, KX.out, BX.out, .inl ⟨rfl, by unfold oneM; rw [← HBK.out]; rfl⟩⟩
      case rest =>
      clear KX BX
      obtain ⟨mv, rfl, kx, bx, hmv⟩ := hcut
      rename World => X3
      have KX := Lib.hid kx
      have BX := Lib.hid bx
      have HMV := Lib.hid hmv
      have hms : ∃ a n c, mv = .slice a n c := by
        rcases hmv with ⟨rfl, _⟩ | ⟨h, m, _, rfl, _, _⟩
        · exact ⟨_, _, _, rfl⟩
        · exact ⟨_, _, _, rfl⟩
      obtain ⟨am, nq, cq, rfl⟩ := hms
      have OW := Lib.hid ((Touch.of_kept kx).own HS.out.own fun _ _ => id)
      have zw : w.heap.size ≤ X3.heap.size := Nat.le_trans zr kx.size
      clear kx bx hmv
      have c0 := BX.out.cell 0
      have c1 := BX.out.cell 1
      have c2 := BX.out.cell 2
      have c3 := BX.out.cell 3
      have c4 := BX.out.cell 4
      have c5 := BX.out.cell 5
      simp only [List.getElem?_toArray, List.getElem?_cons_succ, List.getElem?_cons_zero] at c0 c1 c2 c3 c4 c5
      go_wp2_with (at_builtin; refine wpl_pushH _ elem_typ rfl _ _ rfl w.heap.size _ k _ rfl OW.out (encTypeV (mets (letterS k) (supN N k) (accA sup) (.slice none 0 0) [] (.slice am nq cq) (oneM B 1 nm dV k))) _ X3.heap.size rfl (by simp) rfl (by intro u hu; simp [encTypeV, mets] at hu; rcases hu with rfl | rfl | rfl | rfl | rfl <;> rfl) (by omega) (by omega) zw ?_; intro v5 w5 ho5 hg5 hk5 hb5; have HO5 := Lib.hid ho5; have HG5 := Lib.hid hg5; clear ho5 hg5 hk5 hb5)
      go_roundw
      case rel => exact ⟨k + 1, _, by omega, by go_num, cls_next HS.out KX.out _ ⟨lsz13 (by omega), sup13 (by omega), acc13 sup, ⟨rfl, rfl⟩, .inl ⟨rfl, rfl⟩, HMV.out⟩ rfl HO5.out HG5.out⟩
      case measure => simp [intOf]; omega
    · have hkN : k = N := by omega
      subst hkN
      have hT := HS.out.tyR (by omega)
      rw [List.nil_append] at hT
      obtain ⟨D, hD⟩ : ∃ D, D = rowK k k (accA sup) [] (oneM B 1 nm dV) := ⟨_, rfl⟩
      rw [← hD] at hT
      have HT := Lib.hid hT
      have HD := Lib.hid hD
      have KR := Lib.hid HS.out.kept
      clear hT hD HS
      have hkN : ¬ ((k : Int) < (k : Int)) := by omega
      go_upto_region 20 with fail
      go_cut [74] from 70 to 74 (fun s74 wx => s74 = .bool (sup && !ini) ∧ wr = wx)
      case first =>
        cases sup <;> cases ini <;>
        (go_wp2_with fail
         go_meet
         exact ⟨rfl, rfl⟩)
      case rest =>
      obtain ⟨rfl, rfl⟩ := hcut
      obtain ⟨q, hq⟩ : ∃ q, q = (sup && !ini) := ⟨_, rfl⟩
      rw [← hq]
      have HQ := Lib.hid (show startA k sup ini = if q = true then 1 else k - 1 by rw [hq]; cases sup <;> cases ini <;> rfl)
      clear hq
      go_upto_if 74 with fail
      go_cut [14] from 74 to 74 (fun s14 wx => s14 = .int .i64 (startA k sup ini : Nat) ∧ wr = wx)
      case first =>
        have h1 : (k : Int) - 1 = ((k - 1 : Nat) : Int) := by omega
        have H1 := Lib.hid h1
        clear h1
        cases q with
        | true =>
          go_wp2_with fail
          go_meet
          exact ⟨by rw [HQ.out]; rfl, rfl⟩
        | false =>
          go_wp2_with fail
          go_meet
          exact ⟨by rw [HQ.out]; exact val_int H1.out, rfl⟩
      case rest =>
      obtain ⟨rfl, rfl⟩ := hcut
      have hsn : startA k sup ini < k := by rw [HQ.out]; split <;> omega
      obtain ⟨sA, hsA⟩ : ∃ x, x = startA k sup ini := ⟨_, rfl⟩
      rw [← hsA] at hsn ⊢
      have HSA := Lib.hid hsA
      clear hsA
      have hBl : B (k - 1) = true := by rw [HB.out]; simp; right; omega
      have HBL := Lib.hid hBl
      clear hBl
      go_wp2_with fail
      go_loopw [14] (fun s14 wq => ∃ p : Nat, s14 = .int .i64 p ∧ sA ≤ p ∧ p < k ∧ (∀ i, sA ≤ i → i < p → B i = false) ∧ wr = wq) (fun s14 _ => k - (intOf s14).toNat)
      case atStart => exact ⟨sA, rfl, Nat.le_refl _, hsn, fun i h1 h2 => by omega, rfl⟩
      case round =>
        obtain ⟨p, rfl, hp1, hp2, hpn, rfl⟩ := hrel
        have HPN := Lib.hid hpn
        clear hpn
        by_cases hpl : p + 1 < k
        · have hpl' : (p : Int) < (k : Int) - 1 := by omega
          rcases bit_or (d / 2 ^ p) with hb0 | hb1
          · have e0 : (bits .and .i64 (d / 2 ^ p) 1 == 0) = true := by simp [hb0]
            have HBP := Lib.hid (show B p = false by rw [HB.out]; simp [hb0]; omega)
            clear hb0
            go_wp2_with fail
            go_roundw
            case rel => exact ⟨p + 1, by go_num, by omega, hpl, fun i h1 h2 => by
              by_cases e : i = p
              · rw [e]; exact HBP.out
              · exact HPN.out i h1 (by omega), by first | rfl | trivial⟩
            case measure => simp [intOf]; omega
          · have e0 : (bits .and .i64 (d / 2 ^ p) 1 == 0) = false := by simp [hb1]
            have e1 : ¬ (bits .and .i64 (d / 2 ^ p) 1 = 0) := by rw [hb1]; decide
            have HBP := Lib.hid (show B p = true by rw [HB.out]; simp [hb1])
            clear hb1
            go_wp2_with fail
            have R1 := Lib.hid (show resG (specR D (letterS 0) (letterS (k - 1)) nm dV) = .tuple #[.agg #[.string (letterS p), .int .i64 0], .string ⟨#[]⟩] by
              have h1 := above_plain (n := k) (sup := sup) (ini := ini) (d := B) (p := p) hN1 (by omega) (by rw [← HSA.out]; exact hp1) hp2 HBP.out (by rw [← HSA.out]; exact HPN.out)
              rw [← HNM.out, ← HD.out] at h1
              rw [h1]
              rfl)
            refine (letter13_ 0 0 _ rfl (by omega)).mono ?_
            rintro e w2 ⟨rfl, rfl⟩
            go_wp2_with fail
            refine (letter13_ _ (k - 1) _ (by omega) (by omega)).mono ?_
            rintro e w2 ⟨rfl, rfl⟩
            go_wp2_with fail
            refine (ch_Special D (letterS 0) (letterS (k - 1)) nm dV _ wr HT.out (lsz13 (by omega)) (lsz13 (by omega))).mono ?_
            rintro e x4 ⟨rfl, k4⟩
            rw [R1.out]
            have k5 : Kept w (x4.alloc (.cells #[.string (letterS p), .int .i64 0] 24)) := (Below.trans KR.out (k4.mono KR.out.size)).alloc (Below.trans KR.out (k4.mono KR.out.size)).size _
            have b5 := Blk.new x4 24 #[.string (letterS p), .int .i64 0]
            obtain ⟨g5, hg5⟩ : ∃ x, x = x4.heap.size := ⟨_, rfl⟩
            rw [← hg5] at b5
            go_upto_region 25 with fail
            rw [← hg5]
            generalize (x4.alloc (.cells #[.string (letterS p), .int .i64 0] 24)) = X5 at *
            have K5 := Lib.hid k5
            have c0 := b5.cell 0
            have c1 := b5.cell 1
            simp only [List.getElem?_toArray, List.getElem?_cons_succ, List.getElem?_cons_zero] at c0 c1
            clear hg5 k5 b5 k4
            go_quiet ((go_at_call 18; exact quiet_l (letter13_ p p _ rfl (by omega))))
            go_wp2_with fail
            go_ret
            exact ⟨rfl, kept_drewN K5.out _⟩
        · have hpl' : ¬ ((p : Int) < (k : Int) - 1) := by omega
          have HBP := Lib.hid (show B p = true by rw [show p = k - 1 by omega]; exact HBL.out)
          go_wp2_with fail
          have R1 := Lib.hid (show resG (specR D (letterS 0) (letterS (k - 1)) nm dV) = .tuple #[.agg #[.string (letterS p), .int .i64 0], .string ⟨#[]⟩] by
            have h1 := above_plain (n := k) (sup := sup) (ini := ini) (d := B) (p := p) hN1 (by omega) (by rw [← HSA.out]; exact hp1) hp2 HBP.out (by rw [← HSA.out]; exact HPN.out)
            rw [← HNM.out, ← HD.out] at h1
            rw [h1]
            rfl)
          refine (letter13_ 0 0 _ rfl (by omega)).mono ?_
          rintro e w2 ⟨rfl, rfl⟩
          go_wp2_with fail
          refine (letter13_ _ (k - 1) _ (by omega) (by omega)).mono ?_
          rintro e w2 ⟨rfl, rfl⟩
          go_wp2_with fail
          refine (ch_Special D (letterS 0) (letterS (k - 1)) nm dV _ wr HT.out (lsz13 (by omega)) (lsz13 (by omega))).mono ?_
          rintro e x4 ⟨rfl, k4⟩
          rw [R1.out]
          have k5 : Kept w (x4.alloc (.cells #[.string (letterS p), .int .i64 0] 24)) := (Below.trans KR.out (k4.mono KR.out.size)).alloc (Below.trans KR.out (k4.mono KR.out.size)).size _
          have b5 := Blk.new x4 24 #[.string (letterS p), .int .i64 0]
          obtain ⟨g5, hg5⟩ : ∃ x, x = x4.heap.size := ⟨_, rfl⟩
          rw [← hg5] at b5
          go_upto_region 25 with fail
          rw [← hg5]
          generalize (x4.alloc (.cells #[.string (letterS p), .int .i64 0] 24)) = X5 at *
          have K5 := Lib.hid k5
          have c0 := b5.cell 0
          have c1 := b5.cell 1
          simp only [List.getElem?_toArray, List.getElem?_cons_succ, List.getElem?_cons_zero] at c0 c1
          clear hg5 k5 b5 k4
          go_quiet ((go_at_call 18; exact quiet_l (letter13_ p p _ rfl (by omega))))
          go_wp2_with fail
          go_ret
          exact ⟨rfl, kept_drewN K5.out _⟩
end Go.Proofs.Yteblpdcedlaedaa
