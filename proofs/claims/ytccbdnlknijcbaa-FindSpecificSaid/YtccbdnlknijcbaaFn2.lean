/-
  Chapter 12's law FindNear, walked.
-/
import Derived.Test.YtccbdnlknijcbaaFn1
namespace Go.Proofs.Ytccbdnlknijcbaa
open Go.RowKit
set_option maxRecDepth 100000

def MRf (dc : Nat → Bool) (s i : Nat) (m : ByteArray) : Prop := (m = ⟨#[]⟩ ∧ ∀ j, s ≤ j → j < i → dc j = false) ∨ ∃ p, s ≤ p ∧ p < i ∧ dc p = true ∧ (∀ j, s ≤ j → j < p → dc j = false) ∧ m = letterS p
def FRf (dc fc : Nat → Bool) (s i : Nat) (f : ByteArray) : Prop := (f = ⟨#[]⟩ ∧ ∀ j, s ≤ j → j < i → dc j = false ∧ fc j = false) ∨
  ∃ p, s ≤ p ∧ p < i ∧ (∀ j, s ≤ j → j < p → dc j = false ∧ fc j = false) ∧ ((dc p = true ∧ f = letterS p) ∨ (dc p = false ∧ fc p = true ∧ f = letterS (13 + p)))
theorem letter_nil {p : Nat} (h : p < 26) : letterS p ≠ ⟨#[]⟩ := fun e => by
  have h1 := letter_sz p h
  rw [e] at h1
  cases h1
theorem m_next12 {dc : Nat → Bool} {F i : Nat} {m m1 : ByteArray} {b1 : Bool} (h : MRf dc F i m) (hi : F ≤ i) (h26 : i < 26) (hb1 : b1 = (decide (m = ⟨#[]⟩) && dc i)) (hm1 : m1 = (if b1 = true then letterS i else m)) : MRf dc F (i + 1) m1 := by
  rcases h with ⟨rfl, h⟩ | ⟨p, h1, h2, h3, h4, rfl⟩
  · rw [decide_eq_true rfl, Bool.true_and] at hb1
    subst hb1
    cases hd : dc i with
    | true =>
      rw [hd, if_pos rfl] at hm1
      exact .inr ⟨i, hi, by omega, hd, h, hm1⟩
    | false =>
      rw [hd, if_neg (by decide)] at hm1
      exact .inl ⟨hm1, fun j h1 h2 => by rcases Nat.lt_or_eq_of_le (Nat.le_of_lt_succ h2) with h3 | rfl; exact h j h1 h3; exact hd⟩
  · rw [decide_eq_false (letter_nil (by omega)), Bool.false_and] at hb1
    subst hb1
    rw [if_neg (by decide)] at hm1
    exact .inr ⟨p, h1, by omega, h3, h4, hm1⟩
theorem f_next12 {dc fc : Nat → Bool} {F i : Nat} {f f1 f2 : ByteArray} {b1 b2 : Bool} (h : FRf dc fc F i f) (hi : F ≤ i) (h26 : 13 + i < 26) (hb1 : b1 = (decide (f = ⟨#[]⟩) && dc i)) (hf1 : f1 = (if b1 = true then letterS i else f))
    (hb2 : b2 = (decide (f1 = ⟨#[]⟩) && fc i)) (hf2 : f2 = (if b2 = true then letterS (13 + i) else f1)) : FRf dc fc F (i + 1) f2 := by
  rcases h with ⟨rfl, h⟩ | ⟨p, h1, h2, h3, h4⟩
  · rw [decide_eq_true rfl, Bool.true_and] at hb1
    subst hb1
    cases hd : dc i with
    | true =>
      rw [hd, if_pos rfl] at hf1
      subst hf1
      rw [decide_eq_false (letter_nil (by omega)), Bool.false_and] at hb2
      subst hb2
      rw [if_neg (by decide)] at hf2
      exact .inr ⟨i, hi, by omega, h, .inl ⟨hd, hf2⟩⟩
    | false =>
      rw [hd, if_neg (by decide)] at hf1
      subst hf1
      rw [decide_eq_true rfl, Bool.true_and] at hb2
      subst hb2
      cases hc : fc i with
      | true =>
        rw [hc, if_pos rfl] at hf2
        exact .inr ⟨i, hi, by omega, h, .inr ⟨hd, hc, hf2⟩⟩
      | false =>
        rw [hc, if_neg (by decide)] at hf2
        exact .inl ⟨hf2, fun j h1 h2 => by rcases Nat.lt_or_eq_of_le (Nat.le_of_lt_succ h2) with h3 | rfl; exact h j h1 h3; exact ⟨hd, hc⟩⟩
  · have hn : f ≠ ⟨#[]⟩ := by
      rcases h4 with ⟨_, rfl⟩ | ⟨_, _, rfl⟩
      · exact letter_nil (by omega)
      · exact letter_nil (by omega)
    rw [decide_eq_false hn, Bool.false_and] at hb1
    subst hb1
    rw [if_neg (by decide)] at hf1
    subst hf1
    rw [decide_eq_false hn, Bool.false_and] at hb2
    subst hb2
    rw [if_neg (by decide)] at hf2
    subst hf2
    exact .inr ⟨p, h1, by omega, h3, h4⟩
theorem letter_ne_nil {p : Nat} (h : p < 26) : (letterS p).toList.isEmpty = false := by
  rw [ByteArray.toList_eq]
  cases hl : (letterS p).data.toList with
  | nil =>
    have h2 : (letterS p).data.toList.length = (letterS p).size := by simp
    rw [hl, letter_sz p h] at h2
    cases h2
  | cons => rfl
theorem meth_fin {n s : Nat} {dc fc : Nat → Bool} {m : ByteArray} (hn : n < 11) (hs : s < n) (h : MRf dc s n m) :
    ∃ A X, resV (methR (nrK n n dc fc) (letterS s) mB dV) = .tuple #[.agg #[.string A, .int .i64 0], .string X] ∧ ((m = ⟨#[]⟩ ∧ A = ⟨#[]⟩ ∧ X = nmB) ∨ (A = m ∧ X = ⟨#[]⟩ ∧ m.toList.isEmpty = false)) := by
  rcases h with ⟨rfl, h⟩ | ⟨p, h1, h2, h3, h4, rfl⟩
  · rw [nr_meth hn hs (nr_ch_none hn hs h)]
    exact ⟨_, _, rfl, .inl ⟨rfl, rfl, rfl⟩⟩
  · rw [nr_meth hn hs (nr_ch_some hn h1 h2 h3 h4)]
    exact ⟨_, _, rfl, .inr ⟨rfl, rfl, letter_ne_nil (by omega)⟩⟩
theorem field_fin {n s : Nat} {dc fc : Nat → Bool} {f : ByteArray} (hn : n < 11) (hs : s < n) (h : FRf dc fc s n f) :
    ∃ A X, resV (fieldR (nrK n n dc fc) (letterS s) mB iB) = .tuple #[.agg #[.string A, .int .i64 0], .string X] ∧ ((f = ⟨#[]⟩ ∧ A = ⟨#[]⟩ ∧ X = nfB) ∨ (A = f ∧ X = ⟨#[]⟩ ∧ f.toList.isEmpty = false)) := by
  unfold fieldR
  rw [nr_field hn hs]
  rcases h with ⟨rfl, h⟩ | ⟨p, h1, h2, h3, h4⟩
  · rw [nearF_skip (p := n) _ h (by omega) (by omega), Nat.sub_self]
    exact ⟨_, _, rfl, .inl ⟨rfl, rfl, rfl⟩⟩
  · rw [nearF_skip (p := p) _ h3 h1 (by omega), show n - s - (p - s) = (n - p - 1) + 1 by omega, nearF_succ]
    rcases h4 with ⟨h5, rfl⟩ | ⟨h5, h6, rfl⟩
    · rw [if_pos h5]
      exact ⟨_, _, rfl, .inr ⟨rfl, rfl, letter_ne_nil (by omega)⟩⟩
    · rw [if_neg (by rw [h5]; decide), if_pos h6]
      exact ⟨_, _, rfl, .inr ⟨rfl, rfl, letter_ne_nil (by omega)⟩⟩
theorem nr_ct {n : Nat} {dc fc : Nat → Bool} : ∀ t ∈ nrK n n dc fc, t.interfaces.length ≤ 3000 := by
  intro t ht
  unfold nrK at ht
  obtain ⟨j, _, rfl⟩ := List.mem_map.1 ht
  unfold nrT
  split
  · show 1 ≤ 3000; decide
  · show 0 ≤ 3000; decide
theorem strl_nil' {s : ByteArray} (h : s = ⟨#[]⟩) : s.toList = [] := by rw [h, ByteArray.toList_eq]
theorem strl_emp' {s : ByteArray} (h : s = ⟨#[]⟩) : s.toList.isEmpty = true := by rw [h, ByteArray.toList_eq]; rfl
theorem strl_nnil' {s : ByteArray} (h : ¬ s = ⟨#[]⟩) : ¬ s.toList = [] := by
  intro e
  rw [ByteArray.toList_eq] at e
  exact h (ByteArray.ext (Array.toList_inj.1 e))
theorem strl_empty' {s : ByteArray} (h : ¬ s = ⟨#[]⟩) : s.toList.isEmpty = false := by
  cases hl : s.toList with
  | nil => exact absurd hl (strl_nnil' h)
  | cons => rfl
theorem nonempty_facts {v : ByteArray} (h : v.toList.isEmpty = false) : (¬ v.toList = []) ∧ (([] : List UInt8) == v.toList) = false := by
  cases hv : v.toList with
  | nil => rw [hv] at h; cases h
  | cons => exact ⟨by simp, rfl⟩
theorem nm_lit : (nmB.toList == [106, 97, 118, 97, 47, 108, 97, 110, 103, 47, 78, 111, 83, 117, 99, 104, 77, 101, 116, 104, 111, 100, 69, 114, 114, 111, 114]) = true := by rw [ByteArray.toList_eq]; rfl
theorem nf_lit : (nfB.toList == [106, 97, 118, 97, 47, 108, 97, 110, 103, 47, 78, 111, 83, 117, 99, 104, 70, 105, 101, 108, 100, 69, 114, 114, 111, 114]) = true := by rw [ByteArray.toList_eq]; rfl
theorem typ_one (y : TypeV) (h1 : y.interfacesV.oneCell' = true) (h2 : y.fieldsV.oneCell' = true) (h3 : y.methodsV.oneCell' = true) : ∀ u ∈ encTypeV y, u.oneCell' = true := by
  intro u hu
  simp only [encTypeV, List.mem_cons, List.not_mem_nil, or_false] at hu
  rcases hu with rfl | rfl | rfl | rfl | rfl | rfl
  · rfl
  · rfl
  · rfl
  · exact h1
  · exact h2
  · exact h3
theorem typ_one2 {a b : List Value} (ha : ∀ u ∈ a, u.oneCell' = true) (hb : ∀ u ∈ b, u.oneCell' = true) : ∀ u ∈ a ++ b, u.oneCell' = true := fun u hu => (List.mem_append.1 hu).elim (ha u) (hb u)
theorem oneY_form {W : World} {v : Value} {l : List MemberV} (h : OneY W v l) : ∃ a n c, v = .slice a n c := by
  rcases h with ⟨rfl, _⟩ | ⟨h, m, _, rfl, _, _⟩
  · exact ⟨_, _, _, rfl⟩
  · exact ⟨_, _, _, rfl⟩
set_option maxHeartbeats 8000000 in
theorem walk_FindNear (n d fcs fr : Int) (w : World) (hwf : (Lit.int .i64 n).wf = true) (hdf : (Lit.int .i64 d).wf = true) (hcf : (Lit.int .i64 fcs).wf = true) (hff : (Lit.int .i64 fr).wf = true) :
    Calls Try.prog 4 #[.int .i64 n, .int .i64 d, .int .i64 fcs, .int .i64 fr] w fun e w' => e = .returned (.bool true) ∧ Below w.heap.size w w' := by
  go_enter Try.func4, Try.ntmps4
  go_wp2_with fail
  refine (alive12 _).mono ?_
  rintro e w1 ⟨rfl, k1⟩
  have K1 := Lib.hid k1
  clear k1
  by_cases hn1 : n < 1
  · go_wp2_with fail
    go_ret
    exact ⟨rfl, K1.out⟩
  by_cases hn2 : n > 10
  · go_wp2_with fail
    go_ret
    exact ⟨rfl, K1.out⟩
  by_cases hf1 : fr < 0
  · go_wp2_with fail
    go_ret
    exact ⟨rfl, K1.out⟩
  by_cases hf2 : n ≤ fr
  · go_wp2_with fail
    go_ret
    exact ⟨rfl, K1.out⟩
  obtain ⟨N, rfl⟩ : ∃ N : Nat, n = N := ⟨n.toNat, by omega⟩
  obtain ⟨F, rfl⟩ : ∃ N : Nat, fr = N := ⟨fr.toNat, by omega⟩
  have hN1 : 1 ≤ N := by omega
  have hN2 : N ≤ 10 := by omega
  have hNF : F < N := by omega
  clear hwf hff hdf hcf
  obtain ⟨dc, hdc⟩ : ∃ f : Nat → Bool, f = bitB d := ⟨_, rfl⟩
  obtain ⟨fc, hfc⟩ : ∃ f : Nat → Bool, f = bitB fcs := ⟨_, rfl⟩
  have HDC := Lib.hid (show ∀ i : Nat, dc i = (bits .and .i64 (d / 2 ^ i) 1 == 1) by intro i; rw [hdc]; rfl)
  have HFC := Lib.hid (show ∀ i : Nat, fc i = (bits .and .i64 (fcs / 2 ^ i) 1 == 1) by intro i; rw [hfc]; rfl)
  clear hdc hfc
  have zw1 := K1.out.size
  have d1 : decide ((N : Int) < 1) = false := by simp; omega
  have d2 : decide (10 < (N : Int)) = false := by simp; omega
  have d4 : decide ((F : Int) < 0) = false := by simp
  have d5 : decide (N ≤ F) = false := by simp; omega
  go_upto_region 5 with fail
  clear d1 d2 d4 d5
  have hS0 : ListS w w1 (2 * 0) (nrK N 0 dc fc) (.slice none 0 0) [] := ⟨rfl, World.ownsRow_nil _ _ _ _, rfl, by simp, K1.out⟩
  have HS0 := Lib.hid hS0
  clear hS0
  go_wp2_with fail
  go_loopw [10, 11] (fun s10 s11 wr => ∃ (k : Nat) (R : List TypeV), k ≤ N ∧ s11 = .int .i64 k ∧ ListS w wr (2 * k) (nrK N k dc fc) s10 R) (fun _ s11 _ => N - (intOf s11).toNat)
  case atStart => exact ⟨0, _, by omega, rfl, HS0.out⟩
  case round =>
    obtain ⟨k, R, hk, rfl, hS⟩ := hrel
    have HS := Lib.hid hS
    clear hS
    by_cases hlt : k < N
    · have hkN : (k : Int) < (N : Int) := by omega
      have zr := HS.out.kept.size
      go_wp2_with fail
      refine (letter12_ k k _ rfl (by omega)).mono ?_
      rintro e w2 ⟨rfl, rfl⟩
      go_wp2_with fail
      refine (letter12_ _ (13 + k) _ (by omega) (by omega)).mono ?_
      rintro e w2 ⟨rfl, rfl⟩
      go_upto_region 9 with fail
      have kx : Kept wr ((wr.alloc (.cells #[.string (letterS (13 + k))] 9)).alloc (.cells #[.string (letterS k), .string ⟨#[]⟩, .int .i64 33, .slice (some ⟨wr.heap.size, 0, none⟩) 1 1, .slice none 0 0, .slice none 0 0] 27)) := ((Below.refl _ _).alloc (Nat.le_refl _) _).alloc (by simp) _
      have bx : Blk ((wr.alloc (.cells #[.string (letterS (13 + k))] 9)).alloc (.cells #[.string (letterS k), .string ⟨#[]⟩, .int .i64 33, .slice (some ⟨wr.heap.size, 0, none⟩) 1 1, .slice none 0 0, .slice none 0 0] 27)) (wr.heap.size + 1) 27 #[.string (letterS k), .string ⟨#[]⟩, .int .i64 33, .slice (some ⟨wr.heap.size, 0, none⟩) 1 1, .slice none 0 0, .slice none 0 0] := blkN (by simp)
      have bs : Blk ((wr.alloc (.cells #[.string (letterS (13 + k))] 9)).alloc (.cells #[.string (letterS k), .string ⟨#[]⟩, .int .i64 33, .slice (some ⟨wr.heap.size, 0, none⟩) 1 1, .slice none 0 0, .slice none 0 0] 27)) wr.heap.size 9 #[.string (letterS (13 + k))] := (blkN rfl).alloc _
      obtain ⟨gs, hgs⟩ : ∃ x, x = wr.heap.size := ⟨_, rfl⟩
      generalize ((wr.alloc (.cells #[.string (letterS (13 + k))] 9)).alloc (.cells #[.string (letterS k), .string ⟨#[]⟩, .int .i64 33, .slice (some ⟨wr.heap.size, 0, none⟩) 1 1, .slice none 0 0, .slice none 0 0] 27)) = X at *
      rw [← hgs] at bx bs ⊢
      have zg : wr.heap.size ≤ gs := Nat.le_of_eq hgs.symm
      obtain ⟨gt, hgt⟩ : ∃ x, x = gs + 1 := ⟨_, rfl⟩
      rw [← hgt] at bx ⊢
      have ZG := Lib.hid (show wr.heap.size ≤ gt by omega)
      obtain ⟨IV, hIV⟩ : ∃ v, v = Value.slice (some ⟨gs, 0, none⟩) 1 1 := ⟨_, rfl⟩
      have os : OneS X IV [letterS (13 + k)] := .inr ⟨gs, letterS (13 + k), lsz12 (by omega), hIV, rfl, bs⟩
      rw [← hIV] at bx
      have KX := Lib.hid kx
      have BX := Lib.hid bx
      have OS := Lib.hid os
      have HIV := Lib.hid hIV
      clear hgt kx bx bs os zg hIV hgs
      go_upto_if 59 with fail
      go_cut [12] from 59 to 63 (fun s12 wx => s12 = .pointer (some ⟨gt, 0, none⟩) ∧ Kept wr wx ∧ Blk wx gt 27 #[.string (letterS k), .string (supN N k), .int .i64 33, IV, .slice none 0 0, .slice none 0 0] ∧ OneS wx IV [letterS (13 + k)])
      case first =>
        have c1 := BX.out.cell 1
        have f1 := BX.out.frozen 1
        simp only [List.getElem?_toArray, List.getElem?_cons_succ, List.getElem?_cons_zero] at c1
        by_cases hs : k + 1 < N
        · have hs' : (k : Int) + 1 < (N : Int) := by omega
          have HSUP := Lib.hid (show supN N k = letterS (k + 1) by unfold supN; rw [if_pos hs])
          go_wp2_with fail
          refine (letter12_ _ (k + 1) _ (by omega) (by omega)).mono ?_
          rintro e w2 ⟨rfl, rfl⟩
          go_wp2_with fail
          go_meet
          refine ⟨rfl, KX.out.setCell ZG.out _, by rw [HSUP.out]; simpa using BX.out.set_ 1 (.string (letterS (k + 1))), OS.out.touch (S := fun b => b = gt) ((Touch.refl (fun b => b = gt) _).setCell (p := ⟨gt, 1, none⟩) (.inl rfl) _) ?_⟩
          intro b hb _
          rw [hb]
          exact ⟨_, BX.out⟩
        · have hs' : ¬ ((k : Int) + 1 < (N : Int)) := by omega
          have HSUP := Lib.hid (show supN N k = ⟨#[]⟩ by unfold supN; rw [if_neg hs])
          go_wp2_with fail
          go_meet
          exact ⟨rfl, KX.out, by rw [HSUP.out]; exact BX.out, OS.out⟩
      case rest =>
      clear KX BX OS
      obtain ⟨rfl, kx, bx, os⟩ := hcut
      rename World => X2
      have KX := Lib.hid kx
      have BX := Lib.hid bx
      have OS := Lib.hid os
      clear kx bx os
      obtain ⟨b, hb⟩ : ∃ b, b = dc k := ⟨_, rfl⟩
      have HB := Lib.hid hb
      clear hb
      go_upto_region 11 with fail
      go_cut [69] from 64 to 69 (fun s69 wx => s69 = .bool b ∧ X2 = wx)
      case first =>
        go_wp2_with fail
        go_meet
        exact ⟨by rw [HB.out, HDC.out], rfl⟩
      case rest =>
      obtain ⟨rfl, rfl⟩ := hcut
      go_upto_if 69 with fail
      go_cut [12] from 69 to 75 (fun s12 wx => ∃ fv mv, s12 = .pointer (some ⟨gt, 0, none⟩) ∧ Kept wr wx ∧ Blk wx gt 27 #[.string (letterS k), .string (supN N k), .int .i64 33, IV, fv, mv] ∧ OneS wx IV [letterS (13 + k)] ∧ OneY wx fv (nfM b) ∧ OneY wx mv (nmM b))
      case first =>
        have c5 := BX.out.cell 5
        have f5 := BX.out.frozen 5
        have c4 := BX.out.cell 4
        have f4 := BX.out.frozen 4
        have zq := BX.out.lt
        have zn : ¬ (gt = X2.heap.size) := Nat.ne_of_lt zq
        have zn2 : ¬ (gt = X2.heap.size + 1) := by omega
        simp only [List.getElem?_toArray, List.getElem?_cons_succ, List.getElem?_cons_zero] at c5 c4
        cases b with
        | true =>
          go_wp2_with fail
          go_meet
          refine ⟨_, _, rfl, (((KX.out.setCell ZG.out _).setCell (p := ⟨gt, 4, none⟩) ZG.out _).alloc (by have := KX.out.size; simpa using this) _).alloc (by have := KX.out.size; simp; omega) _, by simpa using (((BX.out.set_ 5 (.slice (some ⟨X2.heap.size, 0, none⟩) 1 1)).set_ 4 (.slice (some ⟨X2.heap.size + 1, 0, none⟩) 1 1)).alloc _).alloc _, ?_, .inr ⟨X2.heap.size + 1, ⟨1, mB, iB, false, 0⟩, mem12 _ (by decide) (by decide), rfl, rfl, blkN (by simp)⟩, .inr ⟨X2.heap.size, ⟨1, mB, dV, true, 0⟩, mem12 _ (by decide) (by decide), rfl, rfl, (blkN (by simp)).alloc _⟩⟩
          refine OS.out.touch (S := fun b => b = gt) (((((Touch.refl (fun b => b = gt) _).setCell (p := ⟨gt, 5, none⟩) (.inl rfl) _).setCell (p := ⟨gt, 4, none⟩) (.inl rfl) _).alloc _).alloc _) ?_
          intro b hb _
          rw [hb]
          exact ⟨_, BX.out⟩
        | false =>
          go_wp2_with fail
          go_meet
          exact ⟨_, _, rfl, KX.out, BX.out, OS.out, .inl ⟨rfl, rfl⟩, .inl ⟨rfl, rfl⟩⟩
      case rest =>
      clear KX BX OS
      obtain ⟨fv, mv, rfl, kx, bx, os, of, om⟩ := hcut
      rename World => X3
      have zX3 : wr.heap.size ≤ X3.heap.size := kx.size
      go_wp2_with fail
      refine (letter12_ _ (13 + k) _ (by omega) (by omega)).mono ?_
      rintro e w2 ⟨rfl, rfl⟩
      go_upto_region 15 with fail
      have ky : Kept wr (X3.alloc (.cells #[.string (letterS (13 + k)), .string ⟨#[]⟩, .int .i64 1537, .slice none 0 0, .slice none 0 0, .slice none 0 0] 27)) := kx.alloc kx.size _
      have bz : Blk (X3.alloc (.cells #[.string (letterS (13 + k)), .string ⟨#[]⟩, .int .i64 1537, .slice none 0 0, .slice none 0 0, .slice none 0 0] 27)) X3.heap.size 27 #[.string (letterS (13 + k)), .string ⟨#[]⟩, .int .i64 1537, .slice none 0 0, .slice none 0 0, .slice none 0 0] := Blk.new _ _ _
      have by_ := bx.alloc (.cells #[.string (letterS (13 + k)), .string ⟨#[]⟩, .int .i64 1537, .slice none 0 0, .slice none 0 0, .slice none 0 0] 27)
      have tq : Touch (fun _ => False) X3 (X3.alloc (.cells #[.string (letterS (13 + k)), .string ⟨#[]⟩, .int .i64 1537, .slice none 0 0, .slice none 0 0, .slice none 0 0] 27)) := (Touch.refl _ _).alloc _
      have oy := os.touch tq fun _ h => h.elim
      have ofy := of.touch tq fun _ h => h.elim
      have omy := om.touch tq fun _ h => h.elim
      obtain ⟨gi, hgi⟩ : ∃ x, x = X3.heap.size := ⟨_, rfl⟩
      have zne : gt ≠ gi := by have := bx.lt; omega
      generalize (X3.alloc (.cells #[.string (letterS (13 + k)), .string ⟨#[]⟩, .int .i64 1537, .slice none 0 0, .slice none 0 0, .slice none 0 0] 27)) = X4 at *
      rw [← hgi] at bz ⊢
      have ZI := Lib.hid (show wr.heap.size ≤ gi by omega)
      have KX := Lib.hid ky
      have BX := Lib.hid by_
      have BI := Lib.hid bz
      have OS := Lib.hid oy
      have OF := Lib.hid ofy
      have OM := Lib.hid omy
      clear kx bx os of om ky bz by_ tq oy ofy omy hgi
      obtain ⟨c, hc⟩ : ∃ c, c = fc k := ⟨_, rfl⟩
      have HC := Lib.hid hc
      clear hc
      go_cut [85] from 80 to 85 (fun s85 wx => s85 = .bool c ∧ X4 = wx)
      case first =>
        go_wp2_with fail
        go_meet
        exact ⟨by rw [HC.out, HFC.out], rfl⟩
      case rest =>
      obtain ⟨rfl, rfl⟩ := hcut
      go_upto_if 85 with fail
      go_cut [13] from 85 to 88 (fun s13 wx => ∃ gv, s13 = .pointer (some ⟨gi, 0, none⟩) ∧ Kept wr wx ∧ Blk wx gi 27 #[.string (letterS (13 + k)), .string ⟨#[]⟩, .int .i64 1537, .slice none 0 0, gv, .slice none 0 0] ∧ Blk wx gt 27 #[.string (letterS k), .string (supN N k), .int .i64 33, IV, fv, mv] ∧ OneS wx IV [letterS (13 + k)] ∧ OneY wx fv (nfM b) ∧ OneY wx mv (nmM b) ∧ OneY wx gv (niM c))
      case first =>
        have c4 := BI.out.cell 4
        have f4 := BI.out.frozen 4
        have zq := BI.out.lt
        have zn : ¬ (gi = X4.heap.size) := Nat.ne_of_lt zq
        simp only [List.getElem?_toArray, List.getElem?_cons_succ, List.getElem?_cons_zero] at c4
        cases c with
        | true =>
          go_wp2_with fail
          go_meet
          have ts : ∀ V o, Touch (fun b => b = gi) X4 ((X4.setCell ⟨gi, 4, none⟩ V).alloc o) := fun V o => ((Touch.refl (fun b => b = gi) _).setCell (p := ⟨gi, 4, none⟩) (.inl rfl) _).alloc _
          have ty : ∀ k, k = gi → k < X4.heap.size → TyAt X4 k 27 := fun k hk _ => by rw [hk]; exact ⟨_, BI.out⟩
          exact ⟨_, rfl, (KX.out.setCell ZI.out _).alloc (KX.out.setCell ZI.out _).size _, by simpa using (BI.out.set_ 4 (.slice (some ⟨X4.heap.size, 0, none⟩) 1 1)).alloc _, BX.out.touch (ts _ _) zne, OS.out.touch (ts _ _) ty, OF.out.touch (ts _ _) ty, OM.out.touch (ts _ _) ty, .inr ⟨X4.heap.size, ⟨25, mB, iB, false, 0⟩, mem12 _ (by decide) (by decide), rfl, rfl, blkN (by simp)⟩⟩
        | false =>
          go_wp2_with fail
          go_meet
          exact ⟨_, rfl, KX.out, BI.out, BX.out, OS.out, OF.out, OM.out, .inl ⟨rfl, rfl⟩⟩
      case rest =>
      clear KX BX BI OS OF OM
      obtain ⟨gv, rfl, kx, bi, bx, os, of, om, og⟩ := hcut
      rename World => X5
      have HY := Lib.hid (And.intro os (And.intro of (And.intro om og)))
      obtain ⟨fa, fn, fq, rfl⟩ := oneY_form of
      obtain ⟨ma, mn, mq, rfl⟩ := oneY_form om
      obtain ⟨ga, gn, gq, rfl⟩ := oneY_form og
      have KX := Lib.hid kx
      have OW := Lib.hid ((Touch.of_kept kx).own HS.out.own fun _ _ => id)
      have zw : w.heap.size ≤ X5.heap.size := Nat.le_trans zr kx.size
      have hIV := HIV.out
      subst hIV
      have c0 := bx.cell 0
      have c1 := bx.cell 1
      have c2 := bx.cell 2
      have c3 := bx.cell 3
      have c4 := bx.cell 4
      have c5 := bx.cell 5
      have i0 := bi.cell 0
      have i1 := bi.cell 1
      have i2 := bi.cell 2
      have i3 := bi.cell 3
      have i4 := bi.cell 4
      have i5 := bi.cell 5
      simp only [List.getElem?_toArray, List.getElem?_cons_succ, List.getElem?_cons_zero] at c0 c1 c2 c3 c4 c5 i0 i1 i2 i3 i4 i5
      clear kx bx bi os of om og HIV
      go_wp2_with (at_builtin; refine wpl_pushN _ elem_typ rfl _ _ rfl w.heap.size _ (2 * k) _ rfl OW.out 2 (encTypeV ⟨letterS k, supN N k, 33, .slice (some ⟨gs, 0, none⟩) 1 1, [letterS (13 + k)], .slice fa fn fq, nfM b, .slice ma mn mq, nmM b⟩ ++ encTypeV ⟨letterS (13 + k), ⟨#[]⟩, 1537, .slice none 0 0, [], .slice ga gn gq, niM c, .slice none 0 0, []⟩) _ X5.heap.size rfl (by simp) rfl (typ_one2 (typ_one _ rfl rfl rfl) (typ_one _ rfl rfl rfl)) (by omega) (by omega) zw ?_; intro v5 w5 ho5 hg5; have HO5 := Lib.hid ho5; have HG5 := Lib.hid hg5; clear ho5 hg5)
      go_roundw
      case rel =>
        refine ⟨k + 1, R ++ [⟨letterS k, supN N k, 33, .slice (some ⟨gs, 0, none⟩) 1 1, [letterS (13 + k)], .slice fa fn fq, nfM b, .slice ma mn mq, nmM b⟩, ⟨letterS (13 + k), ⟨#[]⟩, 1537, .slice none 0 0, [], .slice ga gn gq, niM c, .slice none 0 0, []⟩], by omega, by go_num, ?_⟩
        have h5 := HS.out.next KX.out [⟨letterS k, supN N k, 33, .slice (some ⟨gs, 0, none⟩) 1 1, [letterS (13 + k)], .slice fa fn fq, nfM b, .slice ma mn mq, nmM b⟩, ⟨letterS (13 + k), ⟨#[]⟩, 1537, .slice none 0 0, [], .slice ga gn gq, niM c, .slice none 0 0, []⟩] rfl (by
          obtain ⟨q1, q2, q3, q4⟩ := HY.out
          intro y hy
          simp only [List.mem_cons, List.not_mem_nil, or_false] at hy
          rcases hy with rfl | rfl
          · exact ⟨lsz12 (by omega), sup12 (by omega), by show -9223372036854775808 ≤ (33 : Int) ∧ (33 : Int) ≤ 9223372036854775807; decide, q2, q1, q3⟩
          · exact ⟨lsz12 (by omega), by show (ByteArray.mk #[]).size ≤ maxLen; decide, by show -9223372036854775808 ≤ (1537 : Int) ∧ (1537 : Int) ≤ 9223372036854775807; decide, q4, .inl ⟨rfl, rfl⟩, .inl ⟨rfl, rfl⟩⟩) (by simpa using HO5.out) HG5.out
        rw [show 2 * (k + 1) = 2 * k + 2 by omega, nrK_next]
        have e1 : nrC N dc k = ⟨letterS k, supN N k, 33, [letterS (13 + k)], nfM b, nmM b⟩ := by rw [HB.out]; rfl
        have e2 : nrI fc k = ⟨letterS (13 + k), ⟨#[]⟩, 1537, [], niM c, []⟩ := by rw [HC.out]; rfl
        rw [e1, e2]
        exact h5
      case measure => simp [intOf]; omega
    · obtain rfl : k = N := by omega
      have hT := HS.out.tyR (by omega)
      have HKR := Lib.hid HS.out.kept
      obtain ⟨D, hD⟩ : ∃ D, D = nrK k k dc fc := ⟨_, rfl⟩
      rw [← hD] at hT
      have HT := Lib.hid hT
      have HD := Lib.hid hD
      clear hT hD HS
      have hkN : ¬ ((k : Int) < (k : Int)) := by omega
      go_wp2_with fail
      clear hkN
      go_loopw [14, 15, 16] (fun s14 s15 s16 wq => ∃ (i : Nat) (m f : ByteArray), s14 = .string m ∧ s15 = .string f ∧ s16 = .int .i64 i ∧ F ≤ i ∧ i ≤ k ∧ MRf dc F i m ∧ FRf dc fc F i f ∧ wr = wq) (fun _ _ s16 _ => k - (intOf s16).toNat)
      case atStart => exact ⟨F, ⟨#[]⟩, ⟨#[]⟩, rfl, rfl, rfl, Nat.le_refl _, by omega, .inl ⟨rfl, fun j h1 h2 => by omega⟩, .inl ⟨rfl, fun j h1 h2 => by omega⟩, rfl⟩
      case round =>
        obtain ⟨i, m, f, rfl, rfl, rfl, hi1, hi2, hm, hf, rfl⟩ := hrel
        have HM := Lib.hid hm
        have HF := Lib.hid hf
        clear hm hf
        by_cases hlt : i < k
        · have hltI : (i : Int) < (k : Int) := by omega
          obtain ⟨b1, hb1⟩ : ∃ b : Bool, b = (decide (m = ⟨#[]⟩) && dc i) := ⟨_, rfl⟩
          have Hb1 := Lib.hid hb1
          clear hb1
          go_upto_region 23 with fail
          go_cut [109] from 100 to 109 (fun s wx => s = .bool b1 ∧ wr = wx)
          case first =>
            by_cases hm : m = ⟨#[]⟩
            · have HB2 := Lib.hid (show b1 = dc i by rw [Hb1.out, decide_eq_true hm]; rfl)
              have e1 := strl_nil' hm
              have e2 := strl_emp' hm
              clear hm
              go_wp2_with fail
              go_meet
              exact ⟨by rw [HB2.out, HDC.out], rfl⟩
            · have HB2 := Lib.hid (show b1 = false by rw [Hb1.out, decide_eq_false hm]; rfl)
              have e1 := strl_nnil' hm
              have e2 := strl_empty' hm
              clear hm
              go_wp2_with fail
              go_meet
              exact ⟨by rw [HB2.out], rfl⟩
          case rest =>
          obtain ⟨rfl, rfl⟩ := hcut
          obtain ⟨m1, hm1⟩ : ∃ x : ByteArray, x = (if b1 = true then letterS i else m) := ⟨_, rfl⟩
          have Hm1 := Lib.hid hm1
          clear hm1
          go_upto_if 109 with fail
          go_cut [14] from 109 to 111 (fun s wx => s = .string m1 ∧ wr = wx)
          case first =>
            cases b1 with
            | true =>
              go_wp2_with fail
              refine (letter12_ _ (i) _ (by omega) (by omega)).mono ?_
              rintro e w2 ⟨rfl, rfl⟩
              go_wp2_with fail
              go_meet
              exact ⟨by rw [Hm1.out]; rfl, rfl⟩
            | false =>
              go_wp2_with fail
              go_meet
              exact ⟨by rw [Hm1.out]; rfl, rfl⟩
          case rest =>
          obtain ⟨rfl, rfl⟩ := hcut
          obtain ⟨b2, hb2⟩ : ∃ b : Bool, b = (decide (f = ⟨#[]⟩) && dc i) := ⟨_, rfl⟩
          have Hb2 := Lib.hid hb2
          clear hb2
          go_upto_region 25 with fail
          go_cut [121] from 112 to 121 (fun s wx => s = .bool b2 ∧ wr = wx)
          case first =>
            by_cases hm : f = ⟨#[]⟩
            · have HB2 := Lib.hid (show b2 = dc i by rw [Hb2.out, decide_eq_true hm]; rfl)
              have e1 := strl_nil' hm
              have e2 := strl_emp' hm
              clear hm
              go_wp2_with fail
              go_meet
              exact ⟨by rw [HB2.out, HDC.out], rfl⟩
            · have HB2 := Lib.hid (show b2 = false by rw [Hb2.out, decide_eq_false hm]; rfl)
              have e1 := strl_nnil' hm
              have e2 := strl_empty' hm
              clear hm
              go_wp2_with fail
              go_meet
              exact ⟨by rw [HB2.out], rfl⟩
          case rest =>
          obtain ⟨rfl, rfl⟩ := hcut
          obtain ⟨f1, hf1⟩ : ∃ x : ByteArray, x = (if b2 = true then letterS i else f) := ⟨_, rfl⟩
          have Hf1 := Lib.hid hf1
          clear hf1
          go_upto_if 121 with fail
          go_cut [15] from 121 to 123 (fun s wx => s = .string f1 ∧ wr = wx)
          case first =>
            cases b2 with
            | true =>
              go_wp2_with fail
              refine (letter12_ _ (i) _ (by omega) (by omega)).mono ?_
              rintro e w2 ⟨rfl, rfl⟩
              go_wp2_with fail
              go_meet
              exact ⟨by rw [Hf1.out]; rfl, rfl⟩
            | false =>
              go_wp2_with fail
              go_meet
              exact ⟨by rw [Hf1.out]; rfl, rfl⟩
          case rest =>
          obtain ⟨rfl, rfl⟩ := hcut
          obtain ⟨b3, hb3⟩ : ∃ b : Bool, b = (decide (f1 = ⟨#[]⟩) && fc i) := ⟨_, rfl⟩
          have Hb3 := Lib.hid hb3
          clear hb3
          go_upto_region 27 with fail
          go_cut [133] from 124 to 133 (fun s wx => s = .bool b3 ∧ wr = wx)
          case first =>
            by_cases hm : f1 = ⟨#[]⟩
            · have HB2 := Lib.hid (show b3 = fc i by rw [Hb3.out, decide_eq_true hm]; rfl)
              have e1 := strl_nil' hm
              have e2 := strl_emp' hm
              clear hm
              go_wp2_with fail
              go_meet
              exact ⟨by rw [HB2.out, HFC.out], rfl⟩
            · have HB2 := Lib.hid (show b3 = false by rw [Hb3.out, decide_eq_false hm]; rfl)
              have e1 := strl_nnil' hm
              have e2 := strl_empty' hm
              clear hm
              go_wp2_with fail
              go_meet
              exact ⟨by rw [HB2.out], rfl⟩
          case rest =>
          obtain ⟨rfl, rfl⟩ := hcut
          have HMN := Lib.hid (m_next12 HM.out hi1 (by omega) Hb1.out Hm1.out)
          have HFN := Lib.hid (f_next12 HF.out hi1 (by omega) Hb2.out Hf1.out Hb3.out rfl)
          cases b3 with
          | true =>
            go_wp2_with fail
            refine (letter12_ _ (13 + i) _ (by omega) (by omega)).mono ?_
            rintro e w2 ⟨rfl, rfl⟩
            go_wp2_with fail
            go_roundw
            case rel => exact ⟨i + 1, _, _, rfl, rfl, by go_num, by omega, by omega, HMN.out, HFN.out, by first | rfl | trivial⟩
            case measure => simp [intOf]; omega
          | false =>
            go_wp2_with fail
            go_roundw
            case rel => exact ⟨i + 1, _, _, rfl, rfl, by go_num, by omega, by omega, HMN.out, HFN.out, by first | rfl | trivial⟩
            case measure => simp [intOf]; omega
        · obtain rfl : i = k := by omega
          have hltI : ¬ (i : Int) < (i : Int) := by omega
          have hr1 := meth_fin (fc := fc) (by omega) hNF HM.out
          have hr2 := field_fin (by omega) hNF HF.out
          rw [← HD.out] at hr1 hr2
          obtain ⟨A1, X1, hr1, hz1⟩ := hr1
          obtain ⟨A2, X2, hr2, hz2⟩ := hr2
          have R1 := Lib.hid hr1
          have R2 := Lib.hid hr2
          have HZ1 := Lib.hid hz1
          have HZ2 := Lib.hid hz2
          have HCT := Lib.hid (show ∀ t ∈ D, t.interfaces.length ≤ 3000 by rw [HD.out]; exact nr_ct)
          clear hr1 hr2 hz1 hz2
          go_wp2_with fail
          refine (letter12_ _ F _ rfl (by omega)).mono ?_
          rintro e w2 ⟨rfl, rfl⟩
          go_wp2_with fail
          refine (find_Method D (letterS F) mB dV _ wr HT.out (lsz12 (by omega))).mono ?_
          rintro e x4 ⟨rfl, k4⟩
          rw [R1.out]
          have k5 : Kept w (x4.alloc (.cells #[.string A1, .int .i64 0] 37)) := (Below.trans HKR.out (k4.mono HKR.out.size)).alloc (Below.trans HKR.out (k4.mono HKR.out.size)).size _
          have h5 : TyR (x4.alloc (.cells #[.string A1, .int .i64 0] 37)) u10 D := (HT.out.kept k4).kept ((Below.refl _ _).alloc (Nat.le_refl _) _)
          have b5 := Blk.new x4 37 #[.string A1, .int .i64 0]
          obtain ⟨g5, hg5⟩ : ∃ x, x = x4.heap.size := ⟨_, rfl⟩
          rw [← hg5] at b5
          go_upto_region 30 with fail
          rw [← hg5]
          generalize (x4.alloc (.cells #[.string A1, .int .i64 0] 37)) = X5 at *
          have K5 := Lib.hid k5
          have H5 := Lib.hid h5
          have B5 := Lib.hid b5
          clear hg5 k5 h5 b5 k4
          go_wp2_with fail
          refine (letter12_ _ F _ rfl (by omega)).mono ?_
          rintro e w2 ⟨rfl, rfl⟩
          go_wp2_with fail
          refine (find_Field D (letterS F) mB iB _ X5 H5.out (lsz12 (by omega)) (by decide) (by decide) HCT.out).mono ?_
          rintro e x6 ⟨rfl, k6⟩
          rw [R2.out]
          have k7 : Kept w (x6.alloc (.cells #[.string A2, .int .i64 0] 37)) := (Below.trans K5.out (k6.mono K5.out.size)).alloc (Below.trans K5.out (k6.mono K5.out.size)).size _
          have b7 : Blk (x6.alloc (.cells #[.string A2, .int .i64 0] 37)) g5 37 #[.string A1, .int .i64 0] := (B5.out.kept k6).alloc _
          have d7 := Blk.new x6 37 #[.string A2, .int .i64 0]
          obtain ⟨g7, hg7⟩ : ∃ x, x = x6.heap.size := ⟨_, rfl⟩
          rw [← hg7] at d7
          go_upto_region 31 with fail
          rw [← hg7]
          generalize (x6.alloc (.cells #[.string A2, .int .i64 0] 37)) = X7 at *
          have K7 := Lib.hid k7
          have p0 := b7.cell 0
          have p1 := b7.cell 1
          have q0 := d7.cell 0
          have q1 := d7.cell 1
          simp only [List.getElem?_toArray, List.getElem?_cons_succ, List.getElem?_cons_zero] at p0 p1 q0 q1
          clear hg7 k7 b7 d7 k6
          rcases HZ1.out with ⟨rfl, rfl, rfl⟩ | ⟨rfl, rfl, e1⟩
          · rcases HZ2.out with ⟨rfl, rfl, rfl⟩ | ⟨rfl, rfl, e2⟩
            · clear HZ1 HZ2
              have a1 := nm_lit
              have b1 := nf_lit
              go_wp2_with fail
              go_ret
              exact ⟨rfl, K7.out⟩
            · clear HZ1 HZ2
              have a1 := nm_lit
              obtain ⟨b1, b2⟩ := nonempty_facts e2
              go_wp2_with fail
              go_ret
              exact ⟨rfl, K7.out⟩
          · rcases HZ2.out with ⟨rfl, rfl, rfl⟩ | ⟨rfl, rfl, e2⟩
            · clear HZ1 HZ2
              obtain ⟨a1, a2⟩ := nonempty_facts e1
              have b1 := nf_lit
              go_wp2_with fail
              go_ret
              exact ⟨rfl, K7.out⟩
            · clear HZ1 HZ2
              obtain ⟨a1, a2⟩ := nonempty_facts e1
              obtain ⟨b1, b2⟩ := nonempty_facts e2
              go_wp2_with fail
              go_ret
              exact ⟨rfl, K7.out⟩
end Go.Proofs.Ytccbdnlknijcbaa
