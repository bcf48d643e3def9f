/-
  The law CheckNamed: its walk.
-/
import Derived.Test.YtcklmhbcjgiplaaCn0
namespace Go.Proofs.Ytcklmhbcjgiplaa
set_option linter.unusedVariables false
set_option linter.unusedSimpArgs false
open Go.RowKit
set_option maxRecDepth 100000

theorem want7 (a b : Int) : wantN 7 a b = if textN a = false then 20 else 0 := by unfold wantN; rw [if_pos rfl]
theorem want12 (a b : Int) : wantN 12 a b = if textN a = false then 20 else if textN b = false then 20 else if a = 3 then 21 else if (b == 1 || b == 3 || b == 5) = true then 22 else 0 := by unfold wantN; rw [if_neg (by decide), if_pos rfl]
theorem want9 (a b : Int) : wantN 9 a b = if classN a = false then 20 else if b = 8 then 0 else if b = 9 then 22 else 20 := by unfold wantN; rw [if_neg (by decide), if_neg (by decide), if_pos rfl]
theorem want10 (a b : Int) : wantN 10 a b = if classN a = false then 20 else if b = 9 then 0 else if b = 8 then 22 else 20 := by unfold wantN; rw [if_neg (by decide), if_neg (by decide), if_neg (by decide)]
theorem want11 (a b : Int) : wantN 11 a b = if classN a = false then 20 else if b = 9 then 0 else if b = 8 then 22 else 20 := by unfold wantN; rw [if_neg (by decide), if_neg (by decide), if_neg (by decide)]
set_option maxHeartbeats 16000000 in
theorem walk_CheckNamed (tag a b : Int) (w : World) (q1 : (Lit.int .i64 tag).wf = true) (q2 : (Lit.int .i64 a).wf = true) (q3 : (Lit.int .i64 b).wf = true) :
    Calls Try.prog 7 #[.int .i64 tag, .int .i64 a, .int .i64 b] w fun e w' => e = .returned (.bool true) ∧ Below w.heap.size w w' := by
  clear q1 q2 q3
  go_enter Try.func7, Try.ntmps7
  go_wp2_with fail
  refine (alive5 w).mono ?_
  rintro e w1 ⟨rfl, hk1⟩
  have K1 := Lib.hid hk1
  clear hk1

  by_cases s1 : tag < 7
  · go_wp2_with fail
    go_ret
    exact ⟨rfl, K1.out⟩
  by_cases s2 : 12 < tag
  · go_wp2_with fail
    go_ret
    exact ⟨rfl, K1.out⟩
  cases s8 : (tag == 8)
  rotate_left
  · go_wp2_with fail
    go_ret
    exact ⟨rfl, K1.out⟩
  have HTAG := Lib.hid (show tag = 7 ∨ tag = 9 ∨ tag = 10 ∨ tag = 11 ∨ tag = 12 by simp only [beq_eq_false_iff_ne, ne_eq] at s8; omega)
  go_wp2_with fail
  refine (law5_small w1).mono ?_
  rintro e w2 ⟨vP, he, ho, hk2⟩
  have he : e = .returned (.agg #[.int .i64 0, .int .i64 52, vP, .int .i64 33, .int .i64 2, .int .i64 4, .slice none 0 0, .slice none 0 0, .slice none 0 0]) := he
  subst he
  have K2 := Lib.hid (Kept.trans K1.out hk2)
  obtain ⟨gP, kP, rfl, hq1, hq2, hgw, hgl, hcell, hfz⟩ := own_form ho (by omega)
  have HGP := Lib.hid (show w.heap.size ≤ gP from Nat.le_trans K1.out.size hgw)
  have HRO2 := Lib.hid ho
  have hS2 := hk2.size
  clear ho hk2 hcell hfz hgw hq1 hq2
  go_upto_region 5 with fail
  have hk3 : Kept w2 (w2.alloc (.cells #[.int .i64 0, .int .i64 52, .slice (some ⟨gP, 0, none⟩) 4 kP, .int .i64 33, .int .i64 2, .int .i64 4, .slice none 0 0, .slice none 0 0, .slice none 0 0] 27)) := (Below.refl _ _).alloc (Nat.le_refl _) _
  obtain ⟨g, hg⟩ : ∃ g, g = w2.heap.size := ⟨_, rfl⟩
  have HT := Lib.hid (Blk.new w2 27 #[.int .i64 0, .int .i64 52, .slice (some ⟨gP, 0, none⟩) 4 kP, .int .i64 33, .int .i64 2, .int .i64 4, .slice none 0 0, .slice none 0 0, .slice none 0 0])
  have HG := Lib.hid (show w2.heap.size ≤ g by omega)
  have hne : gP ≠ g := by omega
  have K3 := Lib.hid (Kept.trans K2.out hk3)
  have hgW : w.heap.size ≤ g := Nat.le_trans K2.out.size HG.out
  have hgS : w1.heap.size ≤ g := Nat.le_trans hS2 HG.out
  have HRO := Lib.hid ((Touch.of_kept (S := fun _ => False) hk3).own HRO2.out fun _ _ h => h)
  rw [← hg] at HT ⊢
  clear hk3 hgl HRO2
  generalize (w2.alloc (.cells #[.int .i64 0, .int .i64 52, .slice (some ⟨gP, 0, none⟩) 4 kP, .int .i64 33, .int .i64 2, .int .i64 4, .slice none 0 0, .slice none 0 0, .slice none 0 0] 27)) = w3 at *
  clear hg hS2
  have hb3 : w1.heap.size ≤ w3.heap.size := Nat.le_trans hgS (Nat.le_of_lt HT.out.lt)
  have t0 := HT.out.cell 0
  have t1 := HT.out.cell 1
  have t2 := HT.out.cell 2
  have t3 := HT.out.cell 3
  have t4 := HT.out.cell 4
  have t5 := HT.out.cell 5
  have t6 := HT.out.cell 6
  have t7 := HT.out.cell 7
  have t8 := HT.out.cell 8
  simp only [List.getElem?_toArray, List.getElem?_cons_succ, List.getElem?_cons_zero] at t0 t1 t2 t3 t4 t5 t6 t7 t8

  clear s1 s2 s8
  have f2 := HT.out.frozen 2
  go_upto_region 6 with (at_builtin; refine wpl_lit elem_const rfl (.tmp 31) (.tmp 38) rfl w1.heap.size (.slice (some ⟨gP, 0, none⟩) 4 kP) 4 (smallK.pool.flatMap encC) rfl HRO.out 6 [.int .i64 1, .string ⟨#[109]⟩, .int .i64 0, .int .i64 0, .int .i64 0, .int .i64 1, .string ⟨#[73]⟩, .int .i64 0, .int .i64 0, .int .i64 0, .int .i64 1, .string ⟨#[40, 41, 86]⟩, .int .i64 0, .int .i64 0, .int .i64 0, .int .i64 12, .string ⟨#[]⟩, .int .i64 0, .int .i64 5, .int .i64 6, .int .i64 12, .string ⟨#[]⟩, .int .i64 0, .int .i64 5, .int .i64 7, .int .i64 3, .string ⟨#[]⟩, .int .i64 0, .int .i64 0, .int .i64 0] _ rfl rfl (by intro u hu; simp only [List.mem_cons, List.not_mem_nil, or_false] at hu; rcases hu with rfl | rfl | rfl | rfl | rfl | rfl | rfl | rfl | rfl | rfl | rfl | rfl | rfl | rfl | rfl | rfl | rfl | rfl | rfl | rfl | rfl | rfl | rfl | rfl | rfl | rfl | rfl | rfl | rfl | rfl <;> rfl) (by omega) (by omega) hb3 ?_; intro a4 c4 w4 ho7 hg7; have HRO4 := Lib.hid ho7; have HB4 := Lib.hid (HT.out.touch hg7 (fun e => own_ne HRO.out HT.out (by decide) _ e rfl)); have KT4 := Lib.hid hg7; have f2 := HB4.out.frozen 2; have z2 := HB4.out.cell 2; simp only [List.getElem?_toArray, List.getElem?_cons_succ, List.getElem?_cons_zero] at z2; clear ho7 hg7)
  have KW4 := Lib.hid (Below.trans K3.out ((KT4.out.below (fun b hb => (HRO.out.lt b hb).1) hb3).mono K1.out.size))
  have KX := Lib.hid (KW4.out.setCell (p := ⟨g, 2, none⟩) hgW (.slice a4 10 c4))
  have HX : Hid (Blk (w4.setCell ⟨g, 2, none⟩ (.slice a4 10 c4)) g 27 #[.int .i64 0, .int .i64 52, .slice a4 10 c4, .int .i64 33, .int .i64 2, .int .i64 4, .slice none 0 0, .slice none 0 0, .slice none 0 0]) := Lib.hid (HB4.out.set_ 2 (.slice a4 10 c4))
  have HRX := Lib.hid (own_away HRO4.out HB4.out (by decide) 2 (.slice a4 10 c4))
  have hb5 : w1.heap.size ≤ (w4.setCell ⟨g, 2, none⟩ (.slice a4 10 c4)).heap.size := by have := KT4.out.size; have := hb3; simp [World.setCell]; omega
  clear f2 z2 t0 t1 t2 t3 t4 t5 t6 t7 t8
  generalize (w4.setCell ⟨g, 2, none⟩ (.slice a4 10 c4)) = w5 at *
  have u0 := HX.out.cell 0
  have u1 := HX.out.cell 1
  have u2 := HX.out.cell 2
  have u3 := HX.out.cell 3
  have u4 := HX.out.cell 4
  have u5 := HX.out.cell 5
  have u6 := HX.out.cell 6
  have u7 := HX.out.cell 7
  have u8 := HX.out.cell 8
  simp only [List.getElem?_toArray, List.getElem?_cons_succ, List.getElem?_cons_zero] at u0 u1 u2 u3 u4 u5 u6 u7 u8
  have f2 := HX.out.frozen 2
  go_upto_region 7 with (at_builtin; refine wpl_lit elem_const rfl (.tmp 42) (.tmp 47) rfl w1.heap.size (.slice a4 10 c4) 10 (smallK.pool.flatMap encC ++ [.int .i64 1, .string ⟨#[109]⟩, .int .i64 0, .int .i64 0, .int .i64 0, .int .i64 1, .string ⟨#[73]⟩, .int .i64 0, .int .i64 0, .int .i64 0, .int .i64 1, .string ⟨#[40, 41, 86]⟩, .int .i64 0, .int .i64 0, .int .i64 0, .int .i64 12, .string ⟨#[]⟩, .int .i64 0, .int .i64 5, .int .i64 6, .int .i64 12, .string ⟨#[]⟩, .int .i64 0, .int .i64 5, .int .i64 7, .int .i64 3, .string ⟨#[]⟩, .int .i64 0, .int .i64 0, .int .i64 0]) rfl HRX.out 1 [.int .i64 tag, .string ⟨#[]⟩, .int .i64 0, .int .i64 a, .int .i64 b] _ rfl rfl (by intro u hu; simp only [List.mem_cons, List.not_mem_nil, or_false] at hu; rcases hu with rfl | rfl | rfl | rfl | rfl <;> rfl) (by omega) (by omega) hb5 ?_; intro a6 c6 w6 ho7 hg7; have HRO6 := Lib.hid ho7; have HB6 := Lib.hid (HX.out.touch hg7 (fun e => own_ne HRX.out HX.out (by decide) _ e rfl)); have KT6 := Lib.hid hg7; have f2 := HB6.out.frozen 2; have z2 := HB6.out.cell 2; simp only [List.getElem?_toArray, List.getElem?_cons_succ, List.getElem?_cons_zero] at z2; clear ho7 hg7)
  have KW6 := Lib.hid (Below.trans KX.out ((KT6.out.below (fun b hb => (HRX.out.lt b hb).1) hb5).mono K1.out.size))
  have KY := Lib.hid (KW6.out.setCell (p := ⟨g, 2, none⟩) hgW (.slice a6 11 c6))
  have HY : Hid (Blk (w6.setCell ⟨g, 2, none⟩ (.slice a6 11 c6)) g 27 #[.int .i64 0, .int .i64 52, .slice a6 11 c6, .int .i64 33, .int .i64 2, .int .i64 4, .slice none 0 0, .slice none 0 0, .slice none 0 0]) := Lib.hid (HB6.out.set_ 2 (.slice a6 11 c6))
  have HRY := Lib.hid (own_away HRO6.out HB6.out (by decide) 2 (.slice a6 11 c6))
  have hb7 : w1.heap.size ≤ (w6.setCell ⟨g, 2, none⟩ (.slice a6 11 c6)).heap.size := by have := KT6.out.size; have := hb5; simp [World.setCell]; omega
  clear f2 z2 u0 u1 u2 u3 u4 u5 u6 u7 u8
  generalize (w6.setCell ⟨g, 2, none⟩ (.slice a6 11 c6)) = w7 at *
  have y0 := HY.out.cell 0
  have y1 := HY.out.cell 1
  have y2 := HY.out.cell 2
  have y3 := HY.out.cell 3
  have y4 := HY.out.cell 4
  have y5 := HY.out.cell 5
  have y6 := HY.out.cell 6
  have y7 := HY.out.cell 7
  have y8 := HY.out.cell 8
  simp only [List.getElem?_toArray, List.getElem?_cons_succ, List.getElem?_cons_zero] at y0 y1 y2 y3 y4 y5 y6 y7 y8
  have hcr : CRd w7 (namedK tag a b) [] (.slice a6 11 c6) (.slice none 0 0) (.slice none 0 0) (.slice none 0 0) := bare_rd (Rd.of_own HRY.out)
  have C := check_Check (namedK tag a b) [] _ _ _ _ w7 hcr (namedPool_text tag a b)
  unfold IntG at C
  obtain ⟨R, hR⟩ : ∃ r, r = checkE (namedK tag a b) := ⟨_, rfl⟩
  have HRW := Lib.hid (show b ≠ 11 → a ≠ 11 → R = wantN tag a b from fun hb ha => by rw [hR]; exact named_check HTAG.out ha hb)
  rw [← hR] at C
  clear hR hcr
  go_wp2_with fail
  refine C.mono ?_
  rintro e w8 ⟨rfl, hk6⟩
  have K6 := Lib.hid (Kept.trans KY.out hk6)
  clear hk6 C y0 y1 y2 y3 y4 y5 y6 y7 y8
  go_upto_region 8 with fail
  go_cut [10] from 52 to 57 (fun s wx => s = .bool (classN a) ∧ w8 = wx)
  case first =>
    cases a2 : (a == 2)
    rotate_left
    · go_wp2_with fail
      go_meet
      exact ⟨by simp [classN, a2], rfl⟩
    cases a4 : (a == 4)
    rotate_left
    · go_wp2_with fail
      go_meet
      exact ⟨by simp [classN, a4], rfl⟩
    go_wp2_with fail
    go_meet
    exact ⟨by simp [classN, a2, a4], rfl⟩
  case rest =>
  obtain ⟨rfl, rfl⟩ := hcut
  obtain ⟨cl, hcl⟩ : ∃ b, b = classN a := ⟨_, rfl⟩
  rw [← hcl]
  have HCL := Lib.hid hcl.symm
  clear hcl
  go_upto_region 9 with fail
  go_cut [11] from 58 to 75 (fun s wx => s = .bool (textN a) ∧ w8 = wx)
  case first =>
    cases a1 : (a == 1)
    rotate_left
    · go_wp2_with fail
      go_meet
      exact ⟨by simp [textN, a1], rfl⟩
    cases a3 : (a == 3)
    rotate_left
    · go_wp2_with fail
      go_meet
      exact ⟨by simp [textN, a3], rfl⟩
    cases a5 : (a == 5)
    rotate_left
    · go_wp2_with fail
      go_meet
      exact ⟨by simp [textN, a5], rfl⟩
    cases a6 : (a == 6)
    rotate_left
    · go_wp2_with fail
      go_meet
      exact ⟨by simp [textN, a6], rfl⟩
    cases a7 : (a == 7)
    rotate_left
    · go_wp2_with fail
      go_meet
      exact ⟨by simp [textN, a7], rfl⟩
    go_wp2_with fail
    go_meet
    exact ⟨by simp [textN, a1, a3, a5, a6, a7], rfl⟩
  case rest =>
  obtain ⟨rfl, rfl⟩ := hcut
  obtain ⟨tx, htx⟩ : ∃ b, b = textN a := ⟨_, rfl⟩
  rw [← htx]
  have HTX := Lib.hid htx.symm
  clear htx
  clear K1 K2 K3 KX KY
  have ht := HTAG.out
  clear HTAG
  go_upto_region 11 with fail
  rcases ht with rfl | rfl | rfl | rfl | rfl
  · cases tx
    · go_upto_region 35 with fail
      cases b11 : (b == 11)
      rotate_left
      · go_wp2_with (go_at_call 21; refine (law5_num _ _).mono ?_; rintro e w9 ⟨rfl, rfl⟩)
        go_ret
        exact ⟨rfl, K6.out⟩
      cases a11 : (a == 11)
      rotate_left
      · go_wp2_with (go_at_call 21; refine (law5_num _ _).mono ?_; rintro e w9 ⟨rfl, rfl⟩)
        go_ret
        exact ⟨rfl, K6.out⟩
      have hr : R = 20 := by
        rw [HRW.out (by simpa using b11) (by simpa using a11), want7, HTX.out]
        skip
        simp
      subst hr
      go_wp2_with (go_at_call 21; refine (law5_num _ _).mono ?_; rintro e w9 ⟨rfl, rfl⟩)
      go_ret
      exact ⟨rfl, K6.out⟩
    cases a7 : (a == 7)
    rotate_left
    · go_upto_region 35 with fail
      cases b11 : (b == 11)
      rotate_left
      · go_wp2_with (go_at_call 21; refine (law5_num _ _).mono ?_; rintro e w9 ⟨rfl, rfl⟩)
        go_ret
        exact ⟨rfl, K6.out⟩
      cases a11 : (a == 11)
      rotate_left
      · go_wp2_with (go_at_call 21; refine (law5_num _ _).mono ?_; rintro e w9 ⟨rfl, rfl⟩)
        go_ret
        exact ⟨rfl, K6.out⟩
      have hr : R = 0 := by
        rw [HRW.out (by simpa using b11) (by simpa using a11), want7, HTX.out]
        skip
        simp
      subst hr
      go_wp2_with (go_at_call 21; refine (law5_num _ _).mono ?_; rintro e w9 ⟨rfl, rfl⟩)
      go_ret
      exact ⟨rfl, K6.out⟩
    go_upto_region 35 with fail
    cases b11 : (b == 11)
    rotate_left
    · go_wp2_with (go_at_call 21; refine (law5_num _ _).mono ?_; rintro e w9 ⟨rfl, rfl⟩)
      go_ret
      exact ⟨rfl, K6.out⟩
    cases a11 : (a == 11)
    rotate_left
    · go_wp2_with (go_at_call 21; refine (law5_num _ _).mono ?_; rintro e w9 ⟨rfl, rfl⟩)
      go_ret
      exact ⟨rfl, K6.out⟩
    have hr : R = 0 := by
      rw [HRW.out (by simpa using b11) (by simpa using a11), want7, HTX.out]
      skip
      simp
    subst hr
    go_wp2_with (go_at_call 21; refine (law5_num _ _).mono ?_; rintro e w9 ⟨rfl, rfl⟩)
    go_ret
    exact ⟨rfl, K6.out⟩
  · cases cl
    · go_upto_region 35 with fail
      cases b11 : (b == 11)
      rotate_left
      · go_wp2_with (go_at_call 21; refine (law5_num _ _).mono ?_; rintro e w9 ⟨rfl, rfl⟩)
        go_ret
        exact ⟨rfl, K6.out⟩
      cases a11 : (a == 11)
      rotate_left
      · go_wp2_with (go_at_call 21; refine (law5_num _ _).mono ?_; rintro e w9 ⟨rfl, rfl⟩)
        go_ret
        exact ⟨rfl, K6.out⟩
      have hr : R = 20 := by
        rw [HRW.out (by simpa using b11) (by simpa using a11), want9, HCL.out]
        skip
        simp
      subst hr
      go_wp2_with (go_at_call 21; refine (law5_num _ _).mono ?_; rintro e w9 ⟨rfl, rfl⟩)
      go_ret
      exact ⟨rfl, K6.out⟩
    have a11' : (a == 11) = false := by
      have h := HCL.out
      simp only [classN, Bool.or_eq_true, beq_iff_eq] at h
      simp only [beq_eq_false_iff_ne, ne_eq]
      omega
    cases b8 : (b == 8)
    rotate_left
    · have b8' : (b != 8) = false := by simp only [bne, b8]; rfl
      have b9 : (b == 9) = false := by simp only [beq_iff_eq] at b8; subst b8; rfl
      have b9' : (b != 9) = true := by simp only [bne, b9]; rfl
      go_upto_region 35 with fail
      cases b11 : (b == 11)
      rotate_left
      · go_wp2_with (go_at_call 21; refine (law5_num _ _).mono ?_; rintro e w9 ⟨rfl, rfl⟩)
        go_ret
        exact ⟨rfl, K6.out⟩
      cases a11 : (a == 11)
      rotate_left
      · exact absurd (a11'.symm.trans a11) (by decide)
      have hr : R = 0 := by
        rw [HRW.out (by simpa using b11) (by simpa using a11), want9, HCL.out]
        simp only [beq_iff_eq, beq_eq_false_iff_ne, ne_eq] at b8 b9
        simp [b8, b9]
      subst hr
      go_wp2_with (go_at_call 21; refine (law5_num _ _).mono ?_; rintro e w9 ⟨rfl, rfl⟩)
      go_ret
      exact ⟨rfl, K6.out⟩
    have b8' : (b != 8) = true := by simp only [bne, b8]; rfl
    cases b9 : (b == 9)
    rotate_left
    · have b9' : (b != 9) = false := by simp only [bne, b9]; rfl
      go_upto_region 35 with fail
      cases b11 : (b == 11)
      rotate_left
      · go_wp2_with (go_at_call 21; refine (law5_num _ _).mono ?_; rintro e w9 ⟨rfl, rfl⟩)
        go_ret
        exact ⟨rfl, K6.out⟩
      cases a11 : (a == 11)
      rotate_left
      · exact absurd (a11'.symm.trans a11) (by decide)
      have hr : R = 22 := by
        rw [HRW.out (by simpa using b11) (by simpa using a11), want9, HCL.out]
        simp only [beq_iff_eq, beq_eq_false_iff_ne, ne_eq] at b8 b9
        simp [b8, b9]
      subst hr
      go_wp2_with (go_at_call 21; refine (law5_num _ _).mono ?_; rintro e w9 ⟨rfl, rfl⟩)
      go_ret
      exact ⟨rfl, K6.out⟩
    have b9' : (b != 9) = true := by simp only [bne, b9]; rfl
    go_upto_region 35 with fail
    cases b11 : (b == 11)
    rotate_left
    · go_wp2_with (go_at_call 21; refine (law5_num _ _).mono ?_; rintro e w9 ⟨rfl, rfl⟩)
      go_ret
      exact ⟨rfl, K6.out⟩
    cases a11 : (a == 11)
    rotate_left
    · exact absurd (a11'.symm.trans a11) (by decide)
    have hr : R = 20 := by
      rw [HRW.out (by simpa using b11) (by simpa using a11), want9, HCL.out]
      simp only [beq_iff_eq, beq_eq_false_iff_ne, ne_eq] at b8 b9
      simp [b8, b9]
    subst hr
    go_wp2_with (go_at_call 21; refine (law5_num _ _).mono ?_; rintro e w9 ⟨rfl, rfl⟩)
    go_ret
    exact ⟨rfl, K6.out⟩
  · cases cl
    · go_upto_region 35 with fail
      cases b11 : (b == 11)
      rotate_left
      · go_wp2_with (go_at_call 21; refine (law5_num _ _).mono ?_; rintro e w9 ⟨rfl, rfl⟩)
        go_ret
        exact ⟨rfl, K6.out⟩
      cases a11 : (a == 11)
      rotate_left
      · go_wp2_with (go_at_call 21; refine (law5_num _ _).mono ?_; rintro e w9 ⟨rfl, rfl⟩)
        go_ret
        exact ⟨rfl, K6.out⟩
      have hr : R = 20 := by
        rw [HRW.out (by simpa using b11) (by simpa using a11), want10, HCL.out]
        skip
        simp
      subst hr
      go_wp2_with (go_at_call 21; refine (law5_num _ _).mono ?_; rintro e w9 ⟨rfl, rfl⟩)
      go_ret
      exact ⟨rfl, K6.out⟩
    cases b8 : (b == 8)
    rotate_left
    · have b8' : (b != 8) = false := by simp only [bne, b8]; rfl
      have b9 : (b == 9) = false := by simp only [beq_iff_eq] at b8; subst b8; rfl
      have b9' : (b != 9) = true := by simp only [bne, b9]; rfl
      go_upto_region 35 with fail
      cases b11 : (b == 11)
      rotate_left
      · go_wp2_with (go_at_call 21; refine (law5_num _ _).mono ?_; rintro e w9 ⟨rfl, rfl⟩)
        go_ret
        exact ⟨rfl, K6.out⟩
      cases a11 : (a == 11)
      rotate_left
      · go_wp2_with (go_at_call 21; refine (law5_num _ _).mono ?_; rintro e w9 ⟨rfl, rfl⟩)
        go_ret
        exact ⟨rfl, K6.out⟩
      have hr : R = 22 := by
        rw [HRW.out (by simpa using b11) (by simpa using a11), want10, HCL.out]
        simp only [beq_iff_eq, beq_eq_false_iff_ne, ne_eq] at b8 b9
        simp [b8, b9]
      subst hr
      go_wp2_with (go_at_call 21; refine (law5_num _ _).mono ?_; rintro e w9 ⟨rfl, rfl⟩)
      go_ret
      exact ⟨rfl, K6.out⟩
    have b8' : (b != 8) = true := by simp only [bne, b8]; rfl
    cases b9 : (b == 9)
    rotate_left
    · have b9' : (b != 9) = false := by simp only [bne, b9]; rfl
      go_upto_region 35 with fail
      cases b11 : (b == 11)
      rotate_left
      · go_wp2_with (go_at_call 21; refine (law5_num _ _).mono ?_; rintro e w9 ⟨rfl, rfl⟩)
        go_ret
        exact ⟨rfl, K6.out⟩
      cases a11 : (a == 11)
      rotate_left
      · go_wp2_with (go_at_call 21; refine (law5_num _ _).mono ?_; rintro e w9 ⟨rfl, rfl⟩)
        go_ret
        exact ⟨rfl, K6.out⟩
      have hr : R = 0 := by
        rw [HRW.out (by simpa using b11) (by simpa using a11), want10, HCL.out]
        simp only [beq_iff_eq, beq_eq_false_iff_ne, ne_eq] at b8 b9
        simp [b8, b9]
      subst hr
      go_wp2_with (go_at_call 21; refine (law5_num _ _).mono ?_; rintro e w9 ⟨rfl, rfl⟩)
      go_ret
      exact ⟨rfl, K6.out⟩
    have b9' : (b != 9) = true := by simp only [bne, b9]; rfl
    go_upto_region 35 with fail
    cases b11 : (b == 11)
    rotate_left
    · go_wp2_with (go_at_call 21; refine (law5_num _ _).mono ?_; rintro e w9 ⟨rfl, rfl⟩)
      go_ret
      exact ⟨rfl, K6.out⟩
    cases a11 : (a == 11)
    rotate_left
    · go_wp2_with (go_at_call 21; refine (law5_num _ _).mono ?_; rintro e w9 ⟨rfl, rfl⟩)
      go_ret
      exact ⟨rfl, K6.out⟩
    have hr : R = 20 := by
      rw [HRW.out (by simpa using b11) (by simpa using a11), want10, HCL.out]
      simp only [beq_iff_eq, beq_eq_false_iff_ne, ne_eq] at b8 b9
      simp [b8, b9]
    subst hr
    go_wp2_with (go_at_call 21; refine (law5_num _ _).mono ?_; rintro e w9 ⟨rfl, rfl⟩)
    go_ret
    exact ⟨rfl, K6.out⟩
  · cases cl
    · go_upto_region 35 with fail
      cases b11 : (b == 11)
      rotate_left
      · go_wp2_with (go_at_call 21; refine (law5_num _ _).mono ?_; rintro e w9 ⟨rfl, rfl⟩)
        go_ret
        exact ⟨rfl, K6.out⟩
      cases a11 : (a == 11)
      rotate_left
      · go_wp2_with (go_at_call 21; refine (law5_num _ _).mono ?_; rintro e w9 ⟨rfl, rfl⟩)
        go_ret
        exact ⟨rfl, K6.out⟩
      have hr : R = 20 := by
        rw [HRW.out (by simpa using b11) (by simpa using a11), want11, HCL.out]
        skip
        simp
      subst hr
      go_wp2_with (go_at_call 21; refine (law5_num _ _).mono ?_; rintro e w9 ⟨rfl, rfl⟩)
      go_ret
      exact ⟨rfl, K6.out⟩
    cases b8 : (b == 8)
    rotate_left
    · have b8' : (b != 8) = false := by simp only [bne, b8]; rfl
      have b9 : (b == 9) = false := by simp only [beq_iff_eq] at b8; subst b8; rfl
      have b9' : (b != 9) = true := by simp only [bne, b9]; rfl
      go_upto_region 35 with fail
      cases b11 : (b == 11)
      rotate_left
      · go_wp2_with (go_at_call 21; refine (law5_num _ _).mono ?_; rintro e w9 ⟨rfl, rfl⟩)
        go_ret
        exact ⟨rfl, K6.out⟩
      cases a11 : (a == 11)
      rotate_left
      · go_wp2_with (go_at_call 21; refine (law5_num _ _).mono ?_; rintro e w9 ⟨rfl, rfl⟩)
        go_ret
        exact ⟨rfl, K6.out⟩
      have hr : R = 22 := by
        rw [HRW.out (by simpa using b11) (by simpa using a11), want11, HCL.out]
        simp only [beq_iff_eq, beq_eq_false_iff_ne, ne_eq] at b8 b9
        simp [b8, b9]
      subst hr
      go_wp2_with (go_at_call 21; refine (law5_num _ _).mono ?_; rintro e w9 ⟨rfl, rfl⟩)
      go_ret
      exact ⟨rfl, K6.out⟩
    have b8' : (b != 8) = true := by simp only [bne, b8]; rfl
    cases b9 : (b == 9)
    rotate_left
    · have b9' : (b != 9) = false := by simp only [bne, b9]; rfl
      go_upto_region 35 with fail
      cases b11 : (b == 11)
      rotate_left
      · go_wp2_with (go_at_call 21; refine (law5_num _ _).mono ?_; rintro e w9 ⟨rfl, rfl⟩)
        go_ret
        exact ⟨rfl, K6.out⟩
      cases a11 : (a == 11)
      rotate_left
      · go_wp2_with (go_at_call 21; refine (law5_num _ _).mono ?_; rintro e w9 ⟨rfl, rfl⟩)
        go_ret
        exact ⟨rfl, K6.out⟩
      have hr : R = 0 := by
        rw [HRW.out (by simpa using b11) (by simpa using a11), want11, HCL.out]
        simp only [beq_iff_eq, beq_eq_false_iff_ne, ne_eq] at b8 b9
        simp [b8, b9]
      subst hr
      go_wp2_with (go_at_call 21; refine (law5_num _ _).mono ?_; rintro e w9 ⟨rfl, rfl⟩)
      go_ret
      exact ⟨rfl, K6.out⟩
    have b9' : (b != 9) = true := by simp only [bne, b9]; rfl
    go_upto_region 35 with fail
    cases b11 : (b == 11)
    rotate_left
    · go_wp2_with (go_at_call 21; refine (law5_num _ _).mono ?_; rintro e w9 ⟨rfl, rfl⟩)
      go_ret
      exact ⟨rfl, K6.out⟩
    cases a11 : (a == 11)
    rotate_left
    · go_wp2_with (go_at_call 21; refine (law5_num _ _).mono ?_; rintro e w9 ⟨rfl, rfl⟩)
      go_ret
      exact ⟨rfl, K6.out⟩
    have hr : R = 20 := by
      rw [HRW.out (by simpa using b11) (by simpa using a11), want11, HCL.out]
      simp only [beq_iff_eq, beq_eq_false_iff_ne, ne_eq] at b8 b9
      simp [b8, b9]
    subst hr
    go_wp2_with (go_at_call 21; refine (law5_num _ _).mono ?_; rintro e w9 ⟨rfl, rfl⟩)
    go_ret
    exact ⟨rfl, K6.out⟩
  · cases tx
    · go_upto_region 35 with fail
      cases b11 : (b == 11)
      rotate_left
      · go_wp2_with (go_at_call 21; refine (law5_num _ _).mono ?_; rintro e w9 ⟨rfl, rfl⟩)
        go_ret
        exact ⟨rfl, K6.out⟩
      cases a11 : (a == 11)
      rotate_left
      · go_wp2_with (go_at_call 21; refine (law5_num _ _).mono ?_; rintro e w9 ⟨rfl, rfl⟩)
        go_ret
        exact ⟨rfl, K6.out⟩
      have hr : R = 20 := by
        rw [HRW.out (by simpa using b11) (by simpa using a11), want12, HTX.out]
        skip
        simp
      subst hr
      go_wp2_with (go_at_call 21; refine (law5_num _ _).mono ?_; rintro e w9 ⟨rfl, rfl⟩)
      go_ret
      exact ⟨rfl, K6.out⟩
    cases b1 : (b == 1)
    rotate_left
    · have HTB : textN b = true := by simp [textN, b1]
      cases a3 : (a == 3)
      rotate_left
      · go_upto_region 35 with fail
        cases b11 : (b == 11)
        rotate_left
        · go_wp2_with (go_at_call 21; refine (law5_num _ _).mono ?_; rintro e w9 ⟨rfl, rfl⟩)
          go_ret
          exact ⟨rfl, K6.out⟩
        cases a11 : (a == 11)
        rotate_left
        · go_wp2_with (go_at_call 21; refine (law5_num _ _).mono ?_; rintro e w9 ⟨rfl, rfl⟩)
          go_ret
          exact ⟨rfl, K6.out⟩
        have hr : R = 21 := by
          rw [HRW.out (by simpa using b11) (by simpa using a11), want12, HTX.out, HTB]
          simp only [beq_iff_eq, beq_eq_false_iff_ne, ne_eq] at b1 a3
          simp [b1, a3]
        subst hr
        go_wp2_with (go_at_call 21; refine (law5_num _ _).mono ?_; rintro e w9 ⟨rfl, rfl⟩)
        go_ret
        exact ⟨rfl, K6.out⟩
      go_upto_region 35 with fail
      cases b11 : (b == 11)
      rotate_left
      · go_wp2_with (go_at_call 21; refine (law5_num _ _).mono ?_; rintro e w9 ⟨rfl, rfl⟩)
        go_ret
        exact ⟨rfl, K6.out⟩
      cases a11 : (a == 11)
      rotate_left
      · go_wp2_with (go_at_call 21; refine (law5_num _ _).mono ?_; rintro e w9 ⟨rfl, rfl⟩)
        go_ret
        exact ⟨rfl, K6.out⟩
      have hr : R = 22 := by
        rw [HRW.out (by simpa using b11) (by simpa using a11), want12, HTX.out, HTB]
        simp only [beq_iff_eq, beq_eq_false_iff_ne, ne_eq] at b1 a3
        simp [b1, a3]
      subst hr
      go_wp2_with (go_at_call 21; refine (law5_num _ _).mono ?_; rintro e w9 ⟨rfl, rfl⟩)
      go_ret
      exact ⟨rfl, K6.out⟩
    cases b3 : (b == 3)
    rotate_left
    · have HTB : textN b = true := by simp [textN, b3]
      cases a3 : (a == 3)
      rotate_left
      · go_upto_region 35 with fail
        cases b11 : (b == 11)
        rotate_left
        · go_wp2_with (go_at_call 21; refine (law5_num _ _).mono ?_; rintro e w9 ⟨rfl, rfl⟩)
          go_ret
          exact ⟨rfl, K6.out⟩
        cases a11 : (a == 11)
        rotate_left
        · go_wp2_with (go_at_call 21; refine (law5_num _ _).mono ?_; rintro e w9 ⟨rfl, rfl⟩)
          go_ret
          exact ⟨rfl, K6.out⟩
        have hr : R = 21 := by
          rw [HRW.out (by simpa using b11) (by simpa using a11), want12, HTX.out, HTB]
          simp only [beq_iff_eq, beq_eq_false_iff_ne, ne_eq] at b1 b3 a3
          simp [b1, b3, a3]
        subst hr
        go_wp2_with (go_at_call 21; refine (law5_num _ _).mono ?_; rintro e w9 ⟨rfl, rfl⟩)
        go_ret
        exact ⟨rfl, K6.out⟩
      go_upto_region 35 with fail
      cases b11 : (b == 11)
      rotate_left
      · go_wp2_with (go_at_call 21; refine (law5_num _ _).mono ?_; rintro e w9 ⟨rfl, rfl⟩)
        go_ret
        exact ⟨rfl, K6.out⟩
      cases a11 : (a == 11)
      rotate_left
      · go_wp2_with (go_at_call 21; refine (law5_num _ _).mono ?_; rintro e w9 ⟨rfl, rfl⟩)
        go_ret
        exact ⟨rfl, K6.out⟩
      have hr : R = 22 := by
        rw [HRW.out (by simpa using b11) (by simpa using a11), want12, HTX.out, HTB]
        simp only [beq_iff_eq, beq_eq_false_iff_ne, ne_eq] at b1 b3 a3
        simp [b1, b3, a3]
      subst hr
      go_wp2_with (go_at_call 21; refine (law5_num _ _).mono ?_; rintro e w9 ⟨rfl, rfl⟩)
      go_ret
      exact ⟨rfl, K6.out⟩
    cases b5 : (b == 5)
    rotate_left
    · have HTB : textN b = true := by simp [textN, b5]
      cases a3 : (a == 3)
      rotate_left
      · go_upto_region 35 with fail
        cases b11 : (b == 11)
        rotate_left
        · go_wp2_with (go_at_call 21; refine (law5_num _ _).mono ?_; rintro e w9 ⟨rfl, rfl⟩)
          go_ret
          exact ⟨rfl, K6.out⟩
        cases a11 : (a == 11)
        rotate_left
        · go_wp2_with (go_at_call 21; refine (law5_num _ _).mono ?_; rintro e w9 ⟨rfl, rfl⟩)
          go_ret
          exact ⟨rfl, K6.out⟩
        have hr : R = 21 := by
          rw [HRW.out (by simpa using b11) (by simpa using a11), want12, HTX.out, HTB]
          simp only [beq_iff_eq, beq_eq_false_iff_ne, ne_eq] at b1 b3 b5 a3
          simp [b1, b3, b5, a3]
        subst hr
        go_wp2_with (go_at_call 21; refine (law5_num _ _).mono ?_; rintro e w9 ⟨rfl, rfl⟩)
        go_ret
        exact ⟨rfl, K6.out⟩
      go_upto_region 35 with fail
      cases b11 : (b == 11)
      rotate_left
      · go_wp2_with (go_at_call 21; refine (law5_num _ _).mono ?_; rintro e w9 ⟨rfl, rfl⟩)
        go_ret
        exact ⟨rfl, K6.out⟩
      cases a11 : (a == 11)
      rotate_left
      · go_wp2_with (go_at_call 21; refine (law5_num _ _).mono ?_; rintro e w9 ⟨rfl, rfl⟩)
        go_ret
        exact ⟨rfl, K6.out⟩
      have hr : R = 22 := by
        rw [HRW.out (by simpa using b11) (by simpa using a11), want12, HTX.out, HTB]
        simp only [beq_iff_eq, beq_eq_false_iff_ne, ne_eq] at b1 b3 b5 a3
        simp [b1, b3, b5, a3]
      subst hr
      go_wp2_with (go_at_call 21; refine (law5_num _ _).mono ?_; rintro e w9 ⟨rfl, rfl⟩)
      go_ret
      exact ⟨rfl, K6.out⟩
    cases b6 : (b == 6)
    rotate_left
    · have HTB : textN b = true := by simp [textN, b6]
      cases a3 : (a == 3)
      rotate_left
      · go_upto_region 35 with fail
        cases b11 : (b == 11)
        rotate_left
        · go_wp2_with (go_at_call 21; refine (law5_num _ _).mono ?_; rintro e w9 ⟨rfl, rfl⟩)
          go_ret
          exact ⟨rfl, K6.out⟩
        cases a11 : (a == 11)
        rotate_left
        · go_wp2_with (go_at_call 21; refine (law5_num _ _).mono ?_; rintro e w9 ⟨rfl, rfl⟩)
          go_ret
          exact ⟨rfl, K6.out⟩
        have hr : R = 21 := by
          rw [HRW.out (by simpa using b11) (by simpa using a11), want12, HTX.out, HTB]
          simp only [beq_iff_eq, beq_eq_false_iff_ne, ne_eq] at b1 b3 b5 b6 a3
          simp [b1, b3, b5, b6, a3]
        subst hr
        go_wp2_with (go_at_call 21; refine (law5_num _ _).mono ?_; rintro e w9 ⟨rfl, rfl⟩)
        go_ret
        exact ⟨rfl, K6.out⟩
      go_upto_region 35 with fail
      cases b11 : (b == 11)
      rotate_left
      · go_wp2_with (go_at_call 21; refine (law5_num _ _).mono ?_; rintro e w9 ⟨rfl, rfl⟩)
        go_ret
        exact ⟨rfl, K6.out⟩
      cases a11 : (a == 11)
      rotate_left
      · go_wp2_with (go_at_call 21; refine (law5_num _ _).mono ?_; rintro e w9 ⟨rfl, rfl⟩)
        go_ret
        exact ⟨rfl, K6.out⟩
      have hr : R = 0 := by
        rw [HRW.out (by simpa using b11) (by simpa using a11), want12, HTX.out, HTB]
        simp only [beq_iff_eq, beq_eq_false_iff_ne, ne_eq] at b1 b3 b5 b6 a3
        simp [b1, b3, b5, b6, a3]
      subst hr
      go_wp2_with (go_at_call 21; refine (law5_num _ _).mono ?_; rintro e w9 ⟨rfl, rfl⟩)
      go_ret
      exact ⟨rfl, K6.out⟩
    cases b7 : (b == 7)
    rotate_left
    · have HTB : textN b = true := by simp [textN, b7]
      cases a3 : (a == 3)
      rotate_left
      · go_upto_region 35 with fail
        cases b11 : (b == 11)
        rotate_left
        · go_wp2_with (go_at_call 21; refine (law5_num _ _).mono ?_; rintro e w9 ⟨rfl, rfl⟩)
          go_ret
          exact ⟨rfl, K6.out⟩
        cases a11 : (a == 11)
        rotate_left
        · go_wp2_with (go_at_call 21; refine (law5_num _ _).mono ?_; rintro e w9 ⟨rfl, rfl⟩)
          go_ret
          exact ⟨rfl, K6.out⟩
        have hr : R = 21 := by
          rw [HRW.out (by simpa using b11) (by simpa using a11), want12, HTX.out, HTB]
          simp only [beq_iff_eq, beq_eq_false_iff_ne, ne_eq] at b1 b3 b5 b6 b7 a3
          simp [b1, b3, b5, b6, b7, a3]
        subst hr
        go_wp2_with (go_at_call 21; refine (law5_num _ _).mono ?_; rintro e w9 ⟨rfl, rfl⟩)
        go_ret
        exact ⟨rfl, K6.out⟩
      go_upto_region 35 with fail
      cases b11 : (b == 11)
      rotate_left
      · go_wp2_with (go_at_call 21; refine (law5_num _ _).mono ?_; rintro e w9 ⟨rfl, rfl⟩)
        go_ret
        exact ⟨rfl, K6.out⟩
      cases a11 : (a == 11)
      rotate_left
      · go_wp2_with (go_at_call 21; refine (law5_num _ _).mono ?_; rintro e w9 ⟨rfl, rfl⟩)
        go_ret
        exact ⟨rfl, K6.out⟩
      have hr : R = 0 := by
        rw [HRW.out (by simpa using b11) (by simpa using a11), want12, HTX.out, HTB]
        simp only [beq_iff_eq, beq_eq_false_iff_ne, ne_eq] at b1 b3 b5 b6 b7 a3
        simp [b1, b3, b5, b6, b7, a3]
      subst hr
      go_wp2_with (go_at_call 21; refine (law5_num _ _).mono ?_; rintro e w9 ⟨rfl, rfl⟩)
      go_ret
      exact ⟨rfl, K6.out⟩
    have HTB : textN b = false := by simp [textN, b1, b3, b5, b6, b7]
    go_upto_region 35 with fail
    cases b11 : (b == 11)
    rotate_left
    · go_wp2_with (go_at_call 21; refine (law5_num _ _).mono ?_; rintro e w9 ⟨rfl, rfl⟩)
      go_ret
      exact ⟨rfl, K6.out⟩
    cases a11 : (a == 11)
    rotate_left
    · go_wp2_with (go_at_call 21; refine (law5_num _ _).mono ?_; rintro e w9 ⟨rfl, rfl⟩)
      go_ret
      exact ⟨rfl, K6.out⟩
    have hr : R = 20 := by
      rw [HRW.out (by simpa using b11) (by simpa using a11), want12, HTX.out, HTB]
      skip
      simp
    subst hr
    go_wp2_with (go_at_call 21; refine (law5_num _ _).mono ?_; rintro e w9 ⟨rfl, rfl⟩)
    go_ret
    exact ⟨rfl, K6.out⟩
end Go.Proofs.Ytcklmhbcjgiplaa
