/-
  The law CheckTraps: its walk.
-/
import Derived.Test.YtcklmhbcjgiplaaCm0
namespace Go.Proofs.Ytcklmhbcjgiplaa
open Go.RowKit
set_option maxRecDepth 100000

set_option maxHeartbeats 8000000 in
theorem walk_CheckTraps (fr til at_ ty : Int) (w : World) (q1 : (Lit.int .i64 fr).wf = true) (q2 : (Lit.int .i64 til).wf = true) (q3 : (Lit.int .i64 at_).wf = true) (q4 : (Lit.int .i64 ty).wf = true) :
    Calls Try.prog 8 #[.int .i64 fr, .int .i64 til, .int .i64 at_, .int .i64 ty] w fun e w' => e = .returned (.bool true) ∧ Below w.heap.size w w' := by
  clear q1 q2 q3 q4
  go_enter Try.func8, Try.ntmps8
  go_wp2_with fail
  refine (alive5 w).mono ?_
  rintro e w1 ⟨rfl, hk1⟩
  have K1 := Lib.hid hk1
  clear hk1

  go_wp2_with fail
  refine (law5_small w1).mono ?_
  rintro e w2 ⟨vP, he, ho, hk2⟩
  have he : e = .returned (.agg #[.int .i64 0, .int .i64 52, vP, .int .i64 33, .int .i64 2, .int .i64 4, .slice none 0 0, .slice none 0 0, .slice none 0 0]) := he
  subst he
  have K2 := Lib.hid (Kept.trans K1.out hk2)
  obtain ⟨gP, kP, rfl, hq1, hq2, hgw, hgl, hcell, hfz⟩ := own_form ho (by omega)
  have HGP := Lib.hid (show w.heap.size ≤ gP from Nat.le_trans K1.out.size hgw)
  have HRO2 := Lib.hid ho
  have hS2 := hk2.size
  clear ho hk2 hcell hfz hgw hq1 hq2
  go_upto_region 3 with fail
  have hk3 : Kept w2 (w2.alloc (.cells #[.int .i64 0, .int .i64 52, .slice (some ⟨gP, 0, none⟩) 4 kP, .int .i64 33, .int .i64 2, .int .i64 4, .slice none 0 0, .slice none 0 0, .slice none 0 0] 27)) := (Below.refl _ _).alloc (Nat.le_refl _) _
  obtain ⟨g, hg⟩ : ∃ g, g = w2.heap.size := ⟨_, rfl⟩
  have HT := Lib.hid (Blk.new w2 27 #[.int .i64 0, .int .i64 52, .slice (some ⟨gP, 0, none⟩) 4 kP, .int .i64 33, .int .i64 2, .int .i64 4, .slice none 0 0, .slice none 0 0, .slice none 0 0])
  have HG := Lib.hid (show w2.heap.size ≤ g by omega)
  have hne : gP ≠ g := by omega
  have K3 := Lib.hid (Kept.trans K2.out hk3)
  have hgW : w.heap.size ≤ g := Nat.le_trans K2.out.size HG.out
  have hgS : w1.heap.size ≤ g := Nat.le_trans hS2 HG.out
  have HRO := Lib.hid ((Touch.of_kept (S := fun _ => False) hk3).own HRO2.out fun _ _ h => h)
  rw [← hg] at HT ⊢
  clear hk3 hgl HRO2
  generalize (w2.alloc (.cells #[.int .i64 0, .int .i64 52, .slice (some ⟨gP, 0, none⟩) 4 kP, .int .i64 33, .int .i64 2, .int .i64 4, .slice none 0 0, .slice none 0 0, .slice none 0 0] 27)) = w3 at *
  clear hg hS2
  have hb3 : w1.heap.size ≤ w3.heap.size := Nat.le_trans hgS (Nat.le_of_lt HT.out.lt)
  have t0 := HT.out.cell 0
  have t1 := HT.out.cell 1
  have t2 := HT.out.cell 2
  have t3 := HT.out.cell 3
  have t4 := HT.out.cell 4
  have t5 := HT.out.cell 5
  have t6 := HT.out.cell 6
  have t7 := HT.out.cell 7
  have t8 := HT.out.cell 8
  simp only [List.getElem?_toArray, List.getElem?_cons_succ, List.getElem?_cons_zero] at t0 t1 t2 t3 t4 t5 t6 t7 t8

  go_upto_region 4 with (at_builtin; refine wpl_lit elem_const rfl (.tmp 16) (.tmp 20) rfl w1.heap.size (.slice (some ⟨gP, 0, none⟩) 4 kP) 4 (smallK.pool.flatMap encC) rfl HRO.out 3 [.int .i64 1, .string ⟨#[109]⟩, .int .i64 0, .int .i64 0, .int .i64 0, .int .i64 1, .string ⟨#[40, 41, 86]⟩, .int .i64 0, .int .i64 0, .int .i64 0, .int .i64 1, .string ⟨#[67, 111, 100, 101]⟩, .int .i64 0, .int .i64 0, .int .i64 0] _ rfl rfl (by intro u hu; simp only [List.mem_cons, List.not_mem_nil, or_false] at hu; rcases hu with rfl | rfl | rfl | rfl | rfl | rfl | rfl | rfl | rfl | rfl | rfl | rfl | rfl | rfl | rfl <;> rfl) (by omega) (by omega) hb3 ?_; intro a7 c7 w4 ho7 hg7; have HRO4 := Lib.hid ho7; have HB4 := Lib.hid (HT.out.touch hg7 (fun e => own_ne HRO.out HT.out (by decide) _ e rfl)); have KT4 := Lib.hid hg7; have f2 := HB4.out.frozen 2; have z2 := HB4.out.cell 2; simp only [List.getElem?_toArray, List.getElem?_cons_succ, List.getElem?_cons_zero] at z2; clear ho7 hg7)
  have KW4 := Lib.hid (Below.trans K3.out ((KT4.out.below (fun b hb => (HRO.out.lt b hb).1) hb3).mono K1.out.size))
  have KX := Lib.hid (KW4.out.setCell (p := ⟨g, 2, none⟩) hgW (.slice a7 7 c7))
  have HX : Hid (Blk (w4.setCell ⟨g, 2, none⟩ (.slice a7 7 c7)) g 27 #[.int .i64 0, .int .i64 52, .slice a7 7 c7, .int .i64 33, .int .i64 2, .int .i64 4, .slice none 0 0, .slice none 0 0, .slice none 0 0]) := Lib.hid (HB4.out.set_ 2 (.slice a7 7 c7))
  have HRX := Lib.hid (own_away HRO4.out HB4.out (by decide) 2 (.slice a7 7 c7))
  clear f2 z2 t0 t1 t2 t3 t4 t5 t6 t7 t8
  generalize (w4.setCell ⟨g, 2, none⟩ (.slice a7 7 c7)) = w5 at *
  have u0 := HX.out.cell 0
  have u1 := HX.out.cell 1
  have u2 := HX.out.cell 2
  have u3 := HX.out.cell 3
  have u4 := HX.out.cell 4
  have u5 := HX.out.cell 5
  have u6 := HX.out.cell 6
  have u7 := HX.out.cell 7
  have u8 := HX.out.cell 8
  simp only [List.getElem?_toArray, List.getElem?_cons_succ, List.getElem?_cons_zero] at u0 u1 u2 u3 u4 u5 u6 u7 u8
  have f8 := HX.out.frozen 8
  have hZ : Blk (((w5.alloc (.cells #[.int .u8 0, .int .u8 0, .int .u8 0, .int .u8 177] 5)).alloc (.cells #[.int .i64 fr, .int .i64 til, .int .i64 at_, .int .i64 ty] 59)).alloc (.cells #[.int .i64 8, .int .i64 5, .int .i64 6, .bool true, .int .i64 0, .int .i64 0, .slice (some ⟨w5.heap.size, 0, none⟩) 4 4, .slice (some ⟨w5.heap.size + 1, 0, none⟩) 1 1] 52)) g 27 #[.int .i64 0, .int .i64 52, .slice a7 7 c7, .int .i64 33, .int .i64 2, .int .i64 4, .slice none 0 0, .slice none 0 0, .slice none 0 0] := ((HX.out.alloc _).alloc _).alloc _
  have z8 := hZ.cell 8
  simp only [List.getElem?_toArray, List.getElem?_cons_succ, List.getElem?_cons_zero] at z8
  have f8 := hZ.frozen 8
  have HZ := Lib.hid hZ
  clear hZ
  go_upto_region 5 with fail
  have hgl5 := HX.out.lt
  have KY : Hid (Below w.heap.size w ((((w5.alloc (.cells #[.int .u8 0, .int .u8 0, .int .u8 0, .int .u8 177] 5)).alloc (.cells #[.int .i64 fr, .int .i64 til, .int .i64 at_, .int .i64 ty] 59)).alloc (.cells #[.int .i64 8, .int .i64 5, .int .i64 6, .bool true, .int .i64 0, .int .i64 0, .slice (some ⟨w5.heap.size, 0, none⟩) 4 4, .slice (some ⟨w5.heap.size + 1, 0, none⟩) 1 1] 52)).setCell ⟨g, 8, none⟩ (.slice (some ⟨w5.heap.size + 1 + 1, 0, none⟩) 1 1))) := Lib.hid ((((KX.out.alloc (Nat.le_trans hgW (Nat.le_of_lt HX.out.lt)) _).alloc (by simp; omega) _).alloc (by simp; omega) _).setCell (p := ⟨g, 8, none⟩) hgW (.slice (some ⟨w5.heap.size + 1 + 1, 0, none⟩) 1 1))
  have HY : Hid (Blk ((((w5.alloc (.cells #[.int .u8 0, .int .u8 0, .int .u8 0, .int .u8 177] 5)).alloc (.cells #[.int .i64 fr, .int .i64 til, .int .i64 at_, .int .i64 ty] 59)).alloc (.cells #[.int .i64 8, .int .i64 5, .int .i64 6, .bool true, .int .i64 0, .int .i64 0, .slice (some ⟨w5.heap.size, 0, none⟩) 4 4, .slice (some ⟨w5.heap.size + 1, 0, none⟩) 1 1] 52)).setCell ⟨g, 8, none⟩ (.slice (some ⟨w5.heap.size + 1 + 1, 0, none⟩) 1 1)) g 27 #[.int .i64 0, .int .i64 52, .slice a7 7 c7, .int .i64 33, .int .i64 2, .int .i64 4, .slice none 0 0, .slice none 0 0, .slice (some ⟨w5.heap.size + 1 + 1, 0, none⟩) 1 1]) := Lib.hid (HZ.out.set_ 8 (.slice (some ⟨w5.heap.size + 1 + 1, 0, none⟩) 1 1))
  have b1 : Blk ((((w5.alloc (.cells #[.int .u8 0, .int .u8 0, .int .u8 0, .int .u8 177] 5)).alloc (.cells #[.int .i64 fr, .int .i64 til, .int .i64 at_, .int .i64 ty] 59)).alloc (.cells #[.int .i64 8, .int .i64 5, .int .i64 6, .bool true, .int .i64 0, .int .i64 0, .slice (some ⟨w5.heap.size, 0, none⟩) 4 4, .slice (some ⟨w5.heap.size + 1, 0, none⟩) 1 1] 52)).setCell ⟨g, 8, none⟩ (.slice (some ⟨w5.heap.size + 1 + 1, 0, none⟩) 1 1)) w5.heap.size 5 #[.int .u8 0, .int .u8 0, .int .u8 0, .int .u8 177] := (((Blk.new w5 _ _).alloc _).alloc _).far (p := ⟨g, 8, none⟩) (by simp; omega) _
  have b2 : Blk ((((w5.alloc (.cells #[.int .u8 0, .int .u8 0, .int .u8 0, .int .u8 177] 5)).alloc (.cells #[.int .i64 fr, .int .i64 til, .int .i64 at_, .int .i64 ty] 59)).alloc (.cells #[.int .i64 8, .int .i64 5, .int .i64 6, .bool true, .int .i64 0, .int .i64 0, .slice (some ⟨w5.heap.size, 0, none⟩) 4 4, .slice (some ⟨w5.heap.size + 1, 0, none⟩) 1 1] 52)).setCell ⟨g, 8, none⟩ (.slice (some ⟨w5.heap.size + 1 + 1, 0, none⟩) 1 1)) (w5.heap.size + 1) 59 #[.int .i64 fr, .int .i64 til, .int .i64 at_, .int .i64 ty] := ((Blk.new' _ _ (by simp)).alloc _).far (p := ⟨g, 8, none⟩) (by simp; omega) _
  have b3 : Blk ((((w5.alloc (.cells #[.int .u8 0, .int .u8 0, .int .u8 0, .int .u8 177] 5)).alloc (.cells #[.int .i64 fr, .int .i64 til, .int .i64 at_, .int .i64 ty] 59)).alloc (.cells #[.int .i64 8, .int .i64 5, .int .i64 6, .bool true, .int .i64 0, .int .i64 0, .slice (some ⟨w5.heap.size, 0, none⟩) 4 4, .slice (some ⟨w5.heap.size + 1, 0, none⟩) 1 1] 52)).setCell ⟨g, 8, none⟩ (.slice (some ⟨w5.heap.size + 1 + 1, 0, none⟩) 1 1)) (w5.heap.size + 1 + 1) 52 #[.int .i64 8, .int .i64 5, .int .i64 6, .bool true, .int .i64 0, .int .i64 0, .slice (some ⟨w5.heap.size, 0, none⟩) 4 4, .slice (some ⟨w5.heap.size + 1, 0, none⟩) 1 1] := (Blk.new' _ _ (by simp)).far (p := ⟨g, 8, none⟩) (by simp; omega) _
  have HRY := Lib.hid (own_away (((HRX.out.alloc _).alloc _).alloc _) HZ.out (by decide) 8 (.slice (some ⟨w5.heap.size + 1 + 1, 0, none⟩) 1 1))
  clear z8 f8
  generalize ((((w5.alloc (.cells #[.int .u8 0, .int .u8 0, .int .u8 0, .int .u8 177] 5)).alloc (.cells #[.int .i64 fr, .int .i64 til, .int .i64 at_, .int .i64 ty] 59)).alloc (.cells #[.int .i64 8, .int .i64 5, .int .i64 6, .bool true, .int .i64 0, .int .i64 0, .slice (some ⟨w5.heap.size, 0, none⟩) 4 4, .slice (some ⟨w5.heap.size + 1, 0, none⟩) 1 1] 52)).setCell ⟨g, 8, none⟩ (.slice (some ⟨w5.heap.size + 1 + 1, 0, none⟩) 1 1)) = w6 at *
  obtain ⟨gc, hgc⟩ : ∃ k, k = w5.heap.size := ⟨_, rfl⟩
  obtain ⟨gt, hgt⟩ : ∃ k, k = w5.heap.size + 1 := ⟨_, rfl⟩
  obtain ⟨gm, hgm⟩ : ∃ k, k = w5.heap.size + 1 + 1 := ⟨_, rfl⟩
  rw [← hgm] at b3 HY ⊢
  rw [← hgt] at b2 b3 ⊢
  rw [← hgc] at b1 b3 ⊢
  clear hgc hgt hgm hgl5
  have e0 : ([0, 0, 0, 177] : List UInt8).map byteV = [.int .u8 0, .int .u8 0, .int .u8 0, .int .u8 177] := by simp [byteV]
  have rc : Rd w6 1 (.slice (some ⟨gc, 0, none⟩) 4 4) 4 (([0, 0, 0, 177] : List UInt8).map byteV) := by
    rw [e0]
    exact Rd.lit b1 rfl (by omega)
  have rt : Rd w6 4 (.slice (some ⟨gt, 0, none⟩) 1 1) 1 (([⟨fr, til, at_, ty⟩] : List TrapC).flatMap encT) := Rd.lit b2 rfl (by omega)
  have rm : Rd w6 8 (.slice (some ⟨gm, 0, none⟩) 1 1) 1 (([(trapM fr til at_ ty, .slice (some ⟨gc, 0, none⟩) 4 4, .slice (some ⟨gt, 0, none⟩) 1 1)] : List (MethC × Value × Value)).flatMap encM) := Rd.lit b3 rfl (by omega)
  have hcr : CRd w6 (trapK fr til at_ ty) [(trapM fr til at_ ty, .slice (some ⟨gc, 0, none⟩) 4 4, .slice (some ⟨gt, 0, none⟩) 1 1)] (.slice a7 7 c7) (.slice none 0 0) (.slice none 0 0) (.slice (some ⟨gm, 0, none⟩) 1 1) :=
    ⟨Rd.of_own HRY.out, Rd.nil, Rd.nil, rm, (fun x hx => by rw [List.mem_singleton] at hx; subst hx; exact ⟨rc, rt⟩), rfl⟩
  have C := check_Check (trapK fr til at_ ty) _ _ _ _ _ w6 hcr trapPool_text
  unfold IntG at C
  obtain ⟨R, hR⟩ : ∃ r, r = checkE (trapK fr til at_ ty) := ⟨_, rfl⟩
  rw [← hR] at C
  rw [trap_check] at hR
  have HR := Lib.hid hR
  clear hR
  clear rc rt rm hcr b1 b2 b3 e0
  have y0 := HY.out.cell 0
  have y1 := HY.out.cell 1
  have y2 := HY.out.cell 2
  have y3 := HY.out.cell 3
  have y4 := HY.out.cell 4
  have y5 := HY.out.cell 5
  have y6 := HY.out.cell 6
  have y7 := HY.out.cell 7
  have y8 := HY.out.cell 8
  simp only [List.getElem?_toArray, List.getElem?_cons_succ, List.getElem?_cons_zero] at y0 y1 y2 y3 y4 y5 y6 y7 y8
  by_cases h1 : fr < 0
  · have hr : R = 25 := by rw [HR.out]; simp [badPlace, h1]
    rw [hr] at C
    clear hr
    have HC := Lib.hid C
    clear C
    go_wp2_with fail
    refine HC.out.mono ?_
    rintro e w8 ⟨rfl, hk6⟩
    have K6 := Lib.hid (Kept.trans KY.out hk6)
    clear hk6
    go_wp2_with (go_at_call 21; refine (law5_num _ _).mono ?_; rintro e w9 ⟨rfl, rfl⟩)
    go_ret
    exact ⟨rfl, K6.out⟩
  by_cases h2 : til ≤ fr
  · have hr : R = 25 := by rw [HR.out]; simp [badPlace, h1, h2]
    rw [hr] at C
    clear hr
    have HC := Lib.hid C
    clear C
    go_wp2_with fail
    refine HC.out.mono ?_
    rintro e w8 ⟨rfl, hk6⟩
    have K6 := Lib.hid (Kept.trans KY.out hk6)
    clear hk6
    go_wp2_with (go_at_call 21; refine (law5_num _ _).mono ?_; rintro e w9 ⟨rfl, rfl⟩)
    go_ret
    exact ⟨rfl, K6.out⟩
  by_cases h3 : 4 < til
  · have hr : R = 25 := by rw [HR.out]; simp [badPlace, h1, h2, h3]
    rw [hr] at C
    clear hr
    have HC := Lib.hid C
    clear C
    go_wp2_with fail
    refine HC.out.mono ?_
    rintro e w8 ⟨rfl, hk6⟩
    have K6 := Lib.hid (Kept.trans KY.out hk6)
    clear hk6
    go_wp2_with (go_at_call 21; refine (law5_num _ _).mono ?_; rintro e w9 ⟨rfl, rfl⟩)
    go_ret
    exact ⟨rfl, K6.out⟩
  by_cases h4 : at_ < 0
  · have hr : R = 25 := by rw [HR.out]; simp [badPlace, h1, h2, h3, h4]
    rw [hr] at C
    clear hr
    have HC := Lib.hid C
    clear C
    go_wp2_with fail
    refine HC.out.mono ?_
    rintro e w8 ⟨rfl, hk6⟩
    have K6 := Lib.hid (Kept.trans KY.out hk6)
    clear hk6
    go_wp2_with (go_at_call 21; refine (law5_num _ _).mono ?_; rintro e w9 ⟨rfl, rfl⟩)
    go_ret
    exact ⟨rfl, K6.out⟩
  by_cases h5 : 3 < at_
  · have hr : R = 25 := by rw [HR.out]; simp [badPlace, h1, h2, h3, h4, h5]
    rw [hr] at C
    clear hr
    have HC := Lib.hid C
    clear C
    go_wp2_with fail
    refine HC.out.mono ?_
    rintro e w8 ⟨rfl, hk6⟩
    have K6 := Lib.hid (Kept.trans KY.out hk6)
    clear hk6
    go_wp2_with (go_at_call 21; refine (law5_num _ _).mono ?_; rintro e w9 ⟨rfl, rfl⟩)
    go_ret
    exact ⟨rfl, K6.out⟩
  by_cases h6 : ty = 0
  · have hr : R = 0 := by rw [HR.out]; simp [badPlace, h1, h2, h3, h4, h5, h6]
    rw [hr] at C
    clear hr
    have HC := Lib.hid C
    clear C
    go_wp2_with fail
    refine HC.out.mono ?_
    rintro e w8 ⟨rfl, hk6⟩
    have K6 := Lib.hid (Kept.trans KY.out hk6)
    clear hk6
    go_wp2_with (go_at_call 21; refine (law5_num _ _).mono ?_; rintro e w9 ⟨rfl, rfl⟩)
    go_ret
    exact ⟨rfl, K6.out⟩
  have n6 : (ty != 0) = true := by simpa using h6
  by_cases h7 : ty = 2
  · have hr : R = 0 := by rw [HR.out]; simp [badPlace, h1, h2, h3, h4, h5, h6, h7]
    rw [hr] at C
    clear hr
    have HC := Lib.hid C
    clear C
    go_wp2_with fail
    refine HC.out.mono ?_
    rintro e w8 ⟨rfl, hk6⟩
    have K6 := Lib.hid (Kept.trans KY.out hk6)
    clear hk6
    go_wp2_with (go_at_call 21; refine (law5_num _ _).mono ?_; rintro e w9 ⟨rfl, rfl⟩)
    go_ret
    exact ⟨rfl, K6.out⟩
  have n7 : (ty != 2) = true := by simpa using h7
  by_cases h8 : ty = 4
  · have hr : R = 0 := by rw [HR.out]; simp [badPlace, h1, h2, h3, h4, h5, h6, h7, h8]
    rw [hr] at C
    clear hr
    have HC := Lib.hid C
    clear C
    go_wp2_with fail
    refine HC.out.mono ?_
    rintro e w8 ⟨rfl, hk6⟩
    have K6 := Lib.hid (Kept.trans KY.out hk6)
    clear hk6
    go_wp2_with (go_at_call 21; refine (law5_num _ _).mono ?_; rintro e w9 ⟨rfl, rfl⟩)
    go_ret
    exact ⟨rfl, K6.out⟩
  have n8 : (ty != 4) = true := by simpa using h8
  have hr : R = 20 := by rw [HR.out]; simp [badPlace, h1, h2, h3, h4, h5, h6, h7, h8]
  rw [hr] at C
  clear hr
  have HC := Lib.hid C
  clear C
  go_wp2_with fail
  refine HC.out.mono ?_
  rintro e w8 ⟨rfl, hk6⟩
  have K6 := Lib.hid (Kept.trans KY.out hk6)
  clear hk6
  go_wp2_with (go_at_call 21; refine (law5_num _ _).mono ?_; rintro e w9 ⟨rfl, rfl⟩)
  go_ret
  exact ⟨rfl, K6.out⟩
end Go.Proofs.Ytcklmhbcjgiplaa
