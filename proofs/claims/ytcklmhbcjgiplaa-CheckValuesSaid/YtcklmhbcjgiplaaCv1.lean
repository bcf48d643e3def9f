/-
  The law CheckValues: its walk.
-/
import Derived.Test.YtcklmhbcjgiplaaCv0
import Derived.Test.YtcklmhbcjgiplaaCo1
namespace Go.Proofs.Ytcklmhbcjgiplaa
set_option linter.unusedVariables false
set_option linter.unusedSimpArgs false
open Go.RowKit
set_option maxRecDepth 100000

theorem val_name (a v : Int) (ref : Bool) : (outD (valK a v ref)).name = ⟨#[65]⟩ := (show (nameC valPool 2).1 = ⟨#[65]⟩ by decide +kernel)
theorem val_mem (a v : Int) (ref : Bool) : (outD (valK a v ref)).fields = [⟨a % 32, ⟨#[120]⟩, (textC valPool (if ref = true then 7 else 6)).1, v != 0, ((getC valPool v 3).getD zeroK).num⟩] := by
  show [memF valPool (valF a v ref)] = _
  unfold memF valF
  dsimp only
  rw [show (textC valPool 5).1 = ⟨#[120]⟩ by decide +kernel]
theorem val_num8 : ((getC valPool 8 3).getD zeroK).num = 9 := by decide +kernel
set_option maxHeartbeats 16000000 in
theorem walk_CheckValues (a v : Int) (ref : Bool) (w : World) (q1 : (Lit.int .i64 a).wf = true) (q2 : (Lit.int .i64 v).wf = true) :
    Calls Try.prog 9 #[.int .i64 a, .int .i64 v, .bool ref] w fun e w' => e = .returned (.bool true) ∧ Below w.heap.size w w' := by
  clear q1 q2
  go_enter Try.func9, Try.ntmps9
  go_wp2_with fail
  refine (alive5 w).mono ?_
  rintro e w1 ⟨rfl, hk1⟩
  have K1 := Lib.hid hk1
  clear hk1

  go_wp2_with fail
  refine (law5_small w1).mono ?_
  rintro e w2 ⟨vP, he, ho, hk2⟩
  have he : e = .returned (.agg #[.int .i64 0, .int .i64 52, vP, .int .i64 33, .int .i64 2, .int .i64 4, .slice none 0 0, .slice none 0 0, .slice none 0 0]) := he
  subst he
  have K2 := Lib.hid (Kept.trans K1.out hk2)
  obtain ⟨gP, kP, rfl, hq1, hq2, hgw, hgl, hcell, hfz⟩ := own_form ho (by omega)
  have HGP := Lib.hid (show w.heap.size ≤ gP from Nat.le_trans K1.out.size hgw)
  have HRO2 := Lib.hid ho
  have hS2 := hk2.size
  clear ho hk2 hcell hfz hgw hq1 hq2
  go_upto_region 3 with fail
  have hk3 : Kept w2 (w2.alloc (.cells #[.int .i64 0, .int .i64 52, .slice (some ⟨gP, 0, none⟩) 4 kP, .int .i64 33, .int .i64 2, .int .i64 4, .slice none 0 0, .slice none 0 0, .slice none 0 0] 27)) := (Below.refl _ _).alloc (Nat.le_refl _) _
  obtain ⟨g, hg⟩ : ∃ g, g = w2.heap.size := ⟨_, rfl⟩
  have HT := Lib.hid (Blk.new w2 27 #[.int .i64 0, .int .i64 52, .slice (some ⟨gP, 0, none⟩) 4 kP, .int .i64 33, .int .i64 2, .int .i64 4, .slice none 0 0, .slice none 0 0, .slice none 0 0])
  have HG := Lib.hid (show w2.heap.size ≤ g by omega)
  have hne : gP ≠ g := by omega
  have K3 := Lib.hid (Kept.trans K2.out hk3)
  have hgW : w.heap.size ≤ g := Nat.le_trans K2.out.size HG.out
  have hgS : w1.heap.size ≤ g := Nat.le_trans hS2 HG.out
  have HRO := Lib.hid ((Touch.of_kept (S := fun _ => False) hk3).own HRO2.out fun _ _ h => h)
  rw [← hg] at HT ⊢
  clear hk3 hgl HRO2
  generalize (w2.alloc (.cells #[.int .i64 0, .int .i64 52, .slice (some ⟨gP, 0, none⟩) 4 kP, .int .i64 33, .int .i64 2, .int .i64 4, .slice none 0 0, .slice none 0 0, .slice none 0 0] 27)) = w3 at *
  clear hg hS2
  have hb3 : w1.heap.size ≤ w3.heap.size := Nat.le_trans hgS (Nat.le_of_lt HT.out.lt)
  have t0 := HT.out.cell 0
  have t1 := HT.out.cell 1
  have t2 := HT.out.cell 2
  have t3 := HT.out.cell 3
  have t4 := HT.out.cell 4
  have t5 := HT.out.cell 5
  have t6 := HT.out.cell 6
  have t7 := HT.out.cell 7
  have t8 := HT.out.cell 8
  simp only [List.getElem?_toArray, List.getElem?_cons_succ, List.getElem?_cons_zero] at t0 t1 t2 t3 t4 t5 t6 t7 t8

  have f2 := HT.out.frozen 2
  go_upto_region 4 with (at_builtin; refine wpl_lit elem_const rfl (.tmp 18) (.tmp 23) rfl w1.heap.size (.slice (some ⟨gP, 0, none⟩) 4 kP) 4 (smallK.pool.flatMap encC) rfl HRO.out 4 [.int .i64 1, .string ⟨#[120]⟩, .int .i64 0, .int .i64 0, .int .i64 0, .int .i64 1, .string ⟨#[73]⟩, .int .i64 0, .int .i64 0, .int .i64 0, .int .i64 1, .string ⟨#[76, 65, 59]⟩, .int .i64 0, .int .i64 0, .int .i64 0, .int .i64 3, .string ⟨#[]⟩, .int .i64 9, .int .i64 0, .int .i64 0] _ rfl rfl (by intro u hu; simp only [List.mem_cons, List.not_mem_nil, or_false] at hu; rcases hu with rfl | rfl | rfl | rfl | rfl | rfl | rfl | rfl | rfl | rfl | rfl | rfl | rfl | rfl | rfl | rfl | rfl | rfl | rfl | rfl <;> rfl) (by omega) (by omega) hb3 ?_; intro a4 c4 w4 ho7 hg7; have HRO4 := Lib.hid ho7; have HB4 := Lib.hid (HT.out.touch hg7 (fun e => own_ne HRO.out HT.out (by decide) _ e rfl)); have KT4 := Lib.hid hg7; have f2 := HB4.out.frozen 2; have z2 := HB4.out.cell 2; simp only [List.getElem?_toArray, List.getElem?_cons_succ, List.getElem?_cons_zero] at z2; clear ho7 hg7)
  have KW4 := Lib.hid (Below.trans K3.out ((KT4.out.below (fun b hb => (HRO.out.lt b hb).1) hb3).mono K1.out.size))
  have KX := Lib.hid (KW4.out.setCell (p := ⟨g, 2, none⟩) hgW (.slice a4 8 c4))
  have HX : Hid (Blk (w4.setCell ⟨g, 2, none⟩ (.slice a4 8 c4)) g 27 #[.int .i64 0, .int .i64 52, .slice a4 8 c4, .int .i64 33, .int .i64 2, .int .i64 4, .slice none 0 0, .slice none 0 0, .slice none 0 0]) := Lib.hid (HB4.out.set_ 2 (.slice a4 8 c4))
  have HRX := Lib.hid (own_away HRO4.out HB4.out (by decide) 2 (.slice a4 8 c4))
  have hb5 : w1.heap.size ≤ (w4.setCell ⟨g, 2, none⟩ (.slice a4 8 c4)).heap.size := by have := KT4.out.size; have := hb3; simp [World.setCell]; omega
  clear f2 z2 t0 t1 t2 t3 t4 t5 t6 t7 t8
  generalize (w4.setCell ⟨g, 2, none⟩ (.slice a4 8 c4)) = w5 at *
  have u0 := HX.out.cell 0
  have u1 := HX.out.cell 1
  have u2 := HX.out.cell 2
  have u3 := HX.out.cell 3
  have u4 := HX.out.cell 4
  have u5 := HX.out.cell 5
  have u6 := HX.out.cell 6
  have u7 := HX.out.cell 7
  have u8 := HX.out.cell 8
  simp only [List.getElem?_toArray, List.getElem?_cons_succ, List.getElem?_cons_zero] at u0 u1 u2 u3 u4 u5 u6 u7 u8
  obtain ⟨m, hm⟩ : ∃ m, bits .and .i64 a 31 = m := ⟨_, rfl⟩
  have HM := Lib.hid (show m = a % 32 by rw [← hm]; exact bits_31 a)
  clear u0 u1 u2 u3 u4 u5 u6 u7 u8
  go_upto_region 5 with fail
  have hka : Kept w5 (w5.alloc (.cells #[.int .i64 m, .int .i64 5, .int .i64 6, .int .i64 v] 55)) := (Below.refl _ _).alloc (Nat.le_refl _) _
  have HF5 := Lib.hid (Blk.new w5 55 #[.int .i64 m, .int .i64 5, .int .i64 6, .int .i64 v])
  have HX5 := Lib.hid (HX.out.kept hka)
  have HRX5 := Lib.hid ((Touch.of_kept (S := fun _ => False) hka).own HRX.out fun _ _ h => h)
  have KX5 := Lib.hid (Below.trans KX.out (hka.mono KX.out.size))
  obtain ⟨gf, hgf⟩ : ∃ k, k = w5.heap.size := ⟨_, rfl⟩
  have hgfW : w.heap.size ≤ gf := by rw [hgf]; exact KX.out.size
  rw [← hgf] at HF5 ⊢
  clear hka hm
  generalize (w5.alloc (.cells #[.int .i64 m, .int .i64 5, .int .i64 6, .int .i64 v] 55)) = w5a at *
  clear hgf
  cases ref
  · go_upto_region 7 with fail
    have HF6 := HF5
    have HX6 := HX5
    have HRX6 := HRX5
    have KX6 := KX5
    obtain ⟨w6, hren⟩ : ∃ x, x = w5a := ⟨_, rfl⟩
    subst hren
    have z0 := HF6.out.cell 0
    have z1 := HF6.out.cell 1
    have z2 := HF6.out.cell 2
    have z3 := HF6.out.cell 3
    simp only [List.getElem?_toArray, List.getElem?_cons_succ, List.getElem?_cons_zero] at z0 z1 z2 z3
    have u7 := HX6.out.cell 7
    simp only [List.getElem?_toArray, List.getElem?_cons_succ, List.getElem?_cons_zero] at u7
    have uf7 := HX6.out.frozen 7
    have hZ : Blk (w6.alloc (.cells #[.int .i64 m, .int .i64 5, .int .i64 6, .int .i64 v] 55)) g 27 #[.int .i64 0, .int .i64 52, .slice a4 8 c4, .int .i64 33, .int .i64 2, .int .i64 4, .slice none 0 0, .slice none 0 0, .slice none 0 0] := HX6.out.alloc _
    have z7 := hZ.cell 7
    simp only [List.getElem?_toArray, List.getElem?_cons_succ, List.getElem?_cons_zero] at z7
    have zf7 := hZ.frozen 7
    have HZ := Lib.hid hZ
    clear hZ
    go_upto_region 8 with fail
    have hgl5 := HX6.out.lt
    have KY : Hid (Below w.heap.size w ((w6.alloc (.cells #[.int .i64 m, .int .i64 5, .int .i64 6, .int .i64 v] 55)).setCell ⟨g, 7, none⟩ (.slice (some ⟨w6.heap.size, 0, none⟩) 1 1))) := Lib.hid ((KX6.out.alloc (Nat.le_trans hgW (Nat.le_of_lt HX6.out.lt)) _).setCell (p := ⟨g, 7, none⟩) hgW (.slice (some ⟨w6.heap.size, 0, none⟩) 1 1))
    have HY : Hid (Blk ((w6.alloc (.cells #[.int .i64 m, .int .i64 5, .int .i64 6, .int .i64 v] 55)).setCell ⟨g, 7, none⟩ (.slice (some ⟨w6.heap.size, 0, none⟩) 1 1)) g 27 #[.int .i64 0, .int .i64 52, .slice a4 8 c4, .int .i64 33, .int .i64 2, .int .i64 4, .slice none 0 0, .slice (some ⟨w6.heap.size, 0, none⟩) 1 1, .slice none 0 0]) := Lib.hid (HZ.out.set_ 7 (.slice (some ⟨w6.heap.size, 0, none⟩) 1 1))
    have HRY := Lib.hid (own_away (HRX6.out.alloc _) HZ.out (by decide) 7 (.slice (some ⟨w6.heap.size, 0, none⟩) 1 1))
    have HFR : Hid (Blk ((w6.alloc (.cells #[.int .i64 m, .int .i64 5, .int .i64 6, .int .i64 v] 55)).setCell ⟨g, 7, none⟩ (.slice (some ⟨w6.heap.size, 0, none⟩) 1 1)) w6.heap.size 55 #[.int .i64 m, .int .i64 5, .int .i64 6, .int .i64 v]) := Lib.hid ((Blk.new w6 _ _).far (p := ⟨g, 7, none⟩) (by dsimp only; have := HX6.out.lt; omega) _)
    clear z7 zf7 u7 uf7 z0 z1 z2 z3
    generalize ((w6.alloc (.cells #[.int .i64 m, .int .i64 5, .int .i64 6, .int .i64 v] 55)).setCell ⟨g, 7, none⟩ (.slice (some ⟨w6.heap.size, 0, none⟩) 1 1)) = w7 at *
    obtain ⟨gr, hgr⟩ : ∃ k, k = w6.heap.size := ⟨_, rfl⟩
    rw [← hgr] at HY HFR ⊢
    clear hgr hgl5
    have hcr : CRd w7 (valK a v false) [] (.slice a4 8 c4) (.slice none 0 0) (.slice (some ⟨gr, 0, none⟩) 1 1) (.slice none 0 0) := by
      refine ⟨Rd.of_own HRY.out, Rd.nil, ?_, Rd.nil, fun x hx => by simp at hx, rfl⟩
      have h := Rd.lit (n := 1) (sz := 4) HFR.out rfl (by omega)
      show Rd w7 4 (.slice (some ⟨gr, 0, none⟩) 1 1) 1 ([valF a v false].flatMap encF)
      rw [show [valF a v false].flatMap encF = [.int .i64 m, .int .i64 5, .int .i64 6, .int .i64 v] by rw [HM.out]; rfl]
      exact h
    have C := check_Outline (valK a v false) [] _ _ _ _ w7 hcr valPool_text
    unfold OutG at C
    obtain ⟨T, hT⟩ : ∃ T, T = outT (valK a v false) := ⟨_, rfl⟩
    rw [← hT, val_check] at C
    obtain ⟨R, hR⟩ : ∃ R, R = wantV a v false := ⟨_, rfl⟩
    rw [← hR] at C
    have HT := Lib.hid hT
    have HR := Lib.hid hR
    clear hT hR hcr
    have y0 := HY.out.cell 0
    have y1 := HY.out.cell 1
    have y2 := HY.out.cell 2
    have y3 := HY.out.cell 3
    have y4 := HY.out.cell 4
    have y5 := HY.out.cell 5
    have y6 := HY.out.cell 6
    have y7 := HY.out.cell 7
    have y8 := HY.out.cell 8
    simp only [List.getElem?_toArray, List.getElem?_cons_succ, List.getElem?_cons_zero] at y0 y1 y2 y3 y4 y5 y6 y7 y8
    go_wp2_with fail
    refine C.mono ?_
    rintro e w8 ⟨vI, vF, vM, he, hown, hk8⟩
    obtain ⟨aI, cI, rfl, -, -⟩ := own_slice hown.i
    obtain ⟨aF, cF, rfl, -, -⟩ := own_slice hown.f
    obtain ⟨aM, cM, rfl, -, -⟩ := own_slice hown.m
    have HROW := Lib.hid hown.f
    obtain ⟨nm, hnm⟩ : ∃ s, s = T.name := ⟨_, rfl⟩
    obtain ⟨sp, hsp⟩ : ∃ s, s = T.super := ⟨_, rfl⟩
    obtain ⟨tac, htac⟩ : ∃ s, s = T.access := ⟨_, rfl⟩
    obtain ⟨nI, hnI⟩ : ∃ s, s = T.interfaces.length := ⟨_, rfl⟩
    obtain ⟨nF, hnF⟩ : ∃ s, s = T.fields.length := ⟨_, rfl⟩
    obtain ⟨nM, hnM⟩ : ∃ s, s = T.methods.length := ⟨_, rfl⟩
    rw [← hnm, ← hsp, ← htac, ← hnI, ← hnF, ← hnM] at he
    have HNM := Lib.hid hnm
    have HNF := Lib.hid hnF
    subst he
    have K7 := Lib.hid (Below.trans KY.out (hk8.mono KY.out.size))
    clear hnm hsp htac hnI hnF hnM hown hk8 C y0 y1 y2 y3 y4 y5 y6 y7 y8
    go_upto_region 9 with fail
    have hka : Kept w8 (w8.alloc (.cells #[.string nm, .string sp, .int .i64 tac, .slice aI nI cI, .slice aF nF cF, .slice aM nM cM] 36)) := (Below.refl _ _).alloc (Nat.le_refl _) _
    have HTB := Lib.hid (Blk.new w8 36 #[.string nm, .string sp, .int .i64 tac, .slice aI nI cI, .slice aF nF cF, .slice aM nM cM])
    have HROW9 := Lib.hid ((Touch.of_kept (S := fun _ => False) hka).own HROW.out fun _ _ h => h)
    have K8 := Lib.hid (Below.trans K7.out (hka.mono K7.out.size))
    obtain ⟨gT, hgT⟩ : ∃ k, k = w8.heap.size := ⟨_, rfl⟩
    rw [← hgT] at HTB ⊢
    clear hka
    generalize (w8.alloc (.cells #[.string nm, .string sp, .int .i64 tac, .slice aI nI cI, .slice aF nF cF, .slice aM nM cM] 36)) = w9 at *
    clear hgT
    have T0 := HTB.out.cell 0
    have T4 := HTB.out.cell 4
    simp only [List.getElem?_toArray, List.getElem?_cons_succ, List.getElem?_cons_zero] at T0 T4
    obtain ⟨p0, hp0⟩ : ∃ p, p = a % 2 := ⟨_, rfl⟩
    obtain ⟨q1, hq1⟩ : ∃ p, p = a / 2 := ⟨_, rfl⟩
    obtain ⟨q2, hq2⟩ : ∃ p, p = a / 4 := ⟨_, rfl⟩
    obtain ⟨p1, hp1⟩ : ∃ p, p = q1 % 2 := ⟨_, rfl⟩
    obtain ⟨p2, hp2⟩ : ∃ p, p = q2 % 2 := ⟨_, rfl⟩
    have e0 : bits .and .i64 a 1 = p0 := by rw [hp0]; exact bits_1 a
    have e1 : Op.shift .shr .i64 a .u64 1 = pure (.int .i64 q1) := by rw [hq1]; exact shr_1 a
    have e2 : Op.shift .shr .i64 a .u64 2 = pure (.int .i64 q2) := by rw [hq2]; exact shr_2 a
    have e3 : bits .and .i64 q1 1 = p1 := by rw [hp1]; exact bits_1 q1
    have e4 : bits .and .i64 q2 1 = p2 := by rw [hp2]; exact bits_1 q2
    have HVW := Lib.hid (show viewsA a = p0 + p1 + p2 by rw [hp0, hp1, hp2, hq1, hq2]; rfl)
    have b0 : 0 ≤ p0 := by omega
    have b1 : p0 ≤ 1 := by omega
    have b2 : 0 ≤ p1 := by omega
    have b3 : p1 ≤ 1 := by omega
    have b4 : 0 ≤ p2 := by omega
    have b5 : p2 ≤ 1 := by omega
    clear hp0 hp1 hp2 hq1 hq2
    go_upto_region 11 with fail
    clear e0 e1 e2 e3 e4
    by_cases hv : 1 < p0 + p1 + p2
    · obtain rfl : R = 23 := by rw [HR.out]; unfold wantV; rw [HVW.out, if_pos hv]
      have HTD := Lib.hid (HT.out.trans (outT_bad (c := valK a v false) (by rw [val_check, ← HR.out]; decide)))
      obtain rfl : nm = ⟨#[]⟩ := by rw [HNM.out, HTD.out]; rfl
      obtain rfl : nF = 0 := by rw [HNF.out, HTD.out]; rfl
      go_wp2_with (go_at_call 21; refine (law5_num _ _).mono ?_; rintro e w9 ⟨rfl, rfl⟩)
      go_ret
      exact ⟨rfl, K8.out⟩
    cases zv : (v != 0)
    · obtain rfl : v = 0 := by simpa using zv
      obtain rfl : R = 0 := by rw [HR.out]; unfold wantV; rw [HVW.out, if_neg hv]; rfl
      have HTD := Lib.hid (HT.out.trans (outT_good (c := valK a 0 false) (by rw [val_check, ← HR.out])))
      obtain ⟨sd, hsd⟩ : ∃ s, s = (textC valPool (if false = true then 7 else 6)).1 := ⟨_, rfl⟩
      obtain ⟨num, hnum⟩ : ∃ n, n = ((getC valPool 0 3).getD zeroK).num := ⟨_, rfl⟩
      have hvm := val_mem a 0 false
      rw [← hsd, ← hnum] at hvm
      have hn5 : num = 0 := by rw [hnum]; exact getC_zero _ _
      obtain rfl : nF = 1 := by rw [HNF.out, HTD.out, hvm]; rfl
      have hrow := HROW9.out
      rw [HTD.out, hvm] at hrow
      change w9.ownsRow w7.heap.size 63 5 (.slice aF 1 cF) 1 [.int .i64 (a % 32), .string ⟨#[120]⟩, .string sd, .bool false, .int .i64 num] at hrow
      obtain ⟨gq, kq, hvq, -, -, -, -, hcell, -⟩ := own_form hrow (by omega)
      simp only [Value.slice.injEq] at hvq
      obtain ⟨rfl, -, rfl⟩ := hvq
      have y0 := hcell 0 _ rfl
      have y1 := hcell 1 _ rfl
      have y2 := hcell 2 _ rfl
      have y3 := hcell 3 _ rfl
      have y4 := hcell 4 _ rfl
      subst hn5
      obtain ⟨a32, ha32⟩ : ∃ x, x = a % 32 := ⟨_, rfl⟩
      rw [← ha32] at y0
      clear hcell hrow hvm hsd hnum ha32 HROW9 HROW
      go_upto_region 20 with (go_at_call 21; refine (law5_num _ _).mono ?_; rintro e w9 ⟨rfl, rfl⟩)
      have hkb : Kept w9 (w9.alloc (.cells #[.int .i64 a32, .string ⟨#[120]⟩, .string sd, .bool false, .int .i64 0] 63)) := (Below.refl _ _).alloc (Nat.le_refl _) _
      have HMB := Lib.hid (Blk.new w9 63 #[.int .i64 a32, .string ⟨#[120]⟩, .string sd, .bool false, .int .i64 0])
      have K9 := Lib.hid (Below.trans K8.out (hkb.mono K8.out.size))
      obtain ⟨gM, hgM⟩ : ∃ k, k = w9.heap.size := ⟨_, rfl⟩
      rw [← hgM] at HMB ⊢
      clear hkb y0 y1 y2 y3 y4 T0 T4
      generalize (w9.alloc (.cells #[.int .i64 a32, .string ⟨#[120]⟩, .string sd, .bool false, .int .i64 0] 63)) = w10 at *
      clear hgM
      have j0 := HMB.out.cell 0
      have j1 := HMB.out.cell 1
      have j2 := HMB.out.cell 2
      have j3 := HMB.out.cell 3
      have j4 := HMB.out.cell 4
      simp only [List.getElem?_toArray, List.getElem?_cons_succ, List.getElem?_cons_zero] at j0 j1 j2 j3 j4
      go_wp2_with (go_at_call 21; refine (law5_num _ _).mono ?_; rintro e w9 ⟨rfl, rfl⟩)
      go_ret
      exact ⟨rfl, K9.out⟩
    cases z8 : (v != 8)
    rotate_left
    · obtain rfl : R = 26 := by rw [HR.out]; unfold wantV; rw [HVW.out, if_neg hv, if_pos (show badV a v false = true by unfold badV; rw [zv, z8]; rfl)]
      have HTD := Lib.hid (HT.out.trans (outT_bad (c := valK a v false) (by rw [val_check, ← HR.out]; decide)))
      obtain rfl : nm = ⟨#[]⟩ := by rw [HNM.out, HTD.out]; rfl
      obtain rfl : nF = 0 := by rw [HNF.out, HTD.out]; rfl
      go_wp2_with (go_at_call 21; refine (law5_num _ _).mono ?_; rintro e w9 ⟨rfl, rfl⟩)
      go_ret
      exact ⟨rfl, K8.out⟩
    cases z3 : (bits .and .i64 a 8 == 0)
    rotate_left
    · obtain rfl : R = 26 := by rw [HR.out]; unfold wantV; rw [HVW.out, if_neg hv, if_pos (show badV a v false = true by unfold badV; rw [zv, ← bits_8, z3]; simp)]
      have HTD := Lib.hid (HT.out.trans (outT_bad (c := valK a v false) (by rw [val_check, ← HR.out]; decide)))
      obtain rfl : nm = ⟨#[]⟩ := by rw [HNM.out, HTD.out]; rfl
      obtain rfl : nF = 0 := by rw [HNF.out, HTD.out]; rfl
      go_wp2_with (go_at_call 21; refine (law5_num _ _).mono ?_; rintro e w9 ⟨rfl, rfl⟩)
      go_ret
      exact ⟨rfl, K8.out⟩
    obtain rfl : v = 8 := by simpa using z8
    obtain rfl : R = 0 := by rw [HR.out]; unfold wantV; rw [HVW.out, if_neg hv, if_neg (show ¬ badV a 8 false = true by unfold badV; rw [← bits_8, z3]; decide)]
    have HTD := Lib.hid (HT.out.trans (outT_good (c := valK a 8 false) (by rw [val_check, ← HR.out])))
    obtain ⟨sd, hsd⟩ : ∃ s, s = (textC valPool (if false = true then 7 else 6)).1 := ⟨_, rfl⟩
    obtain ⟨num, hnum⟩ : ∃ n, n = ((getC valPool 8 3).getD zeroK).num := ⟨_, rfl⟩
    have hvm := val_mem a 8 false
    rw [← hsd, ← hnum] at hvm
    have hn5 : num = 9 := by rw [hnum]; exact val_num8
    obtain rfl : nF = 1 := by rw [HNF.out, HTD.out, hvm]; rfl
    have hrow := HROW9.out
    rw [HTD.out, hvm] at hrow
    change w9.ownsRow w7.heap.size 63 5 (.slice aF 1 cF) 1 [.int .i64 (a % 32), .string ⟨#[120]⟩, .string sd, .bool true, .int .i64 num] at hrow
    obtain ⟨gq, kq, hvq, -, -, -, -, hcell, -⟩ := own_form hrow (by omega)
    simp only [Value.slice.injEq] at hvq
    obtain ⟨rfl, -, rfl⟩ := hvq
    have y0 := hcell 0 _ rfl
    have y1 := hcell 1 _ rfl
    have y2 := hcell 2 _ rfl
    have y3 := hcell 3 _ rfl
    have y4 := hcell 4 _ rfl
    subst hn5
    obtain ⟨a32, ha32⟩ : ∃ x, x = a % 32 := ⟨_, rfl⟩
    rw [← ha32] at y0
    clear hcell hrow hvm hsd hnum ha32 HROW9 HROW
    go_upto_region 20 with (go_at_call 21; refine (law5_num _ _).mono ?_; rintro e w9 ⟨rfl, rfl⟩)
    have hkb : Kept w9 (w9.alloc (.cells #[.int .i64 a32, .string ⟨#[120]⟩, .string sd, .bool true, .int .i64 9] 63)) := (Below.refl _ _).alloc (Nat.le_refl _) _
    have HMB := Lib.hid (Blk.new w9 63 #[.int .i64 a32, .string ⟨#[120]⟩, .string sd, .bool true, .int .i64 9])
    have K9 := Lib.hid (Below.trans K8.out (hkb.mono K8.out.size))
    obtain ⟨gM, hgM⟩ : ∃ k, k = w9.heap.size := ⟨_, rfl⟩
    rw [← hgM] at HMB ⊢
    clear hkb y0 y1 y2 y3 y4 T0 T4
    generalize (w9.alloc (.cells #[.int .i64 a32, .string ⟨#[120]⟩, .string sd, .bool true, .int .i64 9] 63)) = w10 at *
    clear hgM
    have j0 := HMB.out.cell 0
    have j1 := HMB.out.cell 1
    have j2 := HMB.out.cell 2
    have j3 := HMB.out.cell 3
    have j4 := HMB.out.cell 4
    simp only [List.getElem?_toArray, List.getElem?_cons_succ, List.getElem?_cons_zero] at j0 j1 j2 j3 j4
    go_wp2_with (go_at_call 21; refine (law5_num _ _).mono ?_; rintro e w9 ⟨rfl, rfl⟩)
    go_ret
    exact ⟨rfl, K9.out⟩
  · have f2 := HF5.out.cell 2
    simp only [List.getElem?_toArray, List.getElem?_cons_succ, List.getElem?_cons_zero] at f2
    have ff2 := HF5.out.frozen 2
    go_upto_region 7 with fail
    have HF6 : Hid (Blk (w5a.setCell ⟨gf, 2, none⟩ (.int .i64 7)) gf 55 #[.int .i64 m, .int .i64 5, .int .i64 7, .int .i64 v]) := Lib.hid (HF5.out.set_ 2 (.int .i64 7))
    have HX6 := Lib.hid (HX5.out.far (p := ⟨gf, 2, none⟩) (Blk.ne_ HX5.out HF5.out (by decide)) (.int .i64 7))
    have HRX6 := Lib.hid (own_away HRX5.out HF5.out (by decide) 2 (.int .i64 7))
    have KX6 := Lib.hid (KX5.out.setCell (p := ⟨gf, 2, none⟩) hgfW (.int .i64 7))
    clear f2 ff2
    generalize (w5a.setCell ⟨gf, 2, none⟩ (.int .i64 7)) = w6 at *
    have z0 := HF6.out.cell 0
    have z1 := HF6.out.cell 1
    have z2 := HF6.out.cell 2
    have z3 := HF6.out.cell 3
    simp only [List.getElem?_toArray, List.getElem?_cons_succ, List.getElem?_cons_zero] at z0 z1 z2 z3
    have u7 := HX6.out.cell 7
    simp only [List.getElem?_toArray, List.getElem?_cons_succ, List.getElem?_cons_zero] at u7
    have uf7 := HX6.out.frozen 7
    have hZ : Blk (w6.alloc (.cells #[.int .i64 m, .int .i64 5, .int .i64 7, .int .i64 v] 55)) g 27 #[.int .i64 0, .int .i64 52, .slice a4 8 c4, .int .i64 33, .int .i64 2, .int .i64 4, .slice none 0 0, .slice none 0 0, .slice none 0 0] := HX6.out.alloc _
    have z7 := hZ.cell 7
    simp only [List.getElem?_toArray, List.getElem?_cons_succ, List.getElem?_cons_zero] at z7
    have zf7 := hZ.frozen 7
    have HZ := Lib.hid hZ
    clear hZ
    go_upto_region 8 with fail
    have hgl5 := HX6.out.lt
    have KY : Hid (Below w.heap.size w ((w6.alloc (.cells #[.int .i64 m, .int .i64 5, .int .i64 7, .int .i64 v] 55)).setCell ⟨g, 7, none⟩ (.slice (some ⟨w6.heap.size, 0, none⟩) 1 1))) := Lib.hid ((KX6.out.alloc (Nat.le_trans hgW (Nat.le_of_lt HX6.out.lt)) _).setCell (p := ⟨g, 7, none⟩) hgW (.slice (some ⟨w6.heap.size, 0, none⟩) 1 1))
    have HY : Hid (Blk ((w6.alloc (.cells #[.int .i64 m, .int .i64 5, .int .i64 7, .int .i64 v] 55)).setCell ⟨g, 7, none⟩ (.slice (some ⟨w6.heap.size, 0, none⟩) 1 1)) g 27 #[.int .i64 0, .int .i64 52, .slice a4 8 c4, .int .i64 33, .int .i64 2, .int .i64 4, .slice none 0 0, .slice (some ⟨w6.heap.size, 0, none⟩) 1 1, .slice none 0 0]) := Lib.hid (HZ.out.set_ 7 (.slice (some ⟨w6.heap.size, 0, none⟩) 1 1))
    have HRY := Lib.hid (own_away (HRX6.out.alloc _) HZ.out (by decide) 7 (.slice (some ⟨w6.heap.size, 0, none⟩) 1 1))
    have HFR : Hid (Blk ((w6.alloc (.cells #[.int .i64 m, .int .i64 5, .int .i64 7, .int .i64 v] 55)).setCell ⟨g, 7, none⟩ (.slice (some ⟨w6.heap.size, 0, none⟩) 1 1)) w6.heap.size 55 #[.int .i64 m, .int .i64 5, .int .i64 7, .int .i64 v]) := Lib.hid ((Blk.new w6 _ _).far (p := ⟨g, 7, none⟩) (by dsimp only; have := HX6.out.lt; omega) _)
    clear z7 zf7 u7 uf7 z0 z1 z2 z3
    generalize ((w6.alloc (.cells #[.int .i64 m, .int .i64 5, .int .i64 7, .int .i64 v] 55)).setCell ⟨g, 7, none⟩ (.slice (some ⟨w6.heap.size, 0, none⟩) 1 1)) = w7 at *
    obtain ⟨gr, hgr⟩ : ∃ k, k = w6.heap.size := ⟨_, rfl⟩
    rw [← hgr] at HY HFR ⊢
    clear hgr hgl5
    have hcr : CRd w7 (valK a v true) [] (.slice a4 8 c4) (.slice none 0 0) (.slice (some ⟨gr, 0, none⟩) 1 1) (.slice none 0 0) := by
      refine ⟨Rd.of_own HRY.out, Rd.nil, ?_, Rd.nil, fun x hx => by simp at hx, rfl⟩
      have h := Rd.lit (n := 1) (sz := 4) HFR.out rfl (by omega)
      show Rd w7 4 (.slice (some ⟨gr, 0, none⟩) 1 1) 1 ([valF a v true].flatMap encF)
      rw [show [valF a v true].flatMap encF = [.int .i64 m, .int .i64 5, .int .i64 7, .int .i64 v] by rw [HM.out]; rfl]
      exact h
    have C := check_Outline (valK a v true) [] _ _ _ _ w7 hcr valPool_text
    unfold OutG at C
    obtain ⟨T, hT⟩ : ∃ T, T = outT (valK a v true) := ⟨_, rfl⟩
    rw [← hT, val_check] at C
    obtain ⟨R, hR⟩ : ∃ R, R = wantV a v true := ⟨_, rfl⟩
    rw [← hR] at C
    have HT := Lib.hid hT
    have HR := Lib.hid hR
    clear hT hR hcr
    have y0 := HY.out.cell 0
    have y1 := HY.out.cell 1
    have y2 := HY.out.cell 2
    have y3 := HY.out.cell 3
    have y4 := HY.out.cell 4
    have y5 := HY.out.cell 5
    have y6 := HY.out.cell 6
    have y7 := HY.out.cell 7
    have y8 := HY.out.cell 8
    simp only [List.getElem?_toArray, List.getElem?_cons_succ, List.getElem?_cons_zero] at y0 y1 y2 y3 y4 y5 y6 y7 y8
    go_wp2_with fail
    refine C.mono ?_
    rintro e w8 ⟨vI, vF, vM, he, hown, hk8⟩
    obtain ⟨aI, cI, rfl, -, -⟩ := own_slice hown.i
    obtain ⟨aF, cF, rfl, -, -⟩ := own_slice hown.f
    obtain ⟨aM, cM, rfl, -, -⟩ := own_slice hown.m
    have HROW := Lib.hid hown.f
    obtain ⟨nm, hnm⟩ : ∃ s, s = T.name := ⟨_, rfl⟩
    obtain ⟨sp, hsp⟩ : ∃ s, s = T.super := ⟨_, rfl⟩
    obtain ⟨tac, htac⟩ : ∃ s, s = T.access := ⟨_, rfl⟩
    obtain ⟨nI, hnI⟩ : ∃ s, s = T.interfaces.length := ⟨_, rfl⟩
    obtain ⟨nF, hnF⟩ : ∃ s, s = T.fields.length := ⟨_, rfl⟩
    obtain ⟨nM, hnM⟩ : ∃ s, s = T.methods.length := ⟨_, rfl⟩
    rw [← hnm, ← hsp, ← htac, ← hnI, ← hnF, ← hnM] at he
    have HNM := Lib.hid hnm
    have HNF := Lib.hid hnF
    subst he
    have K7 := Lib.hid (Below.trans KY.out (hk8.mono KY.out.size))
    clear hnm hsp htac hnI hnF hnM hown hk8 C y0 y1 y2 y3 y4 y5 y6 y7 y8
    go_upto_region 9 with fail
    have hka : Kept w8 (w8.alloc (.cells #[.string nm, .string sp, .int .i64 tac, .slice aI nI cI, .slice aF nF cF, .slice aM nM cM] 36)) := (Below.refl _ _).alloc (Nat.le_refl _) _
    have HTB := Lib.hid (Blk.new w8 36 #[.string nm, .string sp, .int .i64 tac, .slice aI nI cI, .slice aF nF cF, .slice aM nM cM])
    have HROW9 := Lib.hid ((Touch.of_kept (S := fun _ => False) hka).own HROW.out fun _ _ h => h)
    have K8 := Lib.hid (Below.trans K7.out (hka.mono K7.out.size))
    obtain ⟨gT, hgT⟩ : ∃ k, k = w8.heap.size := ⟨_, rfl⟩
    rw [← hgT] at HTB ⊢
    clear hka
    generalize (w8.alloc (.cells #[.string nm, .string sp, .int .i64 tac, .slice aI nI cI, .slice aF nF cF, .slice aM nM cM] 36)) = w9 at *
    clear hgT
    have T0 := HTB.out.cell 0
    have T4 := HTB.out.cell 4
    simp only [List.getElem?_toArray, List.getElem?_cons_succ, List.getElem?_cons_zero] at T0 T4
    obtain ⟨p0, hp0⟩ : ∃ p, p = a % 2 := ⟨_, rfl⟩
    obtain ⟨q1, hq1⟩ : ∃ p, p = a / 2 := ⟨_, rfl⟩
    obtain ⟨q2, hq2⟩ : ∃ p, p = a / 4 := ⟨_, rfl⟩
    obtain ⟨p1, hp1⟩ : ∃ p, p = q1 % 2 := ⟨_, rfl⟩
    obtain ⟨p2, hp2⟩ : ∃ p, p = q2 % 2 := ⟨_, rfl⟩
    have e0 : bits .and .i64 a 1 = p0 := by rw [hp0]; exact bits_1 a
    have e1 : Op.shift .shr .i64 a .u64 1 = pure (.int .i64 q1) := by rw [hq1]; exact shr_1 a
    have e2 : Op.shift .shr .i64 a .u64 2 = pure (.int .i64 q2) := by rw [hq2]; exact shr_2 a
    have e3 : bits .and .i64 q1 1 = p1 := by rw [hp1]; exact bits_1 q1
    have e4 : bits .and .i64 q2 1 = p2 := by rw [hp2]; exact bits_1 q2
    have HVW := Lib.hid (show viewsA a = p0 + p1 + p2 by rw [hp0, hp1, hp2, hq1, hq2]; rfl)
    have b0 : 0 ≤ p0 := by omega
    have b1 : p0 ≤ 1 := by omega
    have b2 : 0 ≤ p1 := by omega
    have b3 : p1 ≤ 1 := by omega
    have b4 : 0 ≤ p2 := by omega
    have b5 : p2 ≤ 1 := by omega
    clear hp0 hp1 hp2 hq1 hq2
    go_upto_region 11 with fail
    clear e0 e1 e2 e3 e4
    by_cases hv : 1 < p0 + p1 + p2
    · obtain rfl : R = 23 := by rw [HR.out]; unfold wantV; rw [HVW.out, if_pos hv]
      have HTD := Lib.hid (HT.out.trans (outT_bad (c := valK a v true) (by rw [val_check, ← HR.out]; decide)))
      obtain rfl : nm = ⟨#[]⟩ := by rw [HNM.out, HTD.out]; rfl
      obtain rfl : nF = 0 := by rw [HNF.out, HTD.out]; rfl
      go_wp2_with (go_at_call 21; refine (law5_num _ _).mono ?_; rintro e w9 ⟨rfl, rfl⟩)
      go_ret
      exact ⟨rfl, K8.out⟩
    cases zv : (v != 0)
    · obtain rfl : v = 0 := by simpa using zv
      obtain rfl : R = 0 := by rw [HR.out]; unfold wantV; rw [HVW.out, if_neg hv]; rfl
      have HTD := Lib.hid (HT.out.trans (outT_good (c := valK a 0 true) (by rw [val_check, ← HR.out])))
      obtain ⟨sd, hsd⟩ : ∃ s, s = (textC valPool (if true = true then 7 else 6)).1 := ⟨_, rfl⟩
      obtain ⟨num, hnum⟩ : ∃ n, n = ((getC valPool 0 3).getD zeroK).num := ⟨_, rfl⟩
      have hvm := val_mem a 0 true
      rw [← hsd, ← hnum] at hvm
      have hn5 : num = 0 := by rw [hnum]; exact getC_zero _ _
      obtain rfl : nF = 1 := by rw [HNF.out, HTD.out, hvm]; rfl
      have hrow := HROW9.out
      rw [HTD.out, hvm] at hrow
      change w9.ownsRow w7.heap.size 63 5 (.slice aF 1 cF) 1 [.int .i64 (a % 32), .string ⟨#[120]⟩, .string sd, .bool false, .int .i64 num] at hrow
      obtain ⟨gq, kq, hvq, -, -, -, -, hcell, -⟩ := own_form hrow (by omega)
      simp only [Value.slice.injEq] at hvq
      obtain ⟨rfl, -, rfl⟩ := hvq
      have y0 := hcell 0 _ rfl
      have y1 := hcell 1 _ rfl
      have y2 := hcell 2 _ rfl
      have y3 := hcell 3 _ rfl
      have y4 := hcell 4 _ rfl
      subst hn5
      obtain ⟨a32, ha32⟩ : ∃ x, x = a % 32 := ⟨_, rfl⟩
      rw [← ha32] at y0
      clear hcell hrow hvm hsd hnum ha32 HROW9 HROW
      go_upto_region 20 with (go_at_call 21; refine (law5_num _ _).mono ?_; rintro e w9 ⟨rfl, rfl⟩)
      have hkb : Kept w9 (w9.alloc (.cells #[.int .i64 a32, .string ⟨#[120]⟩, .string sd, .bool false, .int .i64 0] 63)) := (Below.refl _ _).alloc (Nat.le_refl _) _
      have HMB := Lib.hid (Blk.new w9 63 #[.int .i64 a32, .string ⟨#[120]⟩, .string sd, .bool false, .int .i64 0])
      have K9 := Lib.hid (Below.trans K8.out (hkb.mono K8.out.size))
      obtain ⟨gM, hgM⟩ : ∃ k, k = w9.heap.size := ⟨_, rfl⟩
      rw [← hgM] at HMB ⊢
      clear hkb y0 y1 y2 y3 y4 T0 T4
      generalize (w9.alloc (.cells #[.int .i64 a32, .string ⟨#[120]⟩, .string sd, .bool false, .int .i64 0] 63)) = w10 at *
      clear hgM
      have j0 := HMB.out.cell 0
      have j1 := HMB.out.cell 1
      have j2 := HMB.out.cell 2
      have j3 := HMB.out.cell 3
      have j4 := HMB.out.cell 4
      simp only [List.getElem?_toArray, List.getElem?_cons_succ, List.getElem?_cons_zero] at j0 j1 j2 j3 j4
      go_wp2_with (go_at_call 21; refine (law5_num _ _).mono ?_; rintro e w9 ⟨rfl, rfl⟩)
      go_ret
      exact ⟨rfl, K9.out⟩
    cases z8 : (v != 8)
    rotate_left
    · obtain rfl : R = 26 := by rw [HR.out]; unfold wantV; rw [HVW.out, if_neg hv, if_pos (show badV a v true = true by unfold badV; rw [zv, z8]; rfl)]
      have HTD := Lib.hid (HT.out.trans (outT_bad (c := valK a v true) (by rw [val_check, ← HR.out]; decide)))
      obtain rfl : nm = ⟨#[]⟩ := by rw [HNM.out, HTD.out]; rfl
      obtain rfl : nF = 0 := by rw [HNF.out, HTD.out]; rfl
      go_wp2_with (go_at_call 21; refine (law5_num _ _).mono ?_; rintro e w9 ⟨rfl, rfl⟩)
      go_ret
      exact ⟨rfl, K8.out⟩
    cases z3 : (bits .and .i64 a 8 == 0)
    rotate_left
    · obtain rfl : R = 26 := by rw [HR.out]; unfold wantV; rw [HVW.out, if_neg hv, if_pos (show badV a v true = true by unfold badV; rw [zv, ← bits_8, z3]; simp)]
      have HTD := Lib.hid (HT.out.trans (outT_bad (c := valK a v true) (by rw [val_check, ← HR.out]; decide)))
      obtain rfl : nm = ⟨#[]⟩ := by rw [HNM.out, HTD.out]; rfl
      obtain rfl : nF = 0 := by rw [HNF.out, HTD.out]; rfl
      go_wp2_with (go_at_call 21; refine (law5_num _ _).mono ?_; rintro e w9 ⟨rfl, rfl⟩)
      go_ret
      exact ⟨rfl, K8.out⟩
    obtain rfl : R = 26 := by rw [HR.out]; unfold wantV; rw [HVW.out, if_neg hv, if_pos (show badV a v true = true by unfold badV; rw [zv]; simp)]
    have HTD := Lib.hid (HT.out.trans (outT_bad (c := valK a v true) (by rw [val_check, ← HR.out]; decide)))
    obtain rfl : nm = ⟨#[]⟩ := by rw [HNM.out, HTD.out]; rfl
    obtain rfl : nF = 0 := by rw [HNF.out, HTD.out]; rfl
    go_wp2_with (go_at_call 21; refine (law5_num _ _).mono ?_; rintro e w9 ⟨rfl, rfl⟩)
    go_ret
    exact ⟨rfl, K8.out⟩
end Go.Proofs.Ytcklmhbcjgiplaa
