/-
  The law CheckVersions: its walk.
-/
import Derived.Test.YtcklmhbcjgiplaaCl0
namespace Go.Proofs.Ytcklmhbcjgiplaa
set_option linter.unusedVariables false
set_option linter.unusedSimpArgs false
open Go.RowKit
set_option maxRecDepth 100000

theorem vers_check (mi ma : Int) : checkE (bareC mi ma 33 2 4 smallK.pool) = if ma < 45 ∨ 52 < ma then 12 else 0 := by
  have m0 : muchB (bareC mi ma 33 2 4 smallK.pool) = false := (show muchB (bareC 0 52 33 2 4 smallK.pool) = false by decide +kernel)
  have p0 : poolE (bareC mi ma 33 2 4 smallK.pool).pool (bareC mi ma 33 2 4 smallK.pool).pool = 0 := (show poolE smallK.pool smallK.pool = 0 by decide +kernel)
  have h0 : headE (bareC mi ma 33 2 4 smallK.pool) = 0 := (show headE (bareC 0 52 33 2 4 smallK.pool) = 0 by decide +kernel)
  unfold checkE
  rw [m0, if_neg (by decide), p0, h0]
  simp [bareC, fieldsE, methsE]
set_option maxHeartbeats 4000000 in
theorem walk_CheckVersions (minor major : Int) (w : World) (h1 : (Lit.int .i64 minor).wf = true) (h2 : (Lit.int .i64 major).wf = true) :
    Calls Try.prog 10 #[.int .i64 minor, .int .i64 major] w fun e w' => e = .returned (.bool true) ∧ Below w.heap.size w w' := by
  clear h1 h2
  go_enter Try.func10, Try.ntmps10
  go_wp2_with fail
  refine (alive5 w).mono ?_
  rintro e w1 ⟨rfl, hk1⟩
  have K1 := Lib.hid hk1
  clear hk1
  go_wp2_with fail
  refine (law5_small w1).mono ?_
  rintro e w2 ⟨vP, he, ho, hk2⟩
  have he : e = .returned (.agg #[.int .i64 0, .int .i64 52, vP, .int .i64 33, .int .i64 2, .int .i64 4, .slice none 0 0, .slice none 0 0, .slice none 0 0]) := he
  subst he
  have K2 := Lib.hid (Kept.trans K1.out hk2)
  have HRO := Lib.hid (Rd.of_own ho)
  obtain ⟨aP, kP, rfl, -, -⟩ := own_slice ho
  clear ho hk2
  go_upto_region 3 with fail
  have hk3 : Kept w2 (w2.alloc (.cells #[.int .i64 0, .int .i64 52, .slice aP 4 kP, .int .i64 33, .int .i64 2, .int .i64 4, .slice none 0 0, .slice none 0 0, .slice none 0 0] 27)) := (Below.refl _ _).alloc (Nat.le_refl _) _
  obtain ⟨g, hg⟩ : ∃ g, g = w2.heap.size := ⟨_, rfl⟩
  have K3 := Lib.hid (Kept.trans K2.out hk3)
  have HT := Lib.hid (Blk.new w2 27 #[.int .i64 0, .int .i64 52, .slice aP 4 kP, .int .i64 33, .int .i64 2, .int .i64 4, .slice none 0 0, .slice none 0 0, .slice none 0 0])
  have HG := Lib.hid (show w2.heap.size ≤ g by omega)
  have KW := Lib.hid hk3
  rw [← hg] at HT ⊢
  clear hk3
  generalize (w2.alloc (.cells #[.int .i64 0, .int .i64 52, .slice aP 4 kP, .int .i64 33, .int .i64 2, .int .i64 4, .slice none 0 0, .slice none 0 0, .slice none 0 0] 27)) = w3 at *
  clear hg
  have t0 := HT.out.cell 0
  have t1 := HT.out.cell 1
  have t2 := HT.out.cell 2
  have t3 := HT.out.cell 3
  have t4 := HT.out.cell 4
  have t5 := HT.out.cell 5
  have t6 := HT.out.cell 6
  have t7 := HT.out.cell 7
  have t8 := HT.out.cell 8
  simp only [List.getElem?_toArray, List.getElem?_cons_succ, List.getElem?_cons_zero] at t0 t1 t2 t3 t4 t5 t6 t7 t8
  have f0 := HT.out.frozen 0
  go_upto_region 4 with fail
  have KX := Lib.hid (KW.out.setCell (p := ⟨g, 0, none⟩) HG.out (.int .i64 minor))
  have HX : Hid (Blk (w3.setCell ⟨g, 0, none⟩ (.int .i64 minor)) g 27 #[.int .i64 minor, .int .i64 52, .slice aP 4 kP, .int .i64 33, .int .i64 2, .int .i64 4, .slice none 0 0, .slice none 0 0, .slice none 0 0]) := Lib.hid (HT.out.set_ 0 (.int .i64 minor))
  clear f0
  generalize (w3.setCell ⟨g, 0, none⟩ (.int .i64 minor)) = w4 at *
  have u0 := HX.out.cell 0
  have u1 := HX.out.cell 1
  have u2 := HX.out.cell 2
  have u3 := HX.out.cell 3
  have u4 := HX.out.cell 4
  have u5 := HX.out.cell 5
  have u6 := HX.out.cell 6
  have u7 := HX.out.cell 7
  have u8 := HX.out.cell 8
  simp only [List.getElem?_toArray, List.getElem?_cons_succ, List.getElem?_cons_zero] at u0 u1 u2 u3 u4 u5 u6 u7 u8
  have f1 := HX.out.frozen 1
  go_upto_region 5 with fail
  have KY := Lib.hid (KX.out.setCell (p := ⟨g, 1, none⟩) HG.out (.int .i64 major))
  have HY : Hid (Blk (w4.setCell ⟨g, 1, none⟩ (.int .i64 major)) g 27 #[.int .i64 minor, .int .i64 major, .slice aP 4 kP, .int .i64 33, .int .i64 2, .int .i64 4, .slice none 0 0, .slice none 0 0, .slice none 0 0]) := Lib.hid (HX.out.set_ 1 (.int .i64 major))
  clear f1
  generalize (w4.setCell ⟨g, 1, none⟩ (.int .i64 major)) = w5 at *
  have y0 := HY.out.cell 0
  have y1 := HY.out.cell 1
  have y2 := HY.out.cell 2
  have y3 := HY.out.cell 3
  have y4 := HY.out.cell 4
  have y5 := HY.out.cell 5
  have y6 := HY.out.cell 6
  have y7 := HY.out.cell 7
  have y8 := HY.out.cell 8
  simp only [List.getElem?_toArray, List.getElem?_cons_succ, List.getElem?_cons_zero] at y0 y1 y2 y3 y4 y5 y6 y7 y8
  have C := check_Check (bareC minor major 33 2 4 smallK.pool) [] (.slice aP 4 kP) (.slice none 0 0) (.slice none 0 0) (.slice none 0 0) w5 (bare_rd (HRO.out.kept KY.out)) smallK_text
  unfold IntG at C
  rw [vers_check] at C
  by_cases h45 : major < 45
  · rw [if_pos (.inl h45)] at C
    go_wp2_with fail
    refine C.mono ?_
    rintro e w6 ⟨rfl, hk6⟩
    have K6 := Lib.hid (Kept.trans K2.out (Kept.trans KY.out hk6))
    clear hk6 C
    have h45' : ¬ 45 ≤ major := by omega
    go_wp2_with (go_at_call 21; refine (law5_num _ _).mono ?_; rintro e w9 ⟨rfl, rfl⟩)
    go_ret
    exact ⟨rfl, K6.out⟩
  have h45' : 45 ≤ major := by omega
  by_cases h52 : 52 < major
  · rw [if_pos (.inr h52)] at C
    go_wp2_with fail
    refine C.mono ?_
    rintro e w6 ⟨rfl, hk6⟩
    have K6 := Lib.hid (Kept.trans K2.out (Kept.trans KY.out hk6))
    clear hk6 C
    have h52' : ¬ major ≤ 52 := by omega
    go_wp2_with (go_at_call 21; refine (law5_num _ _).mono ?_; rintro e w9 ⟨rfl, rfl⟩)
    go_ret
    exact ⟨by first | rfl | simp [h45, h45', h52, h52'], K6.out⟩
  have h52' : major ≤ 52 := by omega
  rw [if_neg (fun h => by rcases h with h | h <;> contradiction)] at C
  go_wp2_with fail
  refine C.mono ?_
  rintro e w6 ⟨rfl, hk6⟩
  have K6 := Lib.hid (Kept.trans K2.out (Kept.trans KY.out hk6))
  clear hk6 C
  go_wp2_with (go_at_call 21; refine (law5_num _ _).mono ?_; rintro e w9 ⟨rfl, rfl⟩)
  go_ret
  exact ⟨by first | rfl | simp [h45, h45', h52, h52'], K6.out⟩
end Go.Proofs.Ytcklmhbcjgiplaa
