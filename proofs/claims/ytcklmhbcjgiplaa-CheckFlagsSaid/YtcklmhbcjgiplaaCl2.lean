/-
  The law CheckFlags: its walk.
-/
import Derived.Test.YtcklmhbcjgiplaaCl0
namespace Go.Proofs.Ytcklmhbcjgiplaa
open Go.RowKit
set_option maxRecDepth 100000

theorem checkE_bare {c : ClassC} (m0 : muchB c = false) (hv : ¬ (c.major < 45 ∨ 52 < c.major)) (p0 : poolE c.pool c.pool = 0) (hf : c.fields = []) (hm : c.methods = []) : checkE c = headE c := by
  unfold checkE
  rw [m0, if_neg (by decide), if_neg hv, p0, if_neg (by decide), hf, hm]
  simp only [fieldsE, methsE]
  split
  · rfl
  · rename_i h
    exact (Decidable.not_not.1 h).symm
theorem and_ne {a f : Int} {b : Bool} (h : hasF a f = b) : (bits .and .i64 a f != 0) = b := h
/-- The small class's constants; the superclass's name is another one. -/
def poolB : List ConstC := [⟨1, ⟨#[65]⟩, 0, 0, 0⟩, ⟨7, ⟨#[]⟩, 0, 1, 0⟩, ⟨1, ⟨#[66]⟩, 0, 0, 0⟩, ⟨7, ⟨#[]⟩, 0, 3, 0⟩]
theorem poolB_text : ∀ k ∈ poolB, k.text.size ≤ maxLen := by
  intro k hk
  have h : k.text.size ≤ 16 := by
    simp only [poolB, List.mem_cons, List.not_mem_nil, or_false] at hk
    rcases hk with rfl | rfl | rfl | rfl <;> decide
  exact Nat.le_trans h (by unfold maxLen; omega)
theorem flags_yes (ac : Int) : checkE (bareC 0 52 ac 2 4 smallK.pool) = if (hasF ac 512 && !hasF ac 1024 || hasF ac 512 && hasF ac 16 || hasF ac 16 && hasF ac 1024) = true then 23 else 0 := by
  have m0 : muchB (bareC 0 52 ac 2 4 smallK.pool) = false := (show muchB (bareC 0 52 33 2 4 smallK.pool) = false by decide +kernel)
  have p0 : poolE (bareC 0 52 ac 2 4 smallK.pool).pool (bareC 0 52 ac 2 4 smallK.pool).pool = 0 := (show poolE smallK.pool smallK.pool = 0 by decide +kernel)
  have h0 : headE (bareC 0 52 ac 2 4 smallK.pool) = if (hasF ac 512 && !hasF ac 1024 || hasF ac 512 && hasF ac 16 || hasF ac 16 && hasF ac 1024) = true then 23 else 0 := by
    unfold headE
    rw [if_neg (show ¬ (getC (bareC 0 52 ac 2 4 smallK.pool).pool (bareC 0 52 ac 2 4 smallK.pool).this 7).isSome = false from (show ¬ (getC smallK.pool 2 7).isSome = false by decide +kernel)), if_neg (show ¬ (getC (bareC 0 52 ac 2 4 smallK.pool).pool (bareC 0 52 ac 2 4 smallK.pool).super 7).isSome = false from (show ¬ (getC smallK.pool 4 7).isSome = false by decide +kernel))]
    have hn : (nameC (bareC 0 52 ac 2 4 smallK.pool).pool (bareC 0 52 ac 2 4 smallK.pool).super).1 = objS := small_n2
    rw [hn]
    unfold headF
    show (if (hasF ac 512 && (!hasF ac 1024 || hasF ac 16) || hasF ac 16 && hasF ac 1024 || hasF ac 512 && !(objS.toList == objS.toList)) = true then 23 else (0 : Int)) = _
    rw [show (objS.toList == objS.toList) = true by simp]
    cases hasF ac 512 <;> cases hasF ac 1024 <;> cases hasF ac 16 <;> rfl
  rw [checkE_bare m0 (show ¬ ((52 : Int) < 45 ∨ (52 : Int) < 52) by decide) p0 rfl rfl, h0]
theorem flags_no (ac : Int) : checkE (bareC 0 52 ac 2 4 poolB) = if (hasF ac 512 || hasF ac 16 && hasF ac 1024) = true then 23 else 0 := by
  have m0 : muchB (bareC 0 52 ac 2 4 poolB) = false := (show muchB (bareC 0 52 33 2 4 poolB) = false by decide +kernel)
  have p0 : poolE (bareC 0 52 ac 2 4 poolB).pool (bareC 0 52 ac 2 4 poolB).pool = 0 := (show poolE poolB poolB = 0 by decide +kernel)
  have h0 : headE (bareC 0 52 ac 2 4 poolB) = if (hasF ac 512 || hasF ac 16 && hasF ac 1024) = true then 23 else 0 := by
    unfold headE
    rw [if_neg (show ¬ (getC (bareC 0 52 ac 2 4 poolB).pool (bareC 0 52 ac 2 4 poolB).this 7).isSome = false from (show ¬ (getC poolB 2 7).isSome = false by decide +kernel)), if_neg (show ¬ (getC (bareC 0 52 ac 2 4 poolB).pool (bareC 0 52 ac 2 4 poolB).super 7).isSome = false from (show ¬ (getC poolB 4 7).isSome = false by decide +kernel))]
    have hn : (nameC (bareC 0 52 ac 2 4 poolB).pool (bareC 0 52 ac 2 4 poolB).super).1 = ⟨#[66]⟩ := (show (nameC poolB 4).1 = ⟨#[66]⟩ by decide +kernel)
    rw [hn]
    unfold headF
    show (if (hasF ac 512 && (!hasF ac 1024 || hasF ac 16) || hasF ac 16 && hasF ac 1024 || hasF ac 512 && !((⟨#[66]⟩ : ByteArray).toList == objS.toList)) = true then 23 else (0 : Int)) = _
    rw [show ((⟨#[66]⟩ : ByteArray).toList == objS.toList) = false by rw [ByteArray.toList_eq, ByteArray.toList_eq]; rfl]
    cases hasF ac 512 <;> cases hasF ac 1024 <;> cases hasF ac 16 <;> rfl
  rw [checkE_bare m0 (show ¬ ((52 : Int) < 45 ∨ (52 : Int) < 52) by decide) p0 rfl rfl, h0]
set_option maxHeartbeats 8000000 in
theorem walk_CheckFlags (access : Int) (object : Bool) (w : World) (h1 : (Lit.int .i64 access).wf = true) :
    Calls Try.prog 4 #[.int .i64 access, .bool object] w fun e w' => e = .returned (.bool true) ∧ Below w.heap.size w w' := by
  clear h1
  go_enter Try.func4, Try.ntmps4
  go_wp2_with fail
  refine (alive5 w).mono ?_
  rintro e w1 ⟨rfl, hk1⟩
  have K1 := Lib.hid hk1
  clear hk1
  go_wp2_with fail
  refine (law5_small w1).mono ?_
  rintro e w2 ⟨vP, he, ho, hk2⟩
  have he : e = .returned (.agg #[.int .i64 0, .int .i64 52, vP, .int .i64 33, .int .i64 2, .int .i64 4, .slice none 0 0, .slice none 0 0, .slice none 0 0]) := he
  subst he
  have K2 := Lib.hid (Kept.trans K1.out hk2)
  obtain ⟨gP, kP, rfl, hq1, hq2, hgw, hgl, hcell, hfz⟩ := own_form ho (by omega)
  have HRO := Lib.hid ho
  have pc : w2.cell? ⟨gP, 11, none⟩ = some (.string ⟨#[106, 97, 118, 97, 47, 108, 97, 110, 103, 47, 79, 98, 106, 101, 99, 116]⟩) := hcell 11 _ (by rfl)
  have pf : w2.frozen? ⟨gP, 11, none⟩ = false := hfz 11
  have HGP := Lib.hid (show w.heap.size ≤ gP from Nat.le_trans K1.out.size hgw)
  clear ho hk2 hcell hfz hgw hq1 hq2
  go_upto_region 3 with fail
  have hk3 : Kept w2 (w2.alloc (.cells #[.int .i64 0, .int .i64 52, .slice (some ⟨gP, 0, none⟩) 4 kP, .int .i64 33, .int .i64 2, .int .i64 4, .slice none 0 0, .slice none 0 0, .slice none 0 0] 27)) := (Below.refl _ _).alloc (Nat.le_refl _) _
  obtain ⟨g, hg⟩ : ∃ g, g = w2.heap.size := ⟨_, rfl⟩
  have HT := Lib.hid (Blk.new w2 27 #[.int .i64 0, .int .i64 52, .slice (some ⟨gP, 0, none⟩) 4 kP, .int .i64 33, .int .i64 2, .int .i64 4, .slice none 0 0, .slice none 0 0, .slice none 0 0])
  have HG := Lib.hid (show w2.heap.size ≤ g by omega)
  have hne : gP ≠ g := by omega
  have KW := Lib.hid hk3
  have pc3 := Kept.cell hk3 pc
  rw [← hg] at HT ⊢
  clear hk3 hgl
  generalize (w2.alloc (.cells #[.int .i64 0, .int .i64 52, .slice (some ⟨gP, 0, none⟩) 4 kP, .int .i64 33, .int .i64 2, .int .i64 4, .slice none 0 0, .slice none 0 0, .slice none 0 0] 27)) = w3 at *
  clear hg
  have t0 := HT.out.cell 0
  have t1 := HT.out.cell 1
  have t2 := HT.out.cell 2
  have t3 := HT.out.cell 3
  have t4 := HT.out.cell 4
  have t5 := HT.out.cell 5
  have t6 := HT.out.cell 6
  have t7 := HT.out.cell 7
  have t8 := HT.out.cell 8
  simp only [List.getElem?_toArray, List.getElem?_cons_succ, List.getElem?_cons_zero] at t0 t1 t2 t3 t4 t5 t6 t7 t8
  have f3 := HT.out.frozen 3
  go_upto_region 4 with fail
  have KX := Lib.hid (KW.out.setCell (p := ⟨g, 3, none⟩) HG.out (.int .i64 access))
  have HX : Hid (Blk (w3.setCell ⟨g, 3, none⟩ (.int .i64 access)) g 27 #[.int .i64 0, .int .i64 52, .slice (some ⟨gP, 0, none⟩) 4 kP, .int .i64 access, .int .i64 2, .int .i64 4, .slice none 0 0, .slice none 0 0, .slice none 0 0]) := Lib.hid (HT.out.set_ 3 (.int .i64 access))
  clear f3
  generalize (w3.setCell ⟨g, 3, none⟩ (.int .i64 access)) = w5 at *
  have u0 := HX.out.cell 0
  have u1 := HX.out.cell 1
  have u2 := HX.out.cell 2
  have u3 := HX.out.cell 3
  have u4 := HX.out.cell 4
  have u5 := HX.out.cell 5
  have u6 := HX.out.cell 6
  have u7 := HX.out.cell 7
  have u8 := HX.out.cell 8
  simp only [List.getElem?_toArray, List.getElem?_cons_succ, List.getElem?_cons_zero] at u0 u1 u2 u3 u4 u5 u6 u7 u8
  cases object
  rotate_left
  · have KY := Lib.hid (Kept.trans K2.out KX.out)
    have HRX := Lib.hid (show Rd w5 5 (.slice (some ⟨gP, 0, none⟩) 4 kP) smallK.pool.length (smallK.pool.flatMap encC) from (Rd.of_own HRO.out).kept KX.out)
    have C := check_Check (bareC 0 52 access 2 4 smallK.pool) [] (.slice (some ⟨gP, 0, none⟩) 4 kP) (.slice none 0 0) (.slice none 0 0) (.slice none 0 0) w5 (bare_rd HRX.out) smallK_text
    unfold IntG at C
    rw [flags_yes] at C
    cases h512 : hasF access 512 <;> cases h1024 : hasF access 1024 <;> cases h16 : hasF access 16 <;>
    (rw [h512, h1024, h16] at C
     simp only [Bool.and_true, Bool.and_false, Bool.true_and, Bool.false_and, Bool.or_true, Bool.or_false, Bool.true_or, Bool.false_or, Bool.not_true, Bool.not_false, if_true, Bool.false_eq_true, if_false] at C
     have e512 := and_ne h512
     have e1024 := and_ne h1024
     have e16 := and_ne h16
     have HCC := Lib.hid C
     clear C
     go_wp2_with fail
     refine HCC.out.mono ?_
     rintro e w6 ⟨rfl, hk6⟩
     have K6 := Lib.hid (Kept.trans KY.out hk6)
     clear hk6
     go_wp2_with (go_at_call 21; refine (law5_num _ _).mono ?_; rintro e w9 ⟨rfl, rfl⟩)
     go_ret
     exact ⟨rfl, K6.out⟩)
  have ho5 := (Touch.of_kept (S := fun _ => False) KX.out).own HRO.out fun _ _ h => h
  obtain ⟨gP', kP', hv, _, _, _, _, hcell, hfz⟩ := own_form ho5 (by omega)
  simp only [Value.slice.injEq, Option.some.injEq, Addr.mk.injEq] at hv
  obtain ⟨⟨rfl, -, -⟩, -, rfl⟩ := hv
  have pc5 : w5.cell? ⟨gP, 11, none⟩ = some (.string ⟨#[106, 97, 118, 97, 47, 108, 97, 110, 103, 47, 79, 98, 106, 101, 99, 116]⟩) := hcell 11 _ (by rfl)
  have pf5 : w5.frozen? ⟨gP, 11, none⟩ = false := hfz 11
  have HO6 := Lib.hid (own_store ho5 11 (.string ⟨#[66]⟩))
  clear ho5 hcell hfz pc pf pc3
  go_upto_region 6 with fail
  have KY := Lib.hid (Below.trans K2.out (KX.out.mono K2.out.size) |>.setCell (p := ⟨gP, 11, none⟩) HGP.out (.string ⟨#[66]⟩))
  have HY := Lib.hid (HX.out.far (p := ⟨gP, 11, none⟩) hne.symm (.string ⟨#[66]⟩))
  have HRX := Lib.hid (show Rd (w5.setCell ⟨gP, 11, none⟩ (.string ⟨#[66]⟩)) 5 (.slice (some ⟨gP, 0, none⟩) 4 kP) poolB.length (poolB.flatMap encC) from Rd.of_own HO6.out)
  clear pc5 pf5
  generalize (w5.setCell ⟨gP, 11, none⟩ (.string ⟨#[66]⟩)) = w7 at *
  have y0 := HY.out.cell 0
  have y1 := HY.out.cell 1
  have y2 := HY.out.cell 2
  have y3 := HY.out.cell 3
  have y4 := HY.out.cell 4
  have y5 := HY.out.cell 5
  have y6 := HY.out.cell 6
  have y7 := HY.out.cell 7
  have y8 := HY.out.cell 8
  simp only [List.getElem?_toArray, List.getElem?_cons_succ, List.getElem?_cons_zero] at y0 y1 y2 y3 y4 y5 y6 y7 y8
  have C := check_Check (bareC 0 52 access 2 4 poolB) [] (.slice (some ⟨gP, 0, none⟩) 4 kP) (.slice none 0 0) (.slice none 0 0) (.slice none 0 0) w7 (bare_rd HRX.out) poolB_text
  unfold IntG at C
  rw [flags_no] at C
  cases h512 : hasF access 512 <;> cases h1024 : hasF access 1024 <;> cases h16 : hasF access 16 <;>
  (rw [h512, h1024, h16] at C
   simp only [Bool.and_true, Bool.and_false, Bool.true_and, Bool.false_and, Bool.or_true, Bool.or_false, Bool.true_or, Bool.false_or, Bool.not_true, Bool.not_false, if_true, Bool.false_eq_true, if_false] at C
   have e512 := and_ne h512
   have e1024 := and_ne h1024
   have e16 := and_ne h16
   have HCC := Lib.hid C
   clear C
   go_wp2_with fail
   refine HCC.out.mono ?_
   rintro e w6 ⟨rfl, hk6⟩
   have K6 := Lib.hid (Kept.trans KY.out hk6)
   clear hk6
   go_wp2_with (go_at_call 21; refine (law5_num _ _).mono ?_; rintro e w9 ⟨rfl, rfl⟩)
   go_ret
   exact ⟨rfl, K6.out⟩)
end Go.Proofs.Ytcklmhbcjgiplaa
