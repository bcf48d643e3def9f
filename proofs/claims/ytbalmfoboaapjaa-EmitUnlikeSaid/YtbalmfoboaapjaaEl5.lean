/-
  The law EmitUnlike: its walk.
-/
import Derived.Test.YtbalmfoboaapjaaEl3
import Derived.Test.YtbalmfoboaapjaaOpenC
import Derived.Deep.RegionHeld2
namespace Go.Proofs.Ytbalmfoboaapjaa
open Go.RowKit
set_option maxRecDepth 100000

set_option maxHeartbeats 8000000 in
theorem emitUnlike_walk (c o : ClassC) (mv mo : List (MethC × Value × Value)) (vP vI vF vM uP uI uF uM : Value) (w : World) (ha : ArgC w c mv vP vI vF vM) (hb : ArgC w o mo uP uI uF uM) :
    Calls Try.prog 4 #[.agg (classV c vP vI vF vM).toArray, .agg (classV o uP uI uF uM).toArray] w fun e w' => e = .returned (.bool true) ∧ Below w.heap.size w w' := by
  have HC := Lib.hid ha.rd
  have HTC := Lib.hid ha.text
  have HLC := Lib.hid ha.len
  have HO := Lib.hid hb.rd
  have HTO := Lib.hid hb.text
  have HLO := Lib.hid hb.len
  clear ha hb
  obtain ⟨aP, kP, aI, kI, aF, kF, aM, kM, rfl, rfl, rfl, rfl⟩ := HC.out.forms
  obtain ⟨aP2, kP2, aI2, kI2, aF2, kF2, aM2, kM2, rfl, rfl, rfl, rfl⟩ := HO.out.forms
  have HK := Lib.hid (((Below.refl _ _).alloc (Nat.le_refl _) _).alloc (by simp) _ : Kept w ((w.alloc (.cells #[.int .i64 c.minor, .int .i64 c.major, .slice aP c.pool.length kP, .int .i64 c.access, .int .i64 c.this, .int .i64 c.super, .slice aI c.ifaces.length kI, .slice aF c.fields.length kF, .slice aM mv.length kM] 27)).alloc (.cells #[.int .i64 o.minor, .int .i64 o.major, .slice aP2 o.pool.length kP2, .int .i64 o.access, .int .i64 o.this, .int .i64 o.super, .slice aI2 o.ifaces.length kI2, .slice aF2 o.fields.length kF2, .slice aM2 mo.length kM2] 27)))
  have HBA := Lib.hid ((Blk.new w 27 #[.int .i64 c.minor, .int .i64 c.major, .slice aP c.pool.length kP, .int .i64 c.access, .int .i64 c.this, .int .i64 c.super, .slice aI c.ifaces.length kI, .slice aF c.fields.length kF, .slice aM mv.length kM]).alloc (.cells #[.int .i64 o.minor, .int .i64 o.major, .slice aP2 o.pool.length kP2, .int .i64 o.access, .int .i64 o.this, .int .i64 o.super, .slice aI2 o.ifaces.length kI2, .slice aF2 o.fields.length kF2, .slice aM2 mo.length kM2] 27))
  have hbo : Blk ((w.alloc (.cells #[.int .i64 c.minor, .int .i64 c.major, .slice aP c.pool.length kP, .int .i64 c.access, .int .i64 c.this, .int .i64 c.super, .slice aI c.ifaces.length kI, .slice aF c.fields.length kF, .slice aM mv.length kM] 27)).alloc (.cells #[.int .i64 o.minor, .int .i64 o.major, .slice aP2 o.pool.length kP2, .int .i64 o.access, .int .i64 o.this, .int .i64 o.super, .slice aI2 o.ifaces.length kI2, .slice aF2 o.fields.length kF2, .slice aM2 mo.length kM2] 27)) (w.heap.size + 1) 27 #[.int .i64 o.minor, .int .i64 o.major, .slice aP2 o.pool.length kP2, .int .i64 o.access, .int .i64 o.this, .int .i64 o.super, .slice aI2 o.ifaces.length kI2, .slice aF2 o.fields.length kF2, .slice aM2 mo.length kM2] := heap_new_at _ _ (by simp)
  have HBO := Lib.hid hbo
  clear hbo
  change Calls Try.prog 4 #[.agg #[.int .i64 c.minor, .int .i64 c.major, .slice aP c.pool.length kP, .int .i64 c.access, .int .i64 c.this, .int .i64 c.super, .slice aI c.ifaces.length kI, .slice aF c.fields.length kF, .slice aM mv.length kM], .agg #[.int .i64 o.minor, .int .i64 o.major, .slice aP2 o.pool.length kP2, .int .i64 o.access, .int .i64 o.this, .int .i64 o.super, .slice aI2 o.ifaces.length kI2, .slice aF2 o.fields.length kF2, .slice aM2 mo.length kM2]] w _
  go_enter Try.func4, Try.ntmps4
  go_upto_region 1 with fail
  generalize ((w.alloc (.cells #[.int .i64 c.minor, .int .i64 c.major, .slice aP c.pool.length kP, .int .i64 c.access, .int .i64 c.this, .int .i64 c.super, .slice aI c.ifaces.length kI, .slice aF c.fields.length kF, .slice aM mv.length kM] 27)).alloc (.cells #[.int .i64 o.minor, .int .i64 o.major, .slice aP2 o.pool.length kP2, .int .i64 o.access, .int .i64 o.this, .int .i64 o.super, .slice aI2 o.ifaces.length kI2, .slice aF2 o.fields.length kF2, .slice aM2 mo.length kM2] 27)) = W at *
  go_wp2_with fail
  refine (alive4 W).mono ?_
  rintro e w1 ⟨rfl, hk1⟩
  have K1 := Lib.hid hk1
  have HA1 := Lib.hid (HBA.out.kept hk1)
  have HO1 := Lib.hid (HBO.out.kept hk1)
  have c0 := HA1.out.cell 0
  have c1 := HA1.out.cell 1
  have c2 := HA1.out.cell 2
  have c3 := HA1.out.cell 3
  have c4 := HA1.out.cell 4
  have c5 := HA1.out.cell 5
  have c6 := HA1.out.cell 6
  have c7 := HA1.out.cell 7
  have c8 := HA1.out.cell 8
  simp only [List.getElem?_toArray, List.getElem?_cons_succ, List.getElem?_cons_zero] at c0 c1 c2 c3 c4 c5 c6 c7 c8
  have d0 := HO1.out.cell 0
  have d1 := HO1.out.cell 1
  have d2 := HO1.out.cell 2
  have d3 := HO1.out.cell 3
  have d4 := HO1.out.cell 4
  have d5 := HO1.out.cell 5
  have d6 := HO1.out.cell 6
  have d7 := HO1.out.cell 7
  have d8 := HO1.out.cell 8
  simp only [List.getElem?_toArray, List.getElem?_cons_succ, List.getElem?_cons_zero] at d0 d1 d2 d3 d4 d5 d6 d7 d8
  clear hk1
  have C := law4_Big c mv _ _ _ _ w1 (HC.out.kept (Kept.trans HK.out K1.out)) HLC.out
  go_wp2_with fail
  refine C.mono ?_
  rintro e w2 ⟨b, rfl, -, hk2⟩
  have K2 := Lib.hid (Kept.trans K1.out hk2)
  have HA2 := Lib.hid (HA1.out.kept hk2)
  have HO2 := Lib.hid (HO1.out.kept hk2)
  have c0 := HA2.out.cell 0
  have c1 := HA2.out.cell 1
  have c2 := HA2.out.cell 2
  have c3 := HA2.out.cell 3
  have c4 := HA2.out.cell 4
  have c5 := HA2.out.cell 5
  have c6 := HA2.out.cell 6
  have c7 := HA2.out.cell 7
  have c8 := HA2.out.cell 8
  simp only [List.getElem?_toArray, List.getElem?_cons_succ, List.getElem?_cons_zero] at c0 c1 c2 c3 c4 c5 c6 c7 c8
  have d0 := HO2.out.cell 0
  have d1 := HO2.out.cell 1
  have d2 := HO2.out.cell 2
  have d3 := HO2.out.cell 3
  have d4 := HO2.out.cell 4
  have d5 := HO2.out.cell 5
  have d6 := HO2.out.cell 6
  have d7 := HO2.out.cell 7
  have d8 := HO2.out.cell 8
  simp only [List.getElem?_toArray, List.getElem?_cons_succ, List.getElem?_cons_zero] at d0 d1 d2 d3 d4 d5 d6 d7 d8
  clear hk2 C
  cases b
  rotate_left
  · go_wp2_with fail
    go_ret
    exact ⟨rfl, Kept.trans HK.out K2.out⟩
  have C := law4_Big o mo _ _ _ _ w2 (HO.out.kept (Kept.trans HK.out K2.out)) HLO.out
  go_wp2_with fail
  refine C.mono ?_
  rintro e w3 ⟨b, rfl, -, hk3⟩
  have K3 := Lib.hid (Kept.trans K2.out hk3)
  have HA3 := Lib.hid (HA2.out.kept hk3)
  have HO3 := Lib.hid (HO2.out.kept hk3)
  have c0 := HA3.out.cell 0
  have c1 := HA3.out.cell 1
  have c2 := HA3.out.cell 2
  have c3 := HA3.out.cell 3
  have c4 := HA3.out.cell 4
  have c5 := HA3.out.cell 5
  have c6 := HA3.out.cell 6
  have c7 := HA3.out.cell 7
  have c8 := HA3.out.cell 8
  simp only [List.getElem?_toArray, List.getElem?_cons_succ, List.getElem?_cons_zero] at c0 c1 c2 c3 c4 c5 c6 c7 c8
  clear hk3 C
  cases b
  rotate_left
  · go_wp2_with fail
    go_ret
    exact ⟨rfl, Kept.trans HK.out K3.out⟩
  have C := emit_Write c mv _ _ _ _ w3 (HC.out.kept (Kept.trans HK.out K3.out)) HTC.out
  unfold WriteG at C
  obtain ⟨X, E, hw⟩ : ∃ X E, writeC c = (X, E) := ⟨_, _, rfl⟩
  obtain ⟨Y, F, hv⟩ : ∃ X E, writeC o = (X, E) := ⟨_, _, rfl⟩
  have HW := Lib.hid hw
  have HV := Lib.hid hv
  rw [hw] at C
  clear hw hv
  go_wp2_with fail
  refine C.mono ?_
  rintro e w4 ⟨v, rfl, hx, hk4⟩
  have K4 := Lib.hid (Kept.trans K3.out hk4)
  have HA4 := Lib.hid (HA3.out.kept hk4)
  have HO4 := Lib.hid (HO3.out.kept hk4)
  have d0 := HO4.out.cell 0
  have d1 := HO4.out.cell 1
  have d2 := HO4.out.cell 2
  have d3 := HO4.out.cell 3
  have d4 := HO4.out.cell 4
  have d5 := HO4.out.cell 5
  have d6 := HO4.out.cell 6
  have d7 := HO4.out.cell 7
  have d8 := HO4.out.cell 8
  simp only [List.getElem?_toArray, List.getElem?_cons_succ, List.getElem?_cons_zero] at d0 d1 d2 d3 d4 d5 d6 d7 d8
  have HX := Lib.hid (Rd.of_own hx)
  clear hx hk4 C
  have C := emit_Write o mo _ _ _ _ w4 (HO.out.kept (Kept.trans HK.out K4.out)) HTO.out
  unfold WriteG at C
  rw [HV.out] at C
  go_wp2_with fail
  refine C.mono ?_
  rintro e w5 ⟨u, rfl, hy, hk5⟩
  have K5 := Lib.hid (Kept.trans K4.out hk5)
  have HA5 := Lib.hid (HA4.out.kept hk5)
  have HO5 := Lib.hid (HO4.out.kept hk5)
  have HX5 := Lib.hid (HX.out.kept hk5)
  have HY5 := Lib.hid (Rd.of_own hy)
  clear hy hk5 C
  dsimp only at *
  by_cases hE : E = 0
  rotate_left
  · have hne : (E != 0) = true := by simpa using hE
    clear hE
    go_upto_region 7 with fail
    go_quiet ((go_at_call 14; exact quiet_l (law4_num _ _)))
    go_wp2_with fail
    go_ret
    exact ⟨rfl, Kept.trans HK.out (kept_drewN K5.out _)⟩
  subst hE
  by_cases hF : F = 0
  rotate_left
  · have hne : (F != 0) = true := by simpa using hF
    clear hF
    go_upto_region 7 with fail
    go_quiet ((go_at_call 14; exact quiet_l (law4_num _ _)))
    go_wp2_with fail
    go_ret
    exact ⟨rfl, Kept.trans HK.out (kept_drewN K5.out _)⟩
  subst hF
  have hj := write_inj (c := c) (d := o) (by rw [HW.out]) (by rw [HV.out])
  rw [HW.out, HV.out] at hj
  obtain ⟨q, hq, hqc⟩ : ∃ q : Bool, ((⟨X.toArray⟩ : ByteArray).toList == (⟨Y.toArray⟩ : ByteArray).toList) = q ∧ (q = true ↔ c = o) := by
    refine ⟨_, rfl, ?_⟩
    rw [ByteArray.toList_eq, ByteArray.toList_eq]
    simp only [beq_iff_eq]
    exact hj
  have HQ := Lib.hid hqc
  clear hj hqc HW HV
  have c0 := HA5.out.cell 0
  have c1 := HA5.out.cell 1
  have c2 := HA5.out.cell 2
  have c3 := HA5.out.cell 3
  have c4 := HA5.out.cell 4
  have c5 := HA5.out.cell 5
  have c6 := HA5.out.cell 6
  have c7 := HA5.out.cell 7
  have c8 := HA5.out.cell 8
  simp only [List.getElem?_toArray, List.getElem?_cons_succ, List.getElem?_cons_zero] at c0 c1 c2 c3 c4 c5 c6 c7 c8
  have d0 := HO5.out.cell 0
  have d1 := HO5.out.cell 1
  have d2 := HO5.out.cell 2
  have d3 := HO5.out.cell 3
  have d4 := HO5.out.cell 4
  have d5 := HO5.out.cell 5
  have d6 := HO5.out.cell 6
  have d7 := HO5.out.cell 7
  have d8 := HO5.out.cell 8
  simp only [List.getElem?_toArray, List.getElem?_cons_succ, List.getElem?_cons_zero] at d0 d1 d2 d3 d4 d5 d6 d7 d8
  have cv1 := conv_bytes (HX5.out.kept (kept_drewN (Below.refl _ w5) 1))
  have cv2 := conv_bytes (HY5.out.kept (kept_drewN (Below.refl _ w5) 1))
  change (convert 31 9 v).run Try.prog w5.drew = .ok (.string ⟨X.toArray⟩) w5.drew at cv1
  change (convert 31 9 u).run Try.prog w5.drew = .ok (.string ⟨Y.toArray⟩) w5.drew at cv2
  go_upto_region 7 with fail
  go_region_held2 (fun w' => (convert 31 9 v).run Try.prog w' = .ok (.string ⟨X.toArray⟩) w' ∧ (convert 31 9 u).run Try.prog w' = .ok (.string ⟨Y.toArray⟩) w' ∧ w'.cell? ⟨w.heap.size, 0, none⟩ = some (.int .i64 c.minor) ∧ w'.cell? ⟨w.heap.size, 1, none⟩ = some (.int .i64 c.major) ∧ w'.cell? ⟨w.heap.size, 2, none⟩ = some (.slice aP c.pool.length kP) ∧ w'.cell? ⟨w.heap.size, 3, none⟩ = some (.int .i64 c.access) ∧ w'.cell? ⟨w.heap.size, 4, none⟩ = some (.int .i64 c.this) ∧ w'.cell? ⟨w.heap.size, 5, none⟩ = some (.int .i64 c.super) ∧ w'.cell? ⟨w.heap.size, 6, none⟩ = some (.slice aI c.ifaces.length kI) ∧ w'.cell? ⟨w.heap.size, 7, none⟩ = some (.slice aF c.fields.length kF) ∧ w'.cell? ⟨w.heap.size, 8, none⟩ = some (.slice aM mv.length kM) ∧ w'.cell? ⟨w.heap.size + 1, 0, none⟩ = some (.int .i64 o.minor) ∧ w'.cell? ⟨w.heap.size + 1, 1, none⟩ = some (.int .i64 o.major) ∧ w'.cell? ⟨w.heap.size + 1, 2, none⟩ = some (.slice aP2 o.pool.length kP2) ∧ w'.cell? ⟨w.heap.size + 1, 3, none⟩ = some (.int .i64 o.access) ∧ w'.cell? ⟨w.heap.size + 1, 4, none⟩ = some (.int .i64 o.this) ∧ w'.cell? ⟨w.heap.size + 1, 5, none⟩ = some (.int .i64 o.super) ∧ w'.cell? ⟨w.heap.size + 1, 6, none⟩ = some (.slice aI2 o.ifaces.length kI2) ∧ w'.cell? ⟨w.heap.size + 1, 7, none⟩ = some (.slice aF2 o.fields.length kF2) ∧ w'.cell? ⟨w.heap.size + 1, 8, none⟩ = some (.slice aM2 mo.length kM2)) (go_keep) (first
    | (go_at_call 14
       refine (law4_num _ _).mono ?_
       rintro e w9 ⟨rfl, rfl⟩)
    | (go_at_call 15
       refine (ref4_Same c o mv mo _ _ _ _ _ _ _ _ w5.drew (HC.out.kept (Kept.trans HK.out (kept_drewN K5.out 1))) (HO.out.kept (Kept.trans HK.out (kept_drewN K5.out 1)))).mono ?_
       rintro e w9 ⟨b, rfl, hb, hk9⟩
       have hkk := Kept.trans (kept_drewN (Below.refl _ w5) 1) hk9
       obtain rfl : b = q := Bool.eq_iff_iff.2 (hb.trans HQ.out.symm)
       have K9 := Lib.hid (Kept.trans K5.out hkk)
       have HA9 := Lib.hid (HA5.out.kept hkk)
       have HO9 := Lib.hid (HO5.out.kept hkk)
       have c0 := HA9.out.cell 0
       have c1 := HA9.out.cell 1
       have c2 := HA9.out.cell 2
       have c3 := HA9.out.cell 3
       have c4 := HA9.out.cell 4
       have c5 := HA9.out.cell 5
       have c6 := HA9.out.cell 6
       have c7 := HA9.out.cell 7
       have c8 := HA9.out.cell 8
       simp only [List.getElem?_toArray, List.getElem?_cons_succ, List.getElem?_cons_zero] at c0 c1 c2 c3 c4 c5 c6 c7 c8
       have d0 := HO9.out.cell 0
       have d1 := HO9.out.cell 1
       have d2 := HO9.out.cell 2
       have d3 := HO9.out.cell 3
       have d4 := HO9.out.cell 4
       have d5 := HO9.out.cell 5
       have d6 := HO9.out.cell 6
       have d7 := HO9.out.cell 7
       have d8 := HO9.out.cell 8
       simp only [List.getElem?_toArray, List.getElem?_cons_succ, List.getElem?_cons_zero] at d0 d1 d2 d3 d4 d5 d6 d7 d8
       have cv1' := conv_bytes (HX5.out.kept hkk)
       have cv2' := conv_bytes (HY5.out.kept hkk)
       clear hb hk9 hkk))
  all_goals
    (go_wp2_with fail
     go_ret
     exact ⟨by simpa using hq, Kept.trans HK.out K9.out⟩)
theorem walk_EmitUnlike (c o : ClassV) (w : World) (h : ClassV.Ok w c) (k : ClassV.Ok w o) : Calls Try.prog 4 #[.agg (encClassV c).toArray, .agg (encClassV o).toArray] w fun e w' => e = .returned (.bool true) ∧ Below w.heap.size w w' :=
  emitUnlike_walk c.c o.c c.mv o.mv c.poolV c.interfacesV c.fieldsV c.methodsV o.poolV o.interfacesV o.fieldsV o.methodsV w (ClassV.arg h) (ClassV.arg k)
end Go.Proofs.Ytbalmfoboaapjaa
