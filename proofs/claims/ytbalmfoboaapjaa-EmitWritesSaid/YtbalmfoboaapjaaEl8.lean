/-
  The law EmitWrites: its walk.
-/
import Derived.Test.YtbalmfoboaapjaaElM
import Derived.Test.YtbalmfoboaapjaaOpenC
import Derived.Test.YtbalmfoboaapjaaLeM
import Derived.Deep.RegionHeld2
import Derived.OwnWalk
import Derived.Laws.BitsAllLaws
namespace Go.Proofs.Ytbalmfoboaapjaa
set_option linter.unusedVariables false
set_option linter.unusedSimpArgs false
open Go.RowKit
set_option maxRecDepth 100000

theorem xor_255 (x : UInt8) : ∃ y : UInt8, bits .xor .u8 (x.toNat : Int) 255 = (y.toNat : Int) := by
  have hx := x.toNat_lt
  have hlt : x.toNat ^^^ 255 < 256 := Nat.xor_lt_two_pow (n := 8) hx (by decide)
  refine ⟨UInt8.ofNat (x.toNat ^^^ 255), ?_⟩
  rw [show (255 : Int) = ((255 : Nat) : Int) from rfl, u8_xor_nat _ _ hx (by decide), UInt8.toNat_ofNat', Nat.mod_eq_of_lt hlt]
set_option maxHeartbeats 8000000 in
theorem emitWrites_walk (c o : ClassC) (mv mo : List (MethC × Value × Value)) (vP vI vF vM uP uI uF uM : Value) (w : World) (ha : ArgC w c mv vP vI vF vM) (hb : ArgC w o mo uP uI uF uM) :
    Calls Try.prog 3 #[.agg (classV c vP vI vF vM).toArray, .agg (classV o uP uI uF uM).toArray] w fun e w' => e = .returned (.bool true) ∧ Below w.heap.size w w' := by
  have HC := Lib.hid ha.rd
  have HTC := Lib.hid ha.text
  have HLC := Lib.hid ha.len
  have HCC := Lib.hid ha.code
  have HO := Lib.hid hb.rd
  have HTO := Lib.hid hb.text
  have HLO := Lib.hid hb.len
  clear ha hb
  obtain ⟨aP, kP, aI, kI, aF, kF, aM, kM, rfl, rfl, rfl, rfl⟩ := HC.out.forms
  obtain ⟨aP2, kP2, aI2, kI2, aF2, kF2, aM2, kM2, rfl, rfl, rfl, rfl⟩ := HO.out.forms
  have HK := Lib.hid (((Below.refl _ _).alloc (Nat.le_refl _) _).alloc (by simp) _ : Kept w ((w.alloc (.cells #[.int .i64 c.minor, .int .i64 c.major, .slice aP c.pool.length kP, .int .i64 c.access, .int .i64 c.this, .int .i64 c.super, .slice aI c.ifaces.length kI, .slice aF c.fields.length kF, .slice aM mv.length kM] 27)).alloc (.cells #[.int .i64 o.minor, .int .i64 o.major, .slice aP2 o.pool.length kP2, .int .i64 o.access, .int .i64 o.this, .int .i64 o.super, .slice aI2 o.ifaces.length kI2, .slice aF2 o.fields.length kF2, .slice aM2 mo.length kM2] 27)))
  have HBA := Lib.hid ((Blk.new w 27 #[.int .i64 c.minor, .int .i64 c.major, .slice aP c.pool.length kP, .int .i64 c.access, .int .i64 c.this, .int .i64 c.super, .slice aI c.ifaces.length kI, .slice aF c.fields.length kF, .slice aM mv.length kM]).alloc (.cells #[.int .i64 o.minor, .int .i64 o.major, .slice aP2 o.pool.length kP2, .int .i64 o.access, .int .i64 o.this, .int .i64 o.super, .slice aI2 o.ifaces.length kI2, .slice aF2 o.fields.length kF2, .slice aM2 mo.length kM2] 27))
  have hbo : Blk ((w.alloc (.cells #[.int .i64 c.minor, .int .i64 c.major, .slice aP c.pool.length kP, .int .i64 c.access, .int .i64 c.this, .int .i64 c.super, .slice aI c.ifaces.length kI, .slice aF c.fields.length kF, .slice aM mv.length kM] 27)).alloc (.cells #[.int .i64 o.minor, .int .i64 o.major, .slice aP2 o.pool.length kP2, .int .i64 o.access, .int .i64 o.this, .int .i64 o.super, .slice aI2 o.ifaces.length kI2, .slice aF2 o.fields.length kF2, .slice aM2 mo.length kM2] 27)) (w.heap.size + 1) 27 #[.int .i64 o.minor, .int .i64 o.major, .slice aP2 o.pool.length kP2, .int .i64 o.access, .int .i64 o.this, .int .i64 o.super, .slice aI2 o.ifaces.length kI2, .slice aF2 o.fields.length kF2, .slice aM2 mo.length kM2] := heap_new_at _ _ (by simp)
  have HBO := Lib.hid hbo
  clear hbo
  change Calls Try.prog 3 #[.agg #[.int .i64 c.minor, .int .i64 c.major, .slice aP c.pool.length kP, .int .i64 c.access, .int .i64 c.this, .int .i64 c.super, .slice aI c.ifaces.length kI, .slice aF c.fields.length kF, .slice aM mv.length kM], .agg #[.int .i64 o.minor, .int .i64 o.major, .slice aP2 o.pool.length kP2, .int .i64 o.access, .int .i64 o.this, .int .i64 o.super, .slice aI2 o.ifaces.length kI2, .slice aF2 o.fields.length kF2, .slice aM2 mo.length kM2]] w _
  go_enter Try.func3, Try.ntmps3
  go_upto_region 1 with fail
  generalize ((w.alloc (.cells #[.int .i64 c.minor, .int .i64 c.major, .slice aP c.pool.length kP, .int .i64 c.access, .int .i64 c.this, .int .i64 c.super, .slice aI c.ifaces.length kI, .slice aF c.fields.length kF, .slice aM mv.length kM] 27)).alloc (.cells #[.int .i64 o.minor, .int .i64 o.major, .slice aP2 o.pool.length kP2, .int .i64 o.access, .int .i64 o.this, .int .i64 o.super, .slice aI2 o.ifaces.length kI2, .slice aF2 o.fields.length kF2, .slice aM2 mo.length kM2] 27)) = W at *
  go_wp2_with fail
  refine (alive4 W).mono ?_
  rintro e w1 ⟨rfl, hk1⟩
  have K1 := Lib.hid hk1
  have HA1 := Lib.hid (HBA.out.kept hk1)
  have HO1 := Lib.hid (HBO.out.kept hk1)
  have c0 := HA1.out.cell 0
  have c1 := HA1.out.cell 1
  have c2 := HA1.out.cell 2
  have c3 := HA1.out.cell 3
  have c4 := HA1.out.cell 4
  have c5 := HA1.out.cell 5
  have c6 := HA1.out.cell 6
  have c7 := HA1.out.cell 7
  have c8 := HA1.out.cell 8
  simp only [List.getElem?_toArray, List.getElem?_cons_succ, List.getElem?_cons_zero] at c0 c1 c2 c3 c4 c5 c6 c7 c8
  have d0 := HO1.out.cell 0
  have d1 := HO1.out.cell 1
  have d2 := HO1.out.cell 2
  have d3 := HO1.out.cell 3
  have d4 := HO1.out.cell 4
  have d5 := HO1.out.cell 5
  have d6 := HO1.out.cell 6
  have d7 := HO1.out.cell 7
  have d8 := HO1.out.cell 8
  simp only [List.getElem?_toArray, List.getElem?_cons_succ, List.getElem?_cons_zero] at d0 d1 d2 d3 d4 d5 d6 d7 d8
  clear hk1
  have C := law4_Big c mv _ _ _ _ w1 (HC.out.kept (Kept.trans HK.out K1.out)) HLC.out
  go_wp2_with fail
  refine C.mono ?_
  rintro e w2 ⟨b, rfl, hbig, hk2⟩
  have K2 := Lib.hid (Kept.trans K1.out hk2)
  have HA2 := Lib.hid (HA1.out.kept hk2)
  have HO2 := Lib.hid (HO1.out.kept hk2)
  have c0 := HA2.out.cell 0
  have c1 := HA2.out.cell 1
  have c2 := HA2.out.cell 2
  have c3 := HA2.out.cell 3
  have c4 := HA2.out.cell 4
  have c5 := HA2.out.cell 5
  have c6 := HA2.out.cell 6
  have c7 := HA2.out.cell 7
  have c8 := HA2.out.cell 8
  simp only [List.getElem?_toArray, List.getElem?_cons_succ, List.getElem?_cons_zero] at c0 c1 c2 c3 c4 c5 c6 c7 c8
  have d0 := HO2.out.cell 0
  have d1 := HO2.out.cell 1
  have d2 := HO2.out.cell 2
  have d3 := HO2.out.cell 3
  have d4 := HO2.out.cell 4
  have d5 := HO2.out.cell 5
  have d6 := HO2.out.cell 6
  have d7 := HO2.out.cell 7
  have d8 := HO2.out.cell 8
  simp only [List.getElem?_toArray, List.getElem?_cons_succ, List.getElem?_cons_zero] at d0 d1 d2 d3 d4 d5 d6 d7 d8
  have HBG := Lib.hid hbig
  clear hk2 C hbig
  cases b
  rotate_left
  · go_wp2_with fail
    go_ret
    exact ⟨rfl, Kept.trans HK.out K2.out⟩
  have C := law4_Big o mo _ _ _ _ w2 (HO.out.kept (Kept.trans HK.out K2.out)) HLO.out
  go_wp2_with fail
  refine C.mono ?_
  rintro e w3 ⟨b, rfl, -, hk3⟩
  have K3 := Lib.hid (Kept.trans K2.out hk3)
  have HA3 := Lib.hid (HA2.out.kept hk3)
  have HO3 := Lib.hid (HO2.out.kept hk3)
  have c0 := HA3.out.cell 0
  have c1 := HA3.out.cell 1
  have c2 := HA3.out.cell 2
  have c3 := HA3.out.cell 3
  have c4 := HA3.out.cell 4
  have c5 := HA3.out.cell 5
  have c6 := HA3.out.cell 6
  have c7 := HA3.out.cell 7
  have c8 := HA3.out.cell 8
  simp only [List.getElem?_toArray, List.getElem?_cons_succ, List.getElem?_cons_zero] at c0 c1 c2 c3 c4 c5 c6 c7 c8
  clear hk3 C
  cases b
  rotate_left
  · go_wp2_with fail
    go_ret
    exact ⟨rfl, Kept.trans HK.out K3.out⟩
  have hsz : SizeC c := by
    obtain ⟨b1, b2, b3, b4⟩ := HBG.out (by trivial)
    refine ⟨b1, b2, b3, by omega, fun x hx => ?_⟩
    rw [HC.out.ms] at hx
    obtain ⟨y, hy, rfl⟩ := List.mem_map.1 hx
    exact HCC.out y hy
  have HSZ := Lib.hid hsz
  have C := law4_Lent c mv _ _ _ _ w3 (HC.out.kept (Kept.trans HK.out K3.out)) hsz
  clear hsz
  go_wp2_with fail
  refine C.mono ?_
  rintro e w4 ⟨mf, gP, dP, gI, dI, gF, dF, gM, dM, rfl, hlc, hk4⟩
  have K4 := Lib.hid (Kept.trans K3.out hk4)
  have HA4 := Lib.hid (HA3.out.kept hk4)
  have HO4 := Lib.hid (HO3.out.kept hk4)
  have HL4 := Lib.hid hlc
  clear hlc hk4 C c0 c1 c2 c3 c4 c5 c6 c7 c8 d0 d1 d2 d3 d4 d5 d6 d7 d8
  go_upto_region 6 with fail
  have hk5 : Kept w4 (w4.alloc (.cells #[.int .i64 c.minor, .int .i64 c.major, .slice (some ⟨gP, 0, none⟩) c.pool.length dP, .int .i64 c.access, .int .i64 c.this, .int .i64 c.super, .slice (some ⟨gI, 0, none⟩) c.ifaces.length dI, .slice (some ⟨gF, 0, none⟩) c.fields.length dF, .slice (some ⟨gM, 0, none⟩) mf.length dM] 27)) := (Below.refl _ _).alloc (Nat.le_refl _) _
  have K5 := Lib.hid (Kept.trans K4.out hk5)
  have HA5 := Lib.hid (HA4.out.kept hk5)
  have HO5 := Lib.hid (HO4.out.kept hk5)
  obtain ⟨g, hg⟩ : ∃ g, g = w4.heap.size := ⟨_, rfl⟩
  have HF5 := Lib.hid (Blk.new w4 27 #[.int .i64 c.minor, .int .i64 c.major, .slice (some ⟨gP, 0, none⟩) c.pool.length dP, .int .i64 c.access, .int .i64 c.this, .int .i64 c.super, .slice (some ⟨gI, 0, none⟩) c.ifaces.length dI, .slice (some ⟨gF, 0, none⟩) c.fields.length dF, .slice (some ⟨gM, 0, none⟩) mf.length dM])
  have HL5 := Lib.hid (HL4.out.kept hk5)
  rw [← hg] at HF5 ⊢
  clear hg hk5
  generalize (w4.alloc (.cells #[.int .i64 c.minor, .int .i64 c.major, .slice (some ⟨gP, 0, none⟩) c.pool.length dP, .int .i64 c.access, .int .i64 c.this, .int .i64 c.super, .slice (some ⟨gI, 0, none⟩) c.ifaces.length dI, .slice (some ⟨gF, 0, none⟩) c.fields.length dF, .slice (some ⟨gM, 0, none⟩) mf.length dM] 27)) = w5 at *
  have C := emit_Write c mf _ _ _ _ w5 HL5.out.rd HTC.out
  unfold WriteG at C
  obtain ⟨X, E, hw⟩ : ∃ X E, writeC c = (X, E) := ⟨_, _, rfl⟩
  obtain ⟨Y, F, hv⟩ : ∃ X E, writeC o = (X, E) := ⟨_, _, rfl⟩
  have HW := Lib.hid hw
  have HV := Lib.hid hv
  rw [hw] at C
  clear hw hv
  have f0 := HF5.out.cell 0
  have f1 := HF5.out.cell 1
  have f2 := HF5.out.cell 2
  have f3 := HF5.out.cell 3
  have f4 := HF5.out.cell 4
  have f5 := HF5.out.cell 5
  have f6 := HF5.out.cell 6
  have f7 := HF5.out.cell 7
  have f8 := HF5.out.cell 8
  simp only [List.getElem?_toArray, List.getElem?_cons_succ, List.getElem?_cons_zero] at f0 f1 f2 f3 f4 f5 f6 f7 f8
  go_wp2_with fail
  refine C.mono ?_
  rintro e w6 ⟨v, rfl, hx, hk6⟩
  have K6 := Lib.hid (Kept.trans K5.out hk6)
  have HA6 := Lib.hid (HA5.out.kept hk6)
  have HO6 := Lib.hid (HO5.out.kept hk6)
  have HF6 := Lib.hid (HF5.out.kept hk6)
  have HL6 := Lib.hid (HL5.out.kept hk6)
  have HX6 := Lib.hid (Rd.of_own hx)
  clear hx hk6 C
  have f0 := HF6.out.cell 0
  have f1 := HF6.out.cell 1
  have f2 := HF6.out.cell 2
  have f3 := HF6.out.cell 3
  have f4 := HF6.out.cell 4
  have f5 := HF6.out.cell 5
  have f6 := HF6.out.cell 6
  have f7 := HF6.out.cell 7
  have f8 := HF6.out.cell 8
  simp only [List.getElem?_toArray, List.getElem?_cons_succ, List.getElem?_cons_zero] at f0 f1 f2 f3 f4 f5 f6 f7 f8
  have c0 := HA6.out.cell 0
  have c1 := HA6.out.cell 1
  have c2 := HA6.out.cell 2
  have c3 := HA6.out.cell 3
  have c4 := HA6.out.cell 4
  have c5 := HA6.out.cell 5
  have c6 := HA6.out.cell 6
  have c7 := HA6.out.cell 7
  have c8 := HA6.out.cell 8
  simp only [List.getElem?_toArray, List.getElem?_cons_succ, List.getElem?_cons_zero] at c0 c1 c2 c3 c4 c5 c6 c7 c8
  have C := law4_Stays _ c mf mv gP dP gI dI gF dF gM dM _ _ _ _ w6 HL6.out (HC.out.kept (Kept.trans HK.out K6.out)) HSZ.out
  dsimp only
  go_wp2_with fail
  refine C.mono ?_
  rintro e w7 ⟨rfl, hk7⟩
  have K7 := Lib.hid (Kept.trans K6.out hk7)
  have HA7 := Lib.hid (HA6.out.kept hk7)
  have HO7 := Lib.hid (HO6.out.kept hk7)
  have HX7 := Lib.hid (HX6.out.kept hk7)
  clear hk7 C HL4 HL5 HL6 HF5 HF6 f0 f1 f2 f3 f4 f5 f6 f7 f8
  have c0 := HA7.out.cell 0
  have c1 := HA7.out.cell 1
  have c2 := HA7.out.cell 2
  have c3 := HA7.out.cell 3
  have c4 := HA7.out.cell 4
  have c5 := HA7.out.cell 5
  have c6 := HA7.out.cell 6
  have c7 := HA7.out.cell 7
  have c8 := HA7.out.cell 8
  simp only [List.getElem?_toArray, List.getElem?_cons_succ, List.getElem?_cons_zero] at c0 c1 c2 c3 c4 c5 c6 c7 c8
  have d0 := HO7.out.cell 0
  have d1 := HO7.out.cell 1
  have d2 := HO7.out.cell 2
  have d3 := HO7.out.cell 3
  have d4 := HO7.out.cell 4
  have d5 := HO7.out.cell 5
  have d6 := HO7.out.cell 6
  have d7 := HO7.out.cell 7
  have d8 := HO7.out.cell 8
  simp only [List.getElem?_toArray, List.getElem?_cons_succ, List.getElem?_cons_zero] at d0 d1 d2 d3 d4 d5 d6 d7 d8
  have C := emit_Write o mo _ _ _ _ w7 (HO.out.kept (Kept.trans HK.out K7.out)) HTO.out
  unfold WriteG at C
  rw [HV.out] at C
  go_wp2_with fail
  refine C.mono ?_
  rintro e w8 ⟨u, rfl, hy, hk8⟩
  have KN8 := Lib.hid hk8
  have K8 := Lib.hid (Kept.trans K7.out hk8)
  have HA8 := Lib.hid (HA7.out.kept hk8)
  have HO8 := Lib.hid (HO7.out.kept hk8)
  obtain ⟨aY, kY, rfl, -, -⟩ := own_slice (n := Y.length) hy
  have HY8 := Lib.hid (show w8.ownsRow w7.heap.size 5 1 (.slice aY Y.length kY) Y.length (Y.map byteV) from hy)
  have hYL : Y.length ≤ 9223372036854775807 := by
    obtain ⟨_, _, hv, q1, q2⟩ := own_slice (n := Y.length) hy
    simp only [Value.slice.injEq] at hv
    omega
  obtain ⟨nY, hnY⟩ : ∃ n, n = Y.length := ⟨_, rfl⟩
  rw [← hnY] at HY8 hYL ⊢
  have HNY := Lib.hid hnY
  clear hy hk8 C hnY c0 c1 c2 c3 c4 c5 c6 c7 c8 d0 d1 d2 d3 d4 d5 d6 d7 d8
  dsimp only
  go_wp2_with fail
  go_loopw [13] (fun s13 wr => ∃ (k : Nat) (l : List UInt8), k ≤ nY ∧ s13 = .int .i64 k ∧ l.length = nY ∧ wr.ownsRow w7.heap.size 5 1 (.slice aY nY kY) nY (l.map byteV) ∧ Kept w7 wr) (fun s13 _ => nY - (intOf s13).toNat)
  case atStart => exact ⟨0, Y, Nat.zero_le _, rfl, HNY.out.symm, HY8.out, KN8.out⟩
  case round =>
    rename World => wr
    obtain ⟨i, l, hi, rfl, hl, ho, ht⟩ := hrel
    by_cases hlt : i < nY
    · obtain ⟨x, hx⟩ : ∃ x, l[i]? = some x := ⟨_, List.getElem?_eq_getElem (by omega)⟩
      obtain ⟨y, hy⟩ := xor_255 x
      obtain ⟨g', c', hv, _, _, hbg, hgl, hcell, hfz⟩ := own_form ho (by omega)
      simp only [Value.slice.injEq] at hv
      obtain ⟨rfl, -, rfl⟩ := hv
      have xc : wr.cell? ⟨g', i, none⟩ = some (.int .u8 (x.toNat : Int)) := hcell i _ (by rw [List.getElem?_map, hx]; rfl)
      have xf := hfz i
      have hltI : (i : Int) < (nY : Int) := by omega
      have h0I : (0 : Int) ≤ (i : Int) := by omega
      have HS := Lib.hid (own_store ho i (byteV y))
      have HT := Lib.hid (ht.setCell (p := ⟨g', i, none⟩) hbg (byteV y))
      have HYX := Lib.hid hy
      have HL := Lib.hid hl
      clear ho ht hcell hfz hx hl hy hbg hgl
      go_upto_region 11 with fail
      rw [HYX.out]
      have HS2 : Hid ((wr.setCell ⟨g', i, none⟩ (.int .u8 (y.toNat : Int))).ownsRow w7.heap.size 5 1 (.slice (some ⟨g', 0, none⟩) nY kY) nY ((l.set i y).map byteV)) := Lib.hid (by rw [List.map_set]; exact HS.out)
      have HT2 : Hid (Kept w7 (wr.setCell ⟨g', i, none⟩ (.int .u8 (y.toNat : Int)))) := HT
      clear HS HT xc xf
      generalize wr.setCell ⟨g', i, none⟩ (.int .u8 (y.toNat : Int)) = W9 at *
      go_wp2_with fail
      go_roundw
      case rel => exact ⟨i + 1, l.set i y, by omega, by go_num, by rw [List.length_set]; exact HL.out, HS2.out, HT2.out⟩
      case measure => simp [intOf]; omega
    · have hltI : ¬ (i : Int) < (nY : Int) := by omega
      have K9 := Lib.hid (Kept.trans K7.out ht)
      have HA9 := Lib.hid (HA7.out.kept ht)
      have HX9 := Lib.hid (HX7.out.kept ht)
      clear ho ht hl HY8 KN8
      have c0 := HA9.out.cell 0
      have c1 := HA9.out.cell 1
      have c2 := HA9.out.cell 2
      have c3 := HA9.out.cell 3
      have c4 := HA9.out.cell 4
      have c5 := HA9.out.cell 5
      have c6 := HA9.out.cell 6
      have c7 := HA9.out.cell 7
      have c8 := HA9.out.cell 8
      simp only [List.getElem?_toArray, List.getElem?_cons_succ, List.getElem?_cons_zero] at c0 c1 c2 c3 c4 c5 c6 c7 c8
      have C := ref4_Write c mv _ _ _ _ wr (HC.out.kept (Kept.trans HK.out K9.out))
      unfold WriteG at C
      rw [HW.out] at C
      go_wp2_with fail
      refine C.mono ?_
      rintro e w10 ⟨z, rfl, hz, hk10⟩
      have K10 := Lib.hid (Kept.trans K9.out hk10)
      have cv1 := conv_bytes (HX9.out.kept hk10)
      have cv2 := conv_bytes (Rd.of_own hz)
      have hs : ((⟨X.toArray⟩ : ByteArray).toList == (⟨X.toArray⟩ : ByteArray).toList) = true := by simp
      change (convert 31 9 v).run Try.prog w10 = .ok (.string ⟨X.toArray⟩) w10 at cv1
      change (convert 31 9 z).run Try.prog w10 = .ok (.string ⟨X.toArray⟩) w10 at cv2
      clear hz hk10 C
      dsimp only
      go_wp2_with (go_at_call 14; refine (law4_num _ _).mono ?_; rintro e wn ⟨rfl, rfl⟩)
      go_ret
      exact ⟨rfl, Kept.trans HK.out K10.out⟩
theorem walk_EmitWrites (c o : ClassV) (w : World) (h : ClassV.Ok w c) (k : ClassV.Ok w o) : Calls Try.prog 3 #[.agg (encClassV c).toArray, .agg (encClassV o).toArray] w fun e w' => e = .returned (.bool true) ∧ Below w.heap.size w w' :=
  emitWrites_walk c.c o.c c.mv o.mv c.poolV c.interfacesV c.fieldsV c.methodsV o.poolV o.interfacesV o.fieldsV o.methodsV w (ClassV.arg h) (ClassV.arg k)
end Go.Proofs.Ytbalmfoboaapjaa
