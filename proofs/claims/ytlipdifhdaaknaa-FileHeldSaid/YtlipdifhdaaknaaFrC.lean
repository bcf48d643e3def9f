/-
  The law FileHeld: its walk.
-/
import Derived.Test.YtlipdifhdaaknaaFrB
import Derived.Test.YtlipdifhdaaknaaSp
namespace Go.Proofs.Ytlipdifhdaaknaa
open Go.RowKit
set_option maxRecDepth 100000

set_option maxHeartbeats 8000000 in
theorem walk_FileHeld (a : List UInt8) (x0 : Value) (b : List UInt8) (x1 : Value) (w : World) (h0 : Rd w 1 x0 a.length (a.map byteV)) (h1 : Rd w 1 x1 b.length (b.map byteV)) :
    Calls Try.prog 4 #[x0, x1] w fun e w' => e = .returned (.bool true) ∧ Below w.heap.size w w' := by
  have H0 := Lib.hid h0
  have H1 := Lib.hid h1
  obtain ⟨_, a0, c0, rfl, q1, q2, -⟩ := h0
  obtain ⟨_, a1, c1, rfl, r1, r2, -⟩ := h1
  by_cases g1 : 20000 < a.length
  · have g1' : (20000 : Int) < (a.length : Int) := by omega
    go_enter Try.func4, Try.ntmps4
    go_wp2_with (first | (go_at_call 8; refine (alive3 _).mono ?_; rintro e w1 ⟨rfl, k1⟩; have K1 := Lib.hid k1; clear k1))
    go_ret
    exact ⟨rfl, K1.out⟩
  have g1' : ¬ (20000 : Int) < (a.length : Int) := by omega
  by_cases g2 : 20000 < b.length
  · have g2' : (20000 : Int) < (b.length : Int) := by omega
    go_enter Try.func4, Try.ntmps4
    go_wp2_with (first | (go_at_call 8; refine (alive3 _).mono ?_; rintro e w1 ⟨rfl, k1⟩; have K1 := Lib.hid k1; clear k1))
    go_ret
    exact ⟨rfl, K1.out⟩
  have g2' : ¬ (20000 : Int) < (b.length : Int) := by omega
  obtain ⟨C, p, k, hpk⟩ : ∃ C p k, readP a = (C, p, k) := ⟨_, _, _, rfl⟩
  have HPK := Lib.hid hpk
  clear hpk
  obtain ⟨D, p2, k2, hpk⟩ : ∃ C p k, readP b = (C, p, k) := ⟨_, _, _, rfl⟩
  have HPK2 := Lib.hid hpk
  clear hpk
  go_enter Try.func4, Try.ntmps4
  go_wp2_with fail
  refine (alive3 _).mono ?_
  rintro e w1 ⟨rfl, k1⟩
  have K1 := Lib.hid k1
  clear k1
  go_wp2_with fail
  refine (file_Read a _ w1 (H0.out.kept K1.out)).mono ?_
  intro e w2 hG
  obtain ⟨cv, cP, cI, cF, cM, cp, ci, cf, cm, rfl, hcr, k2⟩ := hG.v HPK.out
  have K2 := Lib.hid (Kept.trans K1.out k2)
  have HCR := Lib.hid hcr.rd
  clear hG k2 hcr
  go_upto_region 5 with fail
  have HB3 := Lib.hid (Blk.new w2 29 #[.int .i64 C.minor, .int .i64 C.major, .slice cP C.pool.length cp, .int .i64 C.access, .int .i64 C.this, .int .i64 C.super, .slice cI C.ifaces.length ci, .slice cF C.fields.length cf, .slice cM cv.length cm])
  have K3 := Lib.hid (Below.alloc K2.out K2.out.size (.cells #[.int .i64 C.minor, .int .i64 C.major, .slice cP C.pool.length cp, .int .i64 C.access, .int .i64 C.this, .int .i64 C.super, .slice cI C.ifaces.length ci, .slice cF C.fields.length cf, .slice cM cv.length cm] 29))
  have HC3 := Lib.hid (HCR.out.kept (Below.alloc (Below.refl w2.heap.size w2) (Nat.le_refl _) (.cells #[.int .i64 C.minor, .int .i64 C.major, .slice cP C.pool.length cp, .int .i64 C.access, .int .i64 C.this, .int .i64 C.super, .slice cI C.ifaces.length ci, .slice cF C.fields.length cf, .slice cM cv.length cm] 29) : Kept w2 (w2.alloc (.cells #[.int .i64 C.minor, .int .i64 C.major, .slice cP C.pool.length cp, .int .i64 C.access, .int .i64 C.this, .int .i64 C.super, .slice cI C.ifaces.length ci, .slice cF C.fields.length cf, .slice cM cv.length cm] 29))))
  obtain ⟨b3, hb3⟩ : ∃ b3, b3 = w2.heap.size := ⟨_, rfl⟩
  rw [← hb3] at HB3 ⊢
  generalize w2.alloc (.cells #[.int .i64 C.minor, .int .i64 C.major, .slice cP C.pool.length cp, .int .i64 C.access, .int .i64 C.this, .int .i64 C.super, .slice cI C.ifaces.length ci, .slice cF C.fields.length cf, .slice cM cv.length cm] 29) = W3 at *
  clear hb3
  go_wp2_with fail
  refine (file_Read b _ _ (H1.out.kept K3.out)).mono ?_
  intro e w4 hG
  obtain ⟨ev, eP, eI, eF, eM, ep, ei, ef, em, rfl, hcr, k4⟩ := hG.v HPK2.out
  have K4 := Lib.hid k4
  have HCE := Lib.hid hcr
  clear hG k4 hcr
  go_upto_region 6 with fail
  have HB5 := Lib.hid (Blk.new w4 29 #[.int .i64 D.minor, .int .i64 D.major, .slice eP D.pool.length ep, .int .i64 D.access, .int .i64 D.this, .int .i64 D.super, .slice eI D.ifaces.length ei, .slice eF D.fields.length ef, .slice eM ev.length em])
  have K5 := Lib.hid (Below.alloc K4.out K4.out.size (.cells #[.int .i64 D.minor, .int .i64 D.major, .slice eP D.pool.length ep, .int .i64 D.access, .int .i64 D.this, .int .i64 D.super, .slice eI D.ifaces.length ei, .slice eF D.fields.length ef, .slice eM ev.length em] 29))
  have HCE5 := Lib.hid (HCE.out.touch ((Touch.refl (fun _ => False) w4).alloc (.cells #[.int .i64 D.minor, .int .i64 D.major, .slice eP D.pool.length ep, .int .i64 D.access, .int .i64 D.this, .int .i64 D.super, .slice eI D.ifaces.length ei, .slice eF D.fields.length ef, .slice eM ev.length em] 29)) fun _ e => e.elim)
  obtain ⟨b5, hb5⟩ : ∃ b5, b5 = w4.heap.size := ⟨_, rfl⟩
  rw [← hb5] at HB5 ⊢
  generalize w4.alloc (.cells #[.int .i64 D.minor, .int .i64 D.major, .slice eP D.pool.length ep, .int .i64 D.access, .int .i64 D.this, .int .i64 D.super, .slice eI D.ifaces.length ei, .slice eF D.fields.length ef, .slice eM ev.length em] 29) = W5 at *
  clear hb5
  have HB5' := HB5.out
  have y0 := HB5'.cell 0
  have y1 := HB5'.cell 1
  have y2 := HB5'.cell 2
  have y3 := HB5'.cell 3
  have y4 := HB5'.cell 4
  have y5 := HB5'.cell 5
  have y6 := HB5'.cell 6
  have y7 := HB5'.cell 7
  have y8 := HB5'.cell 8
  simp only [List.getElem?_toArray, List.getElem?_cons_succ, List.getElem?_cons_zero] at y0 y1 y2 y3 y4 y5 y6 y7 y8
  go_wp2_with fail
  refine (law3_Spoil _ D ev _ _ _ _ W5 HCE5.out).mono ?_
  rintro e w6 ⟨rfl, ht⟩
  have K6 := Lib.hid (Below.trans K5.out (ht.below (fun b hb => hb) K5.out.size) : Kept W3 w6)
  clear ht y0 y1 y2 y3 y4 y5 y6 y7 y8 HB5'
  have K06 := Lib.hid (Kept.trans K3.out K6.out)
  go_wp2_with fail
  refine (ref3_Read a _ w6 (H0.out.kept K06.out)).mono ?_
  intro e w7 hG
  obtain ⟨dv, dP, dI, dF, dM, dp, di, df, dm, rfl, hcr, k7⟩ := hG.v HPK.out
  have HCW := Lib.hid hcr.rd
  have K7 := Lib.hid k7
  clear hG k7 hcr
  go_upto_region 8 with fail
  have HB7 := Lib.hid (Blk.new w7 29 #[.int .i64 C.minor, .int .i64 C.major, .slice dP C.pool.length dp, .int .i64 C.access, .int .i64 C.this, .int .i64 C.super, .slice dI C.ifaces.length di, .slice dF C.fields.length df, .slice dM dv.length dm])
  have KR7 := Lib.hid (Below.alloc K7.out K7.out.size (.cells #[.int .i64 C.minor, .int .i64 C.major, .slice dP C.pool.length dp, .int .i64 C.access, .int .i64 C.this, .int .i64 C.super, .slice dI C.ifaces.length di, .slice dF C.fields.length df, .slice dM dv.length dm] 29))
  have KR67 := Lib.hid (Below.alloc (Below.refl w7.heap.size w7) (Nat.le_refl _) (.cells #[.int .i64 C.minor, .int .i64 C.major, .slice dP C.pool.length dp, .int .i64 C.access, .int .i64 C.this, .int .i64 C.super, .slice dI C.ifaces.length di, .slice dF C.fields.length df, .slice dM dv.length dm] 29) : Kept w7 (w7.alloc (.cells #[.int .i64 C.minor, .int .i64 C.major, .slice dP C.pool.length dp, .int .i64 C.access, .int .i64 C.this, .int .i64 C.super, .slice dI C.ifaces.length di, .slice dF C.fields.length df, .slice dM dv.length dm] 29)))
  obtain ⟨b7, hb7⟩ : ∃ b7, b7 = w7.heap.size := ⟨_, rfl⟩
  rw [← hb7] at HB7 ⊢
  generalize w7.alloc (.cells #[.int .i64 C.minor, .int .i64 C.major, .slice dP C.pool.length dp, .int .i64 C.access, .int .i64 C.this, .int .i64 C.super, .slice dI C.ifaces.length di, .slice dF C.fields.length df, .slice dM dv.length dm] 29) = W7 at *
  clear hb7
  have K8 := Lib.hid (Kept.trans K06.out KR7.out)
  have HC1 := Lib.hid (HC3.out.kept (Kept.trans K6.out KR7.out))
  have HC2 := Lib.hid (HCW.out.kept KR67.out)
  have HB8 := HB3.out.kept (Kept.trans K6.out KR7.out)
  have HB9 := HB7.out
  have x0 := HB8.cell 0
  have x1 := HB8.cell 1
  have x2 := HB8.cell 2
  have x3 := HB8.cell 3
  have x4 := HB8.cell 4
  have x5 := HB8.cell 5
  have x6 := HB8.cell 6
  have x7 := HB8.cell 7
  have x8 := HB8.cell 8
  have y0 := HB9.cell 0
  have y1 := HB9.cell 1
  have y2 := HB9.cell 2
  have y3 := HB9.cell 3
  have y4 := HB9.cell 4
  have y5 := HB9.cell 5
  have y6 := HB9.cell 6
  have y7 := HB9.cell 7
  have y8 := HB9.cell 8
  simp only [List.getElem?_toArray, List.getElem?_cons_succ, List.getElem?_cons_zero] at x0 x1 x2 x3 x4 x5 x6 x7 x8 y0 y1 y2 y3 y4 y5 y6 y7 y8
  clear HB8 HB9
  go_wp2_with fail
  refine (ref4_Same C C cv dv _ _ _ _ _ _ _ _ W7 HC1.out HC2.out).mono ?_
  rintro e w8 ⟨bb, rfl, hb, hk⟩
  obtain rfl := hb.2 rfl
  have K9 := Lib.hid (Kept.trans K8.out hk)
  clear hb hk
  go_wp2_with fail
  go_ret
  exact ⟨rfl, K9.out⟩
end Go.Proofs.Ytlipdifhdaaknaa
