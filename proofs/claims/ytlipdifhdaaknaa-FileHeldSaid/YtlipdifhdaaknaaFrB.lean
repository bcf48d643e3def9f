/-
  The laws FileReads, FileHeld: their walks.
-/
import Derived.Test.YtlipdifhdaaknaaFrA
import Derived.Test.YtlipdifhdaaknaaSm2
import Derived.Test.YtlipdifhdaaknaaFileI
import Derived.Laws.BitsAllLaws
namespace Go.Proofs.Ytlipdifhdaaknaa
open Go.RowKit
set_option maxRecDepth 100000

theorem CR.rd {base : Nat} {c : ClassC} {mv : List (MethC × Value × Value)} {vP vI vF vM : Value} {w : World} (h : CR base c mv vP vI vF vM w) : CRd w c mv vP vI vF vM :=
  ⟨Rd.of_own h.p, Rd.of_own h.i, Rd.of_own h.f, Rd.of_own h.m, fun x hx => ⟨Rd.of_own (h.r x hx).code, Rd.of_own (h.r x hx).traps⟩, h.ms⟩
/-- What 'e' says, its class written out. -/
def ReadV (L : List UInt8) (C : ClassC) (p k : Int) (w : World) (e : Ending) (w' : World) : Prop :=
  ∃ cv cP cI cF cM cp ci cf cm, e = .returned (.tuple #[.agg #[.int .i64 C.minor, .int .i64 C.major, .slice cP C.pool.length cp, .int .i64 C.access, .int .i64 C.this, .int .i64 C.super, .slice cI C.ifaces.length ci, .slice cF C.fields.length cf, .slice cM cv.length cm], .int .i64 p, .int .i64 k]) ∧ CR w.heap.size C cv (.slice cP C.pool.length cp) (.slice cI C.ifaces.length ci) (.slice cF C.fields.length cf) (.slice cM cv.length cm) w' ∧ Kept w w'
theorem ReadG.v {L : List UInt8} {C : ClassC} {p k : Int} (hp : readP L = (C, p, k)) {w : World} {e : Ending} {w' : World} (h : ReadG L w e w') : ReadV L C p k w e w' := by
  obtain ⟨mv, vP, vI, vF, vM, he, hcr, hk⟩ := h
  rw [hp] at he hcr
  obtain ⟨cP, cp, rfl, -, -⟩ := own_slice hcr.p
  obtain ⟨cI, ci, rfl, -, -⟩ := own_slice hcr.i
  obtain ⟨cF, cf, rfl, -, -⟩ := own_slice hcr.f
  obtain ⟨cM, cm, rfl, -, -⟩ := own_slice hcr.m
  exact ⟨mv, _, _, _, _, _, _, _, _, he, hcr, hk⟩
theorem xor_255 (x : UInt8) : ∃ y : UInt8, bits .xor .u8 (x.toNat : Int) 255 = (y.toNat : Int) := by
  have hx := x.toNat_lt
  have hlt : x.toNat ^^^ 255 < 256 := Nat.xor_lt_two_pow (n := 8) hx (by decide)
  refine ⟨UInt8.ofNat (x.toNat ^^^ 255), ?_⟩
  rw [show (255 : Int) = ((255 : Nat) : Int) from rfl, u8_xor_nat _ _ hx (by decide), UInt8.toNat_ofNat', Nat.mod_eq_of_lt hlt]
set_option maxHeartbeats 8000000 in
theorem walk_FileReads (b : List UInt8) (x0 : Value) (w : World) (h0 : Rd w 1 x0 b.length (b.map byteV)) :
    Calls Try.prog 3 #[x0] w fun e w' => e = .returned (.bool true) ∧ Below w.heap.size w w' := by
  have H0 := Lib.hid h0
  obtain ⟨_, a0, c0, rfl, q1, q2, -⟩ := h0
  by_cases g1 : 20000 < b.length
  · have g1' : (20000 : Int) < (b.length : Int) := by omega
    go_enter Try.func3, Try.ntmps3
    go_wp2_with (first | (go_at_call 8; refine (alive3 _).mono ?_; rintro e w1 ⟨rfl, k1⟩; have K1 := Lib.hid k1; clear k1))
    go_ret
    exact ⟨rfl, K1.out⟩
  have g1' : ¬ (20000 : Int) < (b.length : Int) := by omega
  obtain ⟨C, p, k, hpk⟩ : ∃ C p k, readP b = (C, p, k) := ⟨_, _, _, rfl⟩
  have HPK := Lib.hid hpk
  clear hpk
  go_enter Try.func3, Try.ntmps3
  go_wp2_with fail
  refine (alive3 _).mono ?_
  rintro e w1 ⟨rfl, k1⟩
  have K1 := Lib.hid k1
  have hs1 := K1.out.size
  clear k1
  go_upto_region 5 with (first
    | (at_builtin; refine wpl_appR _ elem_byte rfl (.const (.slice none 0 0)) (.tmp 21) rfl w.heap.size (.slice none 0 0) 0 [] rfl (World.ownsRow_nil _ _ _ _) _ b.length _ rfl (H0.out.kept K1.out) (bytes_one _) (by omega) (by omega) hs1 _ rfl ?_; intro a2 c2 w2 ho2 hg2 hk2; rw [Nat.zero_add] at ho2 ⊢; rw [List.nil_append] at ho2; have HO2 := Lib.hid ho2; have K2 := Lib.hid (Below.grown K1.out hg2 hs1 (fun k hk => by cases hk)); have hs2 := K2.out.size; clear ho2 hg2 hk2)
    | (at_builtin; refine wpl_pushH _ elem_byte rfl (.tmp 22) (.tmp 23) rfl w.heap.size _ b.length _ rfl HO2.out [.int .u8 167] _ _ rfl rfl rfl (by intro u hu; simp at hu; subst hu; rfl) (by omega) (by omega) (by omega) ?_; intro v3 w3 ho3 hg3 hk3 hb3; have HO3 := Lib.hid ho3; have K3 := Lib.hid (Below.grown K2.out hg3 hs2 (fun k hk => (HO2.out.lt k hk).1)); clear ho3 hg3 hk3 hb3))
  have hrd3 : Rd w3 1 v3 (b.length + 1) ((b.map byteV) ++ [.int .u8 167]) := Rd.of_own HO3.out
  obtain ⟨gf, cf, rfl, hcf, hcf2, hgf, hgfl, hcell, hfz⟩ := own_form HO3.out (by omega)
  have hr4 : Rd w3 1 (.slice (some ⟨gf, 0, none⟩) b.length cf) b.length (b.map byteV) := by
    refine ⟨by simp, _, _, rfl, by omega, hcf2, fun _ => ⟨gf, 0, rfl, fun j u hu => ?_⟩⟩
    rw [Nat.zero_add]
    refine hcell j u ?_
    rw [List.getElem?_append_left (List.getElem?_eq_some_iff.1 hu).1]
    exact hu
  have hlast : w3.cell? ⟨gf, b.length, none⟩ = some (.int .u8 167) := hcell b.length _ (by rw [List.getElem?_append_right (by simp)]; simp)
  have HR4 := Lib.hid hr4
  have HL4 := Lib.hid hlast
  have HGF := Lib.hid hgf
  clear hrd3 hcell hr4 hlast
  have u1 : (b.length : Int) ≤ (cf : Int) := by omega
  have u2 : (0 : Int) ≤ (b.length : Int) := by omega
  go_wp2_with fail
  refine (file_Read b _ w3 HR4.out).mono ?_
  intro e w4 hG
  obtain ⟨cv, cP, cI, cF, cM, cp, ci, cf', cm, rfl, hcr, k4⟩ := hG.v HPK.out
  have K4 := Lib.hid (Kept.trans K3.out k4)
  have KR4 := Lib.hid k4
  have HCR := Lib.hid hcr
  clear hG k4 hcr
  go_upto_region 6 with fail
  have HB5 := Lib.hid (Blk.new w4 29 #[.int .i64 C.minor, .int .i64 C.major, .slice cP C.pool.length cp, .int .i64 C.access, .int .i64 C.this, .int .i64 C.super, .slice cI C.ifaces.length ci, .slice cF C.fields.length cf', .slice cM cv.length cm])
  have KR5 := Lib.hid (Below.alloc KR4.out KR4.out.size (.cells #[.int .i64 C.minor, .int .i64 C.major, .slice cP C.pool.length cp, .int .i64 C.access, .int .i64 C.this, .int .i64 C.super, .slice cI C.ifaces.length ci, .slice cF C.fields.length cf', .slice cM cv.length cm] 29))
  have HCR5 := Lib.hid (HCR.out.touch ((Touch.refl (fun _ => False) w4).alloc (.cells #[.int .i64 C.minor, .int .i64 C.major, .slice cP C.pool.length cp, .int .i64 C.access, .int .i64 C.this, .int .i64 C.super, .slice cI C.ifaces.length ci, .slice cF C.fields.length cf', .slice cM cv.length cm] 29)) fun _ e => e.elim)
  obtain ⟨b5, hb5⟩ : ∃ b5, b5 = w4.heap.size := ⟨_, rfl⟩
  rw [← hb5] at HB5 ⊢
  have HB5S := Lib.hid (show w3.heap.size ≤ b5 by rw [hb5]; exact KR4.out.size)
  generalize w4.alloc (.cells #[.int .i64 C.minor, .int .i64 C.major, .slice cP C.pool.length cp, .int .i64 C.access, .int .i64 C.this, .int .i64 C.super, .slice cI C.ifaces.length ci, .slice cF C.fields.length cf', .slice cM cv.length cm] 29) = W5 at *
  clear hb5
  have K5 := Lib.hid (Kept.trans K3.out KR5.out)
  have cv1 : ∀ m, (convert 22 9 (.slice (some ⟨gf, 0, none⟩) b.length cf)).run Try.prog (W5.drewN m) = .ok (.string ⟨b.toArray⟩) (W5.drewN m) := fun m => conv_bytes (HR4.out.kept (kept_drewN KR5.out m))
  have cv2 : ∀ m, (convert 22 9 (.slice a0 b.length c0)).run Try.prog (W5.drewN m) = .ok (.string ⟨b.toArray⟩) (W5.drewN m) := fun m => conv_bytes (H0.out.kept (kept_drewN K5.out m))
  have cv1' := cv1 0
  have cv2' := cv2 0
  have x167 : W5.cell? ⟨gf, b.length, none⟩ = some (.int .u8 167) := Kept.cell KR5.out HL4.out
  have hs : ((⟨b.toArray⟩ : ByteArray).toList != (⟨b.toArray⟩ : ByteArray).toList) = false := by simp
  have u3 : (b.length : Int) < (b.length : Int) + 1 := by omega
  clear K1 K2 HO2
  go_quiet (fail)
  have hO6 : ∀ m, (W5.drewN m).ownsRow w.heap.size 5 1 (.slice (some ⟨gf, 0, none⟩) (b.length + 1) cf) (b.length + 1) ((b ++ [167]).map byteV) := fun m => by
    rw [List.map_append]
    exact (Touch.of_kept (S := fun _ => False) (kept_drewN KR5.out m)).own HO3.out fun _ _ h => h
  have HO6 := Lib.hid hO6
  clear cv1 cv2 cv1' cv2' x167 hs u3 hO6 HL4 u1 hfz
  go_wp2_with fail
  go_loopw [8] (fun s8 wr => ∃ (k : Nat) (l : List UInt8), k ≤ b.length + 1 ∧ s8 = .int .i64 k ∧ l.length = b.length + 1 ∧ wr.ownsRow w.heap.size 5 1 (.slice (some ⟨gf, 0, none⟩) (b.length + 1) cf) (b.length + 1) (l.map byteV) ∧ Touch (fun b => b = gf) W5 wr) (fun s8 _ => b.length + 1 - (intOf s8).toNat)
  case atStart => exact ⟨0, b ++ [167], Nat.zero_le _, rfl, by simp, HO6.out _, (Touch.refl _ _).drewN _⟩
  case round =>
    obtain ⟨i, l, hi, rfl, hl, ho, ht⟩ := hrel
    clear HO6
    by_cases hlt : i < b.length + 1
    · obtain ⟨x, hx⟩ : ∃ x, l[i]? = some x := ⟨_, List.getElem?_eq_getElem (by omega)⟩
      obtain ⟨y, hy⟩ := xor_255 x
      obtain ⟨g', c', hv, _, _, _, hgl, hcell, hfz⟩ := own_form ho (by omega)
      simp only [Value.slice.injEq, Option.some.injEq, Addr.mk.injEq] at hv
      obtain ⟨⟨rfl, -, -⟩, -, rfl⟩ := hv
      have xc : wr.cell? ⟨gf, i, none⟩ = some (.int .u8 (x.toNat : Int)) := hcell i _ (by rw [List.getElem?_map, hx]; rfl)
      have xf := hfz i
      have hltI : (i : Int) < (b.length : Int) + 1 := by omega
      have h0I : (0 : Int) ≤ (i : Int) := by omega
      have HS := Lib.hid (own_store ho i (byteV y))
      have HT := Lib.hid (ht.setCell (p := ⟨gf, i, none⟩) (.inl rfl) (byteV y))
      have HYX := Lib.hid hy
      have HL := Lib.hid hl
      clear ho ht hcell hfz hx hl hy
      go_upto_region 10 with fail
      rw [HYX.out]
      have HS2 : Hid ((wr.setCell ⟨gf, i, none⟩ (.int .u8 (y.toNat : Int))).ownsRow w.heap.size 5 1 (.slice (some ⟨gf, 0, none⟩) (b.length + 1) cf) (b.length + 1) ((l.set i y).map byteV)) := Lib.hid (by rw [List.map_set]; exact HS.out)
      have HT2 : Hid (Touch (fun b => b = gf) W5 (wr.setCell ⟨gf, i, none⟩ (.int .u8 (y.toNat : Int)))) := HT
      clear HS HT xc xf
      generalize wr.setCell ⟨gf, i, none⟩ (.int .u8 (y.toNat : Int)) = W9 at *
      go_wp2_with fail
      go_roundw
      case rel => exact ⟨i + 1, l.set i y, by omega, by go_num, by rw [List.length_set]; exact HL.out, HS2.out, HT2.out⟩
      case measure => simp [intOf]; omega
    · have hltI : ¬ (i : Int) < (b.length : Int) + 1 := by omega
      have HT := Lib.hid ht
      have KR := Lib.hid (Below.trans K5.out (ht.below (B := w.heap.size) (fun b hb => by omega) K5.out.size) : Kept w wr)
      have HCR6 := Lib.hid (HCR5.out.touch ht fun b hb => by omega)
      have HB6 := Lib.hid (HB5.out.touch ht (by have := HB5S.out; omega))
      clear ho ht hl
      go_wp2_with fail
      refine (ref3_Read b _ wr (H0.out.kept KR.out)).mono ?_
      intro e w6 hG
      obtain ⟨dv, dP, dI, dF, dM, dp, di, df, dm, rfl, hcr, k6⟩ := hG.v HPK.out
      have KR6 := Lib.hid k6
      have HCW := Lib.hid hcr
      clear hG k6 hcr
      go_upto_region 13 with fail
      have HB7 := Lib.hid (Blk.new w6 29 #[.int .i64 C.minor, .int .i64 C.major, .slice dP C.pool.length dp, .int .i64 C.access, .int .i64 C.this, .int .i64 C.super, .slice dI C.ifaces.length di, .slice dF C.fields.length df, .slice dM dv.length dm])
      have KR7 := Lib.hid (Below.alloc KR6.out KR6.out.size (.cells #[.int .i64 C.minor, .int .i64 C.major, .slice dP C.pool.length dp, .int .i64 C.access, .int .i64 C.this, .int .i64 C.super, .slice dI C.ifaces.length di, .slice dF C.fields.length df, .slice dM dv.length dm] 29))
      have KR67 := Lib.hid (Below.alloc (Below.refl w6.heap.size w6) (Nat.le_refl _) (.cells #[.int .i64 C.minor, .int .i64 C.major, .slice dP C.pool.length dp, .int .i64 C.access, .int .i64 C.this, .int .i64 C.super, .slice dI C.ifaces.length di, .slice dF C.fields.length df, .slice dM dv.length dm] 29) : Kept w6 (w6.alloc (.cells #[.int .i64 C.minor, .int .i64 C.major, .slice dP C.pool.length dp, .int .i64 C.access, .int .i64 C.this, .int .i64 C.super, .slice dI C.ifaces.length di, .slice dF C.fields.length df, .slice dM dv.length dm] 29)))
      obtain ⟨b7, hb7⟩ : ∃ b7, b7 = w6.heap.size := ⟨_, rfl⟩
      rw [← hb7] at HB7 ⊢
      generalize w6.alloc (.cells #[.int .i64 C.minor, .int .i64 C.major, .slice dP C.pool.length dp, .int .i64 C.access, .int .i64 C.this, .int .i64 C.super, .slice dI C.ifaces.length di, .slice dF C.fields.length df, .slice dM dv.length dm] 29) = W7 at *
      clear hb7
      have K7 := Lib.hid (Kept.trans KR.out KR7.out)
      have HC1 := Lib.hid (HCR6.out.rd.kept KR7.out)
      have HC2 := Lib.hid (HCW.out.rd.kept KR67.out)
      have HB8 := HB6.out.kept KR7.out
      have x0 := HB8.cell 0
      have x1 := HB8.cell 1
      have x2 := HB8.cell 2
      have x3 := HB8.cell 3
      have x4 := HB8.cell 4
      have x5 := HB8.cell 5
      have x6 := HB8.cell 6
      have x7 := HB8.cell 7
      have x8 := HB8.cell 8
      have y0 := HB7.out.cell 0
      have y1 := HB7.out.cell 1
      have y2 := HB7.out.cell 2
      have y3 := HB7.out.cell 3
      have y4 := HB7.out.cell 4
      have y5 := HB7.out.cell 5
      have y6 := HB7.out.cell 6
      have y7 := HB7.out.cell 7
      have y8 := HB7.out.cell 8
      simp only [List.getElem?_toArray, List.getElem?_cons_succ, List.getElem?_cons_zero] at x0 x1 x2 x3 x4 x5 x6 x7 x8 y0 y1 y2 y3 y4 y5 y6 y7 y8
      clear HB8
      go_wp2_with (first
        | (go_at_call 11; refine (law3_num _ _).mono ?_; rintro e w8 ⟨rfl, rfl⟩)
        | (go_at_call 12; refine (ref4_Same C C cv dv _ _ _ _ _ _ _ _ W7 HC1.out HC2.out).mono ?_; rintro e w8 ⟨bb, rfl, hb, hk⟩; obtain rfl := hb.2 rfl; have K8 := Lib.hid (Kept.trans K7.out hk); clear hb hk))
      go_ret
      exact ⟨rfl, K8.out⟩
end Go.Proofs.Ytlipdifhdaaknaa
