/-
  The document's own answer of chapter 13 by contract: Special.
-/
import Derived.Test.YtpggibohfdamjaaCh7
import Derived.Test.YtpggibohfdamjaaCh8
namespace Go.Proofs.Ytpggibohfdamjaa
open Go.RowKit
set_option maxRecDepth 100000

theorem rd_head {w : World} {a : Option Addr} {N c : Nat} {x : ByteArray} {l : List ByteArray} (h : Rd w 1 (.slice a N c) N ((x :: l).flatMap encS)) : Rd w 1 (.slice a 1 c) 1 ([x].flatMap encS) := by
  have hN : N = l.length + 1 := by
    have h1 := h.1
    have h2 : ∀ m : List ByteArray, (m.flatMap encS).length = m.length := by
      intro m; induction m with
      | nil => rfl
      | cons y m ih => rw [List.flatMap_cons, List.length_append, ih]; simp [encS]; omega
    rw [h2] at h1
    simp at h1
    omega
  rcases h.parts with ⟨h0, _⟩ | ⟨b, off, c', hv, h0, h1, h2, hc⟩
  · omega
  · simp only [Value.slice.injEq] at hv
    obtain ⟨rfl, -, rfl⟩ := hv
    refine ⟨by simp [encS], _, _, rfl, by omega, h2, fun _ => ⟨b, off, rfl, fun j u hu => ?_⟩⟩
    have hj : j = 0 := by
      have := (List.getElem?_eq_some_iff.1 hu).1
      simp [encS] at this
      exact this
    subst hj
    exact hc 0 u (by simpa [encS] using hu)
theorem chain_head {D : List TD} {c : ByteArray} (h : there D c) : ∃ l, chainL D c = c :: l := by
  unfold there at h
  obtain ⟨k, hk⟩ := Option.isSome_iff_exists.1 h
  obtain ⟨t, ht, _⟩ := atO_some hk
  rw [chain_cons hk ht]
  obtain ⟨l, hl⟩ := chainR_pre (D := D) (f := D.length) (s := t.super) (out := [c])
  exact ⟨l, by rw [← hl]; rfl⟩
theorem notK_I : notK 8 = tkI := rfl

set_option maxHeartbeats 16000000 in
theorem ref13_Special (D : List TD) (a rc rn rd : ByteArray) (v : Value) (w : World) (h : TyR w v D) (has : a.size ≤ maxLen) (hrc : rc.size ≤ maxLen) :
    Calls Try.prog 13 #[v, .string a, .agg #[.string rc, .string rn, .string rd]] w fun e w' => e = .returned (resG (specR D a rc rn rd)) ∧ Kept w w' := by
  have H := Lib.hid h
  have HAS := Lib.hid has
  have HRC := Lib.hid hrc
  have hDl := h.len
  have k0 : Kept w ((w.alloc (.cells #[.string rc, .string rn, .string rd] 39)).alloc (.cells #[.string ⟨#[]⟩, .int .i64 0] 24)) := ((Below.refl _ _).alloc (Nat.le_refl _) _).alloc (by simp) _
  have b0 : Blk ((w.alloc (.cells #[.string rc, .string rn, .string rd] 39)).alloc (.cells #[.string ⟨#[]⟩, .int .i64 0] 24)) w.heap.size 39 #[.string rc, .string rn, .string rd] := (Blk.new w _ _).alloc _
  have b1 : Blk ((w.alloc (.cells #[.string rc, .string rn, .string rd] 39)).alloc (.cells #[.string ⟨#[]⟩, .int .i64 0] 24)) (w.heap.size + 1) 24 #[.string ⟨#[]⟩, .int .i64 0] := Blk.at_ (by simp)
  have CA := ref9_At D a v ((w.alloc (.cells #[.string rc, .string rn, .string rd] 39)).alloc (.cells #[.string ⟨#[]⟩, .int .i64 0] 24)) (h.kept k0)
  have CR := ref9_At D rc v ((w.alloc (.cells #[.string rc, .string rn, .string rd] 39)).alloc (.cells #[.string ⟨#[]⟩, .int .i64 0] 24)) (h.kept k0)
  have q0 := b0.cell 0
  have q1 := b0.cell 1
  have q2 := b0.cell 2
  simp only [List.getElem?_toArray, List.getElem?_cons_succ, List.getElem?_cons_zero] at q0 q1 q2
  have zq := b0.lt
  have K0 := Lib.hid k0
  have B0 := Lib.hid b0
  have B1 := Lib.hid b1
  clear h has hrc k0 b0 b1
  by_cases hth : there D a ∧ there D rc
  · obtain ⟨hta, htr⟩ := hth
    have HTA := Lib.hid hta
    have HTR := Lib.hid htr
    unfold there at hta htr
    obtain ⟨ka, hka⟩ := Option.isSome_iff_exists.1 hta
    obtain ⟨kr, hkr⟩ := Option.isSome_iff_exists.1 htr
    obtain ⟨ta, hat, -, hla⟩ := atO_some hka
    obtain ⟨tr, hrt, -, hlr⟩ := atO_some hkr
    rw [atI_some hka] at CA
    rw [atI_some hkr] at CR
    have HACA := Lib.hid (accT_at hka hat)
    have HACR := Lib.hid (accT_at hkr hrt)
    have HSUP := Lib.hid (supO_at hka hat)
    have HTA1 := Lib.hid hat
    have HTR1 := Lib.hid hrt
    have i1 : (ka : Int) < (D.length : Int) := by omega
    have i2 : (0 : Int) ≤ (ka : Int) := by omega
    have i3 : (kr : Int) < (D.length : Int) := by omega
    have i4 : (0 : Int) ≤ (kr : Int) := by omega
    have CA := Lib.hid CA
    have CR := Lib.hid CR
    clear hta htr hka hkr hat hrt hla hlr
    go_enter Try.func13, Try.ntmps13
    go_upto_region 1 with fail
    generalize ((w.alloc (.cells #[.string rc, .string rn, .string rd] 39)).alloc (.cells #[.string ⟨#[]⟩, .int .i64 0] 24)) = W at *
    go_wp2_with fail
    refine CA.out.mono ?_
    rintro e w1 ⟨rfl, rfl⟩
    go_wp2_with fail
    refine CR.out.mono ?_
    rintro e w1 ⟨rfl, rfl⟩
    clear CA CR
    go_wp2_with fail
    go_region_held2 (fun w' => w'.cell? ⟨w.heap.size, 0, none⟩ = some (.string rc)) (go_keep)
      (first
        | (go_at_call 28; refine (ref9_Chain D a _ _ (H.out.kept (Kept.trans K0.out (Below.refl _ _).drew)) HAS.out).mono ?_; rintro e w6 ⟨vc, rfl, hvc, k6⟩; have HVC := Lib.hid hvc; have K6 : Hid (Kept W w6) := Lib.hid (Kept.trans (Below.refl _ _).drew k6); have q06 := Kept.cell K6.out q0; clear hvc k6)
        | (go_at_call 27; refine (ref9_Has (chainL D a) rc vc _ w6 rfl HVC.out.rd (by have := (chainL_nms D a).le; omega)).mono ?_; rintro e w7 ⟨rfl, rfl⟩))
    clear q06 q0 q1 q2 zq
    obtain ⟨ab, hab⟩ : ∃ b, b = decide (rc ∈ chainL D a) := ⟨_, rfl⟩
    rw [← hab]
    have HAB := Lib.hid hab
    clear hab HVC
    have x2 := (H.out.kept (Kept.trans K0.out K6.out))
    obtain ⟨tb, tof, tc, ia, ic, fa, fc, ma, mc, rfl, -, y1, y2, -⟩ := ty_row x2 HTA1.out
    obtain ⟨tb', tof', tc', ia', ic', fa', fc', ma', mc', hv, -, -, z2, -⟩ := ty_row x2 HTR1.out
    simp only [Value.slice.injEq, Option.some.injEq, Addr.mk.injEq] at hv
    obtain ⟨⟨rfl, rfl, -⟩, -, rfl⟩ := hv
    clear x2
    have bq := B0.out.kept K6.out
    have q0 := bq.cell 0
    have q1 := bq.cell 1
    have q2 := bq.cell 2
    simp only [List.getElem?_toArray, List.getElem?_cons_succ, List.getElem?_cons_zero] at q0 q1 q2
    have zq := bq.lt
    clear bq
    have HY1 := Lib.hid y1
    go_upto_region 7 with fail
    go_cut [68] from 39 to 68 (fun s68 wx => s68 = .bool (decide (spQ D a rc rn) && ab) ∧ w6 = wx)
    case first =>
      by_cases h1 : bits .and .i64 ta.access 32 = 0
      · have e1 : (bits .and .i64 ta.access 32 != 0) = false := by simp [h1]
        have HS := Lib.hid (spQ_no (D := D) (a := a) (rc := rc) (rn := rn) (.inl (by rw [HACA.out]; exact h1)))
        clear h1
        go_wp2_with fail
        go_meet
        exact ⟨by rw [HS.out]; rfl, rfl⟩
      · have e1 : (bits .and .i64 ta.access 32 != 0) = true := by simp [h1]
        by_cases h2 : rn = initB
        · have HS := Lib.hid (spQ_no (D := D) (a := a) (rc := rc) (rn := rn) (.inr (.inl h2)))
          have e2 : rn.toList = [60, 105, 110, 105, 116, 62] := by rw [h2]; simp [initB, ByteArray.toList_eq]
          clear h1 h2
          go_wp2_with fail
          go_meet
          exact ⟨by rw [HS.out]; rfl, rfl⟩
        · have e2 : (rn.toList == [60, 105, 110, 105, 116, 62]) = false := by
            have := str_ne_ h2
            have hx : initB.toList = [60, 105, 110, 105, 116, 62] := by simp [initB, ByteArray.toList_eq]
            rwa [hx] at this
          have e2' : ¬ (rn.toList = [60, 105, 110, 105, 116, 62]) := by simpa using e2
          have e2n : (rn.toList != [60, 105, 110, 105, 116, 62]) = true := by simpa using e2'
          by_cases h3 : bits .and .i64 tr.access 512 = 0
          · have e3 : (bits .and .i64 tr.access 512 == 0) = true := by simp [h3]
            by_cases h4 : rc = a
            · have HS := Lib.hid (spQ_no (D := D) (a := a) (rc := rc) (rn := rn) (.inr (.inr (.inr h4))))
              have e4' : rc.toList = a.toList := by rw [h4]
              clear h1 h2 h3 h4
              cases ab <;>
              (go_wp2_with fail
               go_meet
               exact ⟨by rw [HS.out]; rfl, rfl⟩)
            · have e4 := str_ne_ h4
              have e4' : ¬ (rc.toList = a.toList) := by simpa using e4
              have e4n : (rc.toList != a.toList) = true := by simpa using e4'
              have HS := Lib.hid (show decide (spQ D a rc rn) = true from decide_eq_true ⟨by rw [HACA.out]; exact h1, h2, by rw [HACR.out]; exact h3, h4⟩)
              clear h1 h2 h3 h4
              cases ab <;>
              (go_wp2_with fail
               go_meet
               exact ⟨by rw [HS.out]; rfl, rfl⟩)
          · have e3 : (bits .and .i64 tr.access 512 == 0) = false := by simp [h3]
            have HS := Lib.hid (spQ_no (D := D) (a := a) (rc := rc) (rn := rn) (.inr (.inr (.inl (by rw [HACR.out]; exact h3)))))
            clear h1 h2 h3
            go_wp2_with fail
            go_meet
            exact ⟨by rw [HS.out]; rfl, rfl⟩
    case rest =>
    obtain ⟨rfl, rfl⟩ := hcut
    obtain ⟨qb, hqb⟩ : ∃ b, b = (decide (spQ D a rc rn) && ab) := ⟨_, rfl⟩
    rw [← hqb]
    have HQB := Lib.hid hqb
    clear hqb y2 z2 q1 q2
    go_upto_if 68 with fail
    go_cut [10] from 69 to 73 (fun s10 wx => s10 = .string (spC D a rc rn) ∧ w6 = wx)
    case first =>
      cases qb with
      | false =>
        have HS := Lib.hid (show spC D a rc rn = rc by
          have hb := HQB.out.symm
          rw [Bool.and_eq_false_iff, decide_eq_false_iff_not, HAB.out, decide_eq_false_iff_not] at hb
          rcases hb with hb | hb
          · exact spC_q hb
          · exact spC_no (.inr (.inr (.inr (.inr hb)))))
        go_wp2_with fail
        go_meet
        exact ⟨by rw [HS.out], rfl⟩
      | true =>
        have HS := Lib.hid (show spC D a rc rn = ta.super by
          have hb := HQB.out.symm
          rw [Bool.and_eq_true, decide_eq_true_eq, HAB.out, decide_eq_true_eq] at hb
          rw [spC_yes hb.1.1 hb.1.2.1 hb.1.2.2.1 hb.1.2.2.2 hb.2, HSUP.out])
        go_wp2_with fail
        go_meet
        exact ⟨by rw [HS.out], rfl⟩
    case rest =>
    obtain ⟨rfl, rfl⟩ := hcut
    obtain ⟨cN, hcN⟩ : ∃ c, c = spC D a rc rn := ⟨_, rfl⟩
    rw [← hcN]
    have HCN := Lib.hid (show specR D a rc rn rd = specC D cN rn rd by unfold specR; rw [if_pos ⟨HTA.out, HTR.out⟩, hcN])
    have hct : there D cN := by rw [hcN]; exact spC_there HTA.out HTR.out
    obtain ⟨Cr, hCr⟩ := chain_head hct
    have HCR := Lib.hid hCr
    have HCZ := Lib.hid (H.out.size_of hct)
    unfold there at hct
    obtain ⟨kc, hkc⟩ := Option.isSome_iff_exists.1 hct
    obtain ⟨t, ht, -, hkl⟩ := atO_some hkc
    have CC := ref9_At D cN _ w6 (H.out.kept (Kept.trans K0.out K6.out))
    rw [atI_some hkc] at CC
    have CC := Lib.hid CC
    have HFC := Lib.hid (show faceT D cN = (bits .and .i64 t.access 512 != 0) by unfold faceT; rw [accT_at hkc ht])
    have j1 : (kc : Int) < (D.length : Int) := by omega
    have j2 : (0 : Int) ≤ (kc : Int) := by omega
    have HTC := Lib.hid ht
    clear hcN hct hCr hkc ht hkl q0 zq y1 i1 i2 i3 i4
    go_wp2_with fail
    refine CC.out.mono ?_
    rintro e w8 ⟨rfl, rfl⟩
    clear CC
    obtain ⟨C, hC⟩ : ∃ C, C = chainL D cN := ⟨_, rfl⟩
    obtain ⟨N, hN⟩ : ∃ N, N = C.length := ⟨_, rfl⟩
    have HC := Lib.hid hC
    have HN := Lib.hid hN
    have hNl : N ≤ 100 := by rw [hN, hC]; have := (chainL_nms D cN).le; omega
    have hN1 : 1 ≤ N := by rw [hN, hC, HCR.out]; simp
    clear hC hN
    go_wp2_with fail
    refine (ref9_Chain D cN _ w6 (H.out.kept (Kept.trans K0.out K6.out)) HCZ.out).mono ?_
    rintro e X ⟨vc, rfl, hvc, kh⟩
    have hrd : Rd X 1 vc N (C.flatMap encS) := by rw [HN.out, HC.out]; exact hvc.rd
    have HVX := Lib.hid hrd
    obtain ⟨-, ac, cc, rfl, hcc1, hcc2, -⟩ := hrd
    have KX := Lib.hid (Kept.trans K6.out kh)
    obtain ⟨tb', tof', tc', ia'', ic'', fa'', fc'', ma'', mc'', hv, -, -, t2, -⟩ := ty_row (H.out.kept (Kept.trans K0.out KX.out)) HTC.out
    simp only [Value.slice.injEq, Option.some.injEq, Addr.mk.injEq] at hv
    obtain ⟨⟨rfl, rfl, -⟩, -, rfl⟩ := hv
    clear hvc kh
    have bq := B0.out.kept KX.out
    have q0 := bq.cell 0
    have q1 := bq.cell 1
    have q2 := bq.cell 2
    simp only [List.getElem?_toArray, List.getElem?_cons_succ, List.getElem?_cons_zero] at q0 q1 q2
    have zq := bq.lt
    clear bq
    cases hfb : (bits .and .i64 t.access 512 != 0) with
    | false =>
      have HSL := Lib.hid (show specL D cN = C by unfold specL; rw [if_neg (by rw [HFC.out, hfb]; decide), HC.out])
      have HFT := Lib.hid (show faceT D cN = false by rw [HFC.out, hfb])
      have HRDX := Lib.hid (show Rd X 1 (.slice ac N cc) C.length (C.flatMap encS) by rw [← HN.out]; exact HVX.out)
      cases hfr : frsL D C rn rd tkI with
      | some g =>
        have HGF := Lib.hid (frs_fnd hfr)
        have cf : ∀ (w' : World) (vc : Value), TyR w' _ D → Rd w' 1 vc (C).length ((C).flatMap encS) → Calls Try.prog 29 #[.slice (some ⟨tb, tof, none⟩) D.length tc, vc, .agg #[.string rc, .string rn, .string rd], .int .i64 8] w' (fun e w'' => e = .returned (foV (frsL D (C) rn rd tkI)) ∧ Kept w' w'') := fun w' vc h1 h2 => ref13_first D (C) rc rn rd 8 _ vc _ w' h1 rfl h2 (by rw [← HN.out]; omega) (by rw [HC.out]; exact (chainL_nms D cN).th)
        rw [hfr] at cf
        unfold foV at cf
        have CF := Lib.hid cf
        have HFR := Lib.hid hfr
        clear cf hfr
        go_wp2_with fail
        refine (CF.out _ _ (H.out.kept (Kept.trans K0.out KX.out)) HRDX.out).mono ?_
        rintro e wA ⟨rfl, kA⟩
        have kx : Kept wA (wA.alloc (.cells #[.string g.1, .int .i64 g.2] 24)) := (Below.refl _ _).alloc (Nat.le_refl _) _
        have KA := Lib.hid (Kept.trans KX.out (Kept.trans kA kx))
        have bA := Blk.new wA 24 #[.string g.1, .int .i64 g.2]
        have o0 := bA.cell 0
        have o1 := bA.cell 1
        simp only [List.getElem?_toArray, List.getElem?_cons_succ, List.getElem?_cons_zero] at o0 o1
        have lo := bA.lt
        obtain ⟨gA, hgA⟩ : ∃ x, x = wA.heap.size := ⟨_, rfl⟩
        rw [← hgA] at o0 o1 lo bA
        have BA := Lib.hid bA
        have LGA := Lib.hid (show W.heap.size ≤ gA by have h1 := KX.out.size; have h2 := kA.size; omega)
        clear kA kx bA q0 q1 q2 zq t2
        go_upto_region 15 with fail
        rw [← hgA]
        generalize (wA.alloc (.cells #[.string g.1, .int .i64 g.2] 24)) = XA at *
        clear hgA
        have bq := B0.out.kept KA.out
        have q0 := bq.cell 0
        have q1 := bq.cell 1
        have q2 := bq.cell 2
        simp only [List.getElem?_toArray, List.getElem?_cons_succ, List.getElem?_cons_zero] at q0 q1 q2
        have zq := bq.lt
        clear bq
        go_wp2_with fail
        refine (ref13_told D g _ XA (H.out.kept (Kept.trans K0.out KA.out)) HGF.out).mono ?_
        rintro e wZ ⟨rfl, kZ⟩
        obtain ⟨r, hr⟩ : ∃ r, r = toldR D g.1 (g.2 : Nat) := ⟨_, rfl⟩
        rw [← hr]
        have HRR := Lib.hid hr
        have KZ_ := Lib.hid (Kept.trans KA.out kZ)
        clear kZ hr
        unfold resG
        have kp := KZ_.out
        have PF := fnd_put (B1.out.kept kp)
        have KP := Lib.hid (PF.keeps (Kept.trans K0.out kp) (by have := K0.out.size; omega))
        have g0 := PF.g0
        have g1 := PF.g1
        have h0 := PF.h0
        have h1 := PF.h1
        have zr := PF.lt
        have PF := Lib.hid PF
        clear kp
        have E0 := Lib.hid (PF.out.e0 (.string r.1.1))
        have E1 := Lib.hid (PF.out.e1 (.string r.1.1) (.int .i64 r.1.2))
        have PE := Lib.hid (fnd_put (PF.out.set (.string r.1.1) (.int .i64 r.1.2)))
        have HF := Lib.hid (show resG (specR D a rc rn rd) = resG r by rw [HCN.out]; unfold specC; rw [HSL.out, HFR.out]; simp only; rw [HRR.out])
        go_wp2_with fail
        refine bodyPost_ret (v := resG (specR D a rc rn rd)) (by rw [HF.out]; simp [results, Try.results13, go_sem, E0.out, E1.out, PE.out.g0, PE.out.g1, resG]) rfl ⟨rfl, ?_⟩
        exact KP.out _ _
      | none =>
        have cf : ∀ (w' : World) (vc : Value), TyR w' _ D → Rd w' 1 vc (C).length ((C).flatMap encS) → Calls Try.prog 29 #[.slice (some ⟨tb, tof, none⟩) D.length tc, vc, .agg #[.string rc, .string rn, .string rd], .int .i64 8] w' (fun e w'' => e = .returned (foV (frsL D (C) rn rd tkI)) ∧ Kept w' w'') := fun w' vc h1 h2 => ref13_first D (C) rc rn rd 8 _ vc _ w' h1 rfl h2 (by rw [← HN.out]; omega) (by rw [HC.out]; exact (chainL_nms D cN).th)
        rw [hfr] at cf
        unfold foV at cf
        have CF := Lib.hid cf
        have HFR := Lib.hid hfr
        clear cf hfr
        go_wp2_with fail
        refine (CF.out _ _ (H.out.kept (Kept.trans K0.out KX.out)) HRDX.out).mono ?_
        rintro e wA ⟨rfl, kA⟩
        have kx : Kept wA (wA.alloc (.cells #[.string ⟨#[]⟩, .int .i64 0] 24)) := (Below.refl _ _).alloc (Nat.le_refl _) _
        have KA := Lib.hid (Kept.trans KX.out (Kept.trans kA kx))
        have bA := Blk.new wA 24 #[.string ⟨#[]⟩, .int .i64 0]
        have o0 := bA.cell 0
        have o1 := bA.cell 1
        simp only [List.getElem?_toArray, List.getElem?_cons_succ, List.getElem?_cons_zero] at o0 o1
        have lo := bA.lt
        obtain ⟨gA, hgA⟩ : ∃ x, x = wA.heap.size := ⟨_, rfl⟩
        rw [← hgA] at o0 o1 lo bA
        have BA := Lib.hid bA
        have LGA := Lib.hid (show W.heap.size ≤ gA by have h1 := KX.out.size; have h2 := kA.size; omega)
        clear kA kx bA q0 q1 q2 zq t2
        go_upto_region 15 with fail
        rw [← hgA]
        generalize (wA.alloc (.cells #[.string ⟨#[]⟩, .int .i64 0] 24)) = XA at *
        clear hgA
        have bq := B0.out.kept KA.out
        have q0 := bq.cell 0
        have q1 := bq.cell 1
        have q2 := bq.cell 2
        simp only [List.getElem?_toArray, List.getElem?_cons_succ, List.getElem?_cons_zero] at q0 q1 q2
        have zq := bq.lt
        clear bq
        go_wp2_with fail
        refine (ref13_on D cN rc rn rd _ XA (H.out.kept (Kept.trans K0.out KA.out)) HCZ.out).mono ?_
        rintro e wZ ⟨rfl, kZ⟩
        obtain ⟨r, hr⟩ : ∃ r, r = onR D cN rn rd := ⟨_, rfl⟩
        rw [← hr]
        have HRR := Lib.hid hr
        have KZ_ := Lib.hid (Kept.trans KA.out kZ)
        clear kZ hr
        unfold resG
        have kp := KZ_.out
        have PF := fnd_put (B1.out.kept kp)
        have KP := Lib.hid (PF.keeps (Kept.trans K0.out kp) (by have := K0.out.size; omega))
        have g0 := PF.g0
        have g1 := PF.g1
        have h0 := PF.h0
        have h1 := PF.h1
        have zr := PF.lt
        have PF := Lib.hid PF
        clear kp
        have E0 := Lib.hid (PF.out.e0 (.string r.1.1))
        have E1 := Lib.hid (PF.out.e1 (.string r.1.1) (.int .i64 r.1.2))
        have PE := Lib.hid (fnd_put (PF.out.set (.string r.1.1) (.int .i64 r.1.2)))
        have HF := Lib.hid (show resG (specR D a rc rn rd) = resG r by rw [HCN.out]; unfold specC; rw [HSL.out, HFR.out]; simp only; rw [if_neg (by rw [HFT.out]; decide)]; rw [HRR.out])
        go_wp2_with fail
        refine bodyPost_ret (v := resG (specR D a rc rn rd)) (by rw [HF.out]; simp [results, Try.results13, go_sem, E0.out, E1.out, PE.out.g0, PE.out.g1, resG]) rfl ⟨rfl, ?_⟩
        exact KP.out _ _
    | true =>
      have HSL := Lib.hid (show specL D cN = [cN] by unfold specL; rw [if_pos (by rw [HFC.out, hfb])])
      have HFT := Lib.hid (show faceT D cN = true by rw [HFC.out, hfb])
      have HRDX := Lib.hid (show Rd X 1 (.slice ac 1 cc) [cN].length ([cN].flatMap encS) from rd_head (l := Cr) (by rw [← HCR.out, ← HC.out]; exact HVX.out))
      have hcc : (1 : Int) ≤ (cc : Int) := by omega
      have hccn : 1 ≤ cc := by omega
      cases hfr : frsL D [cN] rn rd tkI with
      | some g =>
        have HGF := Lib.hid (frs_fnd hfr)
        have hthc : ∀ s ∈ [cN], there D s := by intro s hs; rw [List.mem_singleton.1 hs]; exact (chainL_nms D cN).th cN (by rw [HCR.out]; simp)
        have cf : ∀ (w' : World) (vc : Value), TyR w' _ D → Rd w' 1 vc ([cN]).length (([cN]).flatMap encS) → Calls Try.prog 29 #[.slice (some ⟨tb, tof, none⟩) D.length tc, vc, .agg #[.string rc, .string rn, .string rd], .int .i64 8] w' (fun e w'' => e = .returned (foV (frsL D ([cN]) rn rd tkI)) ∧ Kept w' w'') := fun w' vc h1 h2 => ref13_first D ([cN]) rc rn rd 8 _ vc _ w' h1 rfl h2 (by simp) hthc
        rw [hfr] at cf
        unfold foV at cf
        have CF := Lib.hid cf
        have HFR := Lib.hid hfr
        clear cf hfr
        clear hthc
        go_wp2_with fail
        refine (CF.out _ _ (H.out.kept (Kept.trans K0.out KX.out)) HRDX.out).mono ?_
        rintro e wA ⟨rfl, kA⟩
        have kx : Kept wA (wA.alloc (.cells #[.string g.1, .int .i64 g.2] 24)) := (Below.refl _ _).alloc (Nat.le_refl _) _
        have KA := Lib.hid (Kept.trans KX.out (Kept.trans kA kx))
        have bA := Blk.new wA 24 #[.string g.1, .int .i64 g.2]
        have o0 := bA.cell 0
        have o1 := bA.cell 1
        simp only [List.getElem?_toArray, List.getElem?_cons_succ, List.getElem?_cons_zero] at o0 o1
        have lo := bA.lt
        obtain ⟨gA, hgA⟩ : ∃ x, x = wA.heap.size := ⟨_, rfl⟩
        rw [← hgA] at o0 o1 lo bA
        have BA := Lib.hid bA
        have LGA := Lib.hid (show W.heap.size ≤ gA by have h1 := KX.out.size; have h2 := kA.size; omega)
        clear kA kx bA q0 q1 q2 zq t2
        go_upto_region 15 with fail
        rw [← hgA]
        generalize (wA.alloc (.cells #[.string g.1, .int .i64 g.2] 24)) = XA at *
        clear hgA
        have bq := B0.out.kept KA.out
        have q0 := bq.cell 0
        have q1 := bq.cell 1
        have q2 := bq.cell 2
        simp only [List.getElem?_toArray, List.getElem?_cons_succ, List.getElem?_cons_zero] at q0 q1 q2
        have zq := bq.lt
        clear bq
        go_wp2_with fail
        refine (ref13_told D g _ XA (H.out.kept (Kept.trans K0.out KA.out)) HGF.out).mono ?_
        rintro e wZ ⟨rfl, kZ⟩
        obtain ⟨r, hr⟩ : ∃ r, r = toldR D g.1 (g.2 : Nat) := ⟨_, rfl⟩
        rw [← hr]
        have HRR := Lib.hid hr
        have KZ_ := Lib.hid (Kept.trans KA.out kZ)
        clear kZ hr
        unfold resG
        have kp := KZ_.out
        have PF := fnd_put (B1.out.kept kp)
        have KP := Lib.hid (PF.keeps (Kept.trans K0.out kp) (by have := K0.out.size; omega))
        have g0 := PF.g0
        have g1 := PF.g1
        have h0 := PF.h0
        have h1 := PF.h1
        have zr := PF.lt
        have PF := Lib.hid PF
        clear kp
        have E0 := Lib.hid (PF.out.e0 (.string r.1.1))
        have E1 := Lib.hid (PF.out.e1 (.string r.1.1) (.int .i64 r.1.2))
        have PE := Lib.hid (fnd_put (PF.out.set (.string r.1.1) (.int .i64 r.1.2)))
        have HF := Lib.hid (show resG (specR D a rc rn rd) = resG r by rw [HCN.out]; unfold specC; rw [HSL.out, HFR.out]; simp only; rw [HRR.out])
        go_wp2_with fail
        refine bodyPost_ret (v := resG (specR D a rc rn rd)) (by rw [HF.out]; simp [results, Try.results13, go_sem, E0.out, E1.out, PE.out.g0, PE.out.g1, resG]) rfl ⟨rfl, ?_⟩
        exact KP.out _ _
      | none =>
        have hthc : ∀ s ∈ [cN], there D s := by intro s hs; rw [List.mem_singleton.1 hs]; exact (chainL_nms D cN).th cN (by rw [HCR.out]; simp)
        have cf : ∀ (w' : World) (vc : Value), TyR w' _ D → Rd w' 1 vc ([cN]).length (([cN]).flatMap encS) → Calls Try.prog 29 #[.slice (some ⟨tb, tof, none⟩) D.length tc, vc, .agg #[.string rc, .string rn, .string rd], .int .i64 8] w' (fun e w'' => e = .returned (foV (frsL D ([cN]) rn rd tkI)) ∧ Kept w' w'') := fun w' vc h1 h2 => ref13_first D ([cN]) rc rn rd 8 _ vc _ w' h1 rfl h2 (by simp) hthc
        rw [hfr] at cf
        unfold foV at cf
        have CF := Lib.hid cf
        have HFR := Lib.hid hfr
        clear cf hfr
        clear hthc
        go_wp2_with fail
        refine (CF.out _ _ (H.out.kept (Kept.trans K0.out KX.out)) HRDX.out).mono ?_
        rintro e wA ⟨rfl, kA⟩
        have kx : Kept wA (wA.alloc (.cells #[.string ⟨#[]⟩, .int .i64 0] 24)) := (Below.refl _ _).alloc (Nat.le_refl _) _
        have KA := Lib.hid (Kept.trans KX.out (Kept.trans kA kx))
        have bA := Blk.new wA 24 #[.string ⟨#[]⟩, .int .i64 0]
        have o0 := bA.cell 0
        have o1 := bA.cell 1
        simp only [List.getElem?_toArray, List.getElem?_cons_succ, List.getElem?_cons_zero] at o0 o1
        have lo := bA.lt
        obtain ⟨gA, hgA⟩ : ∃ x, x = wA.heap.size := ⟨_, rfl⟩
        rw [← hgA] at o0 o1 lo bA
        have BA := Lib.hid bA
        have LGA := Lib.hid (show W.heap.size ≤ gA by have h1 := KX.out.size; have h2 := kA.size; omega)
        clear kA kx bA q0 q1 q2 zq t2
        go_upto_region 15 with fail
        rw [← hgA]
        generalize (wA.alloc (.cells #[.string ⟨#[]⟩, .int .i64 0] 24)) = XA at *
        clear hgA
        have bq := B0.out.kept KA.out
        have q0 := bq.cell 0
        have q1 := bq.cell 1
        have q2 := bq.cell 2
        simp only [List.getElem?_toArray, List.getElem?_cons_succ, List.getElem?_cons_zero] at q0 q1 q2
        have zq := bq.lt
        clear bq
        go_wp2_with fail
        refine (ref12_Object D rc rn rd _ XA (H.out.kept (Kept.trans K0.out KA.out)) HRC.out).mono ?_
        rintro e wB ⟨rfl, kB⟩
        have KB := Lib.hid (Kept.trans KA.out kB)
        have PA := fnd_put (BA.out.kept kB)
        have p0 := PA.g0
        have p1 := PA.g1
        have r0 := PA.h0
        have r1 := PA.h1
        have rl := PA.lt
        have PA := Lib.hid PA
        clear kB q0 q1 q2 zq o0 o1 lo
        cases hob : objF D rc rn rd with
        | some h =>
          have HOB := Lib.hid (show objF D cN rn rd = some h from hob)
          have kq := PA.out.keeps KB.out LGA.out (.string h.1) (.int .i64 h.2)
          have bq2 := PA.out.set (.string h.1) (.int .i64 h.2)
          have KC := Lib.hid kq
          have BC := Lib.hid bq2
          clear kq bq2 hob
          unfold foV
          go_upto_region 19 with fail
          generalize ((wB.setCell ⟨gA, 0, none⟩ (.string h.1)).setCell ⟨gA, 1, none⟩ (.int .i64 h.2)) = XC at *
          clear p0 p1 r0 r1 rl
          have bc2 := BC.out
          have o0 := bc2.cell 0
          have o1 := bc2.cell 1
          simp only [List.getElem?_toArray, List.getElem?_cons_succ, List.getElem?_cons_zero] at o0 o1
          have lo := bc2.lt
          clear bc2
          have bq := B0.out.kept KC.out
          have q0 := bq.cell 0
          have q1 := bq.cell 1
          have q2 := bq.cell 2
          simp only [List.getElem?_toArray, List.getElem?_cons_succ, List.getElem?_cons_zero] at q0 q1 q2
          have zq := bq.lt
          clear bq
          have HHF := Lib.hid (show Fnd D h from frs_fnd (by rw [← frs_obj D cN rn rd] at HOB; exact HOB.out))
          go_wp2_with fail
          refine (ref13_told D h _ XC (H.out.kept (Kept.trans K0.out KC.out)) HHF.out).mono ?_
          rintro e wZ ⟨rfl, kZ⟩
          obtain ⟨r, hr⟩ : ∃ r, r = toldR D h.1 (h.2 : Nat) := ⟨_, rfl⟩
          rw [← hr]
          have HRR := Lib.hid hr
          have KZ_ := Lib.hid (Kept.trans KC.out kZ)
          clear kZ hr
          unfold resG
          have kp := KZ_.out
          have PF := fnd_put (B1.out.kept kp)
          have KP := Lib.hid (PF.keeps (Kept.trans K0.out kp) (by have := K0.out.size; omega))
          have g0 := PF.g0
          have g1 := PF.g1
          have h0 := PF.h0
          have h1 := PF.h1
          have zr := PF.lt
          have PF := Lib.hid PF
          clear kp
          have E0 := Lib.hid (PF.out.e0 (.string r.1.1))
          have E1 := Lib.hid (PF.out.e1 (.string r.1.1) (.int .i64 r.1.2))
          have PE := Lib.hid (fnd_put (PF.out.set (.string r.1.1) (.int .i64 r.1.2)))
          have HF := Lib.hid (show resG (specR D a rc rn rd) = resG r by rw [HCN.out]; unfold specC; rw [HSL.out, HFR.out]; simp only; rw [if_pos HFT.out, HOB.out]; simp only; rw [HRR.out])
          go_wp2_with fail
          refine bodyPost_ret (v := resG (specR D a rc rn rd)) (by rw [HF.out]; simp [results, Try.results13, go_sem, E0.out, E1.out, PE.out.g0, PE.out.g1, resG]) rfl ⟨rfl, ?_⟩
          exact KP.out _ _
        | none =>
          have HOB := Lib.hid (show objF D cN rn rd = none from hob)
          have kq := PA.out.keeps KB.out LGA.out (.string ⟨#[]⟩) (.int .i64 0)
          have bq2 := PA.out.set (.string ⟨#[]⟩) (.int .i64 0)
          have KC := Lib.hid kq
          have BC := Lib.hid bq2
          clear kq bq2 hob
          unfold foV
          go_upto_region 19 with fail
          generalize ((wB.setCell ⟨gA, 0, none⟩ (.string ⟨#[]⟩)).setCell ⟨gA, 1, none⟩ (.int .i64 0)) = XC at *
          clear p0 p1 r0 r1 rl
          have bc2 := BC.out
          have o0 := bc2.cell 0
          have o1 := bc2.cell 1
          simp only [List.getElem?_toArray, List.getElem?_cons_succ, List.getElem?_cons_zero] at o0 o1
          have lo := bc2.lt
          clear bc2
          have bq := B0.out.kept KC.out
          have q0 := bq.cell 0
          have q1 := bq.cell 1
          have q2 := bq.cell 2
          simp only [List.getElem?_toArray, List.getElem?_cons_succ, List.getElem?_cons_zero] at q0 q1 q2
          have zq := bq.lt
          clear bq
          go_wp2_with fail
          refine (ref13_on D cN rc rn rd _ XC (H.out.kept (Kept.trans K0.out KC.out)) HCZ.out).mono ?_
          rintro e wZ ⟨rfl, kZ⟩
          obtain ⟨r, hr⟩ : ∃ r, r = onR D cN rn rd := ⟨_, rfl⟩
          rw [← hr]
          have HRR := Lib.hid hr
          have KZ_ := Lib.hid (Kept.trans KC.out kZ)
          clear kZ hr
          unfold resG
          have kp := KZ_.out
          have PF := fnd_put (B1.out.kept kp)
          have KP := Lib.hid (PF.keeps (Kept.trans K0.out kp) (by have := K0.out.size; omega))
          have g0 := PF.g0
          have g1 := PF.g1
          have h0 := PF.h0
          have h1 := PF.h1
          have zr := PF.lt
          have PF := Lib.hid PF
          clear kp
          have E0 := Lib.hid (PF.out.e0 (.string r.1.1))
          have E1 := Lib.hid (PF.out.e1 (.string r.1.1) (.int .i64 r.1.2))
          have PE := Lib.hid (fnd_put (PF.out.set (.string r.1.1) (.int .i64 r.1.2)))
          have HF := Lib.hid (show resG (specR D a rc rn rd) = resG r by rw [HCN.out]; unfold specC; rw [HSL.out, HFR.out]; simp only; rw [if_pos HFT.out, HOB.out]; simp only; rw [HRR.out])
          go_wp2_with fail
          refine bodyPost_ret (v := resG (specR D a rc rn rd)) (by rw [HF.out]; simp [results, Try.results13, go_sem, E0.out, E1.out, PE.out.g0, PE.out.g1, resG]) rfl ⟨rfl, ?_⟩
          exact KP.out _ _
  · have HNO := Lib.hid hth
    have HV := Lib.hid (show specR D a rc rn rd = (gz, nmB) by unfold specR; rw [if_neg hth])
    cases hoa : atO D a with
    | none =>
      rw [atI_none hoa] at CA
      generalize atI D rc = ixr at *
      have CA := Lib.hid CA
      have CR := Lib.hid CR
      clear hoa hth
      go_enter Try.func13, Try.ntmps13
      go_upto_region 1 with fail
      generalize ((w.alloc (.cells #[.string rc, .string rn, .string rd] 39)).alloc (.cells #[.string ⟨#[]⟩, .int .i64 0] 24)) = W at *
      go_wp2_with fail
      refine CA.out.mono ?_
      rintro e w1 ⟨rfl, rfl⟩
      go_wp2_with fail
      refine CR.out.mono ?_
      rintro e w1 ⟨rfl, rfl⟩
      clear CA CR q0 q1 q2
      have kp := (Below.refl W.heap.size W)
      have PF := fnd_put (B1.out.kept kp)
      have KP := Lib.hid (PF.keeps (Kept.trans K0.out kp) (by have := K0.out.size; omega))
      have g0 := PF.g0
      have g1 := PF.g1
      have h0 := PF.h0
      have h1 := PF.h1
      have zr := PF.lt
      have PF := Lib.hid PF
      clear kp
      have E0 := Lib.hid (PF.out.e0 (.string ⟨#[]⟩))
      have E1 := Lib.hid (PF.out.e1 (.string ⟨#[]⟩) (.int .i64 0))
      have PE := Lib.hid (fnd_put (PF.out.set (.string ⟨#[]⟩) (.int .i64 0)))
      have HF := Lib.hid (show resG (specR D a rc rn rd) = resG (gz, nmB) by rw [HV.out])
      go_wp2_with fail
      refine bodyPost_ret (v := resG (specR D a rc rn rd)) (by rw [HF.out]; simp [results, Try.results13, go_sem, E0.out, E1.out, PE.out.g0, PE.out.g1, resG, gz, nmB]) rfl ⟨rfl, ?_⟩
      exact KP.out _ _
    | some ka =>
      have hor : atO D rc = none := by
        cases hor : atO D rc with
        | none => rfl
        | some k => exact absurd ⟨by unfold there; rw [hoa]; rfl, by unfold there; rw [hor]; rfl⟩ hth
      rw [atI_some hoa] at CA
      rw [atI_none hor] at CR
      have CA := Lib.hid CA
      have CR := Lib.hid CR
      clear hoa hor hth
      go_enter Try.func13, Try.ntmps13
      go_upto_region 1 with fail
      generalize ((w.alloc (.cells #[.string rc, .string rn, .string rd] 39)).alloc (.cells #[.string ⟨#[]⟩, .int .i64 0] 24)) = W at *
      go_wp2_with fail
      refine CA.out.mono ?_
      rintro e w1 ⟨rfl, rfl⟩
      go_wp2_with fail
      refine CR.out.mono ?_
      rintro e w1 ⟨rfl, rfl⟩
      clear CA CR q0 q1 q2
      have kp := (Below.refl W.heap.size W)
      have PF := fnd_put (B1.out.kept kp)
      have KP := Lib.hid (PF.keeps (Kept.trans K0.out kp) (by have := K0.out.size; omega))
      have g0 := PF.g0
      have g1 := PF.g1
      have h0 := PF.h0
      have h1 := PF.h1
      have zr := PF.lt
      have PF := Lib.hid PF
      clear kp
      have E0 := Lib.hid (PF.out.e0 (.string ⟨#[]⟩))
      have E1 := Lib.hid (PF.out.e1 (.string ⟨#[]⟩) (.int .i64 0))
      have PE := Lib.hid (fnd_put (PF.out.set (.string ⟨#[]⟩) (.int .i64 0)))
      have HF := Lib.hid (show resG (specR D a rc rn rd) = resG (gz, nmB) by rw [HV.out])
      go_wp2_with fail
      refine bodyPost_ret (v := resG (specR D a rc rn rd)) (by rw [HF.out]; simp [results, Try.results13, go_sem, E0.out, E1.out, PE.out.g0, PE.out.g1, resG, gz, nmB]) rfl ⟨rfl, ?_⟩
      exact KP.out _ _
end Go.Proofs.Ytpggibohfdamjaa
