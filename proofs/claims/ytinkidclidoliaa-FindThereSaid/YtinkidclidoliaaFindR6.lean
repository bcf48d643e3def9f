/-
  The document's search by contract: Field, faces, Method, Face.
-/
import Derived.Test.YtinkidclidoliaaFindR5
import Derived.Test.YtinkidclidoliaaFindG
namespace Go.Proofs.Ytinkidclidoliaa
open Go.RowKit
set_option maxRecDepth 100000


set_option maxHeartbeats 4000000 in
theorem ref12_Field (D : List TD) (c n d : ByteArray) (v : Value) (w : World) (h : TyR w v D) (hs : c.size ≤ maxLen) :
    Calls Try.prog 23 #[v, .agg #[.string c, .string n, .string d]] w fun e w' => e = .returned (resV (fieldR D c n d)) ∧ Kept w w' := by
  have H := Lib.hid h
  have HS := Lib.hid hs
  have k0 : Kept w ((w.alloc (.cells #[.string c, .string n, .string d] 24)).alloc (.cells #[.string ⟨#[]⟩, .int .i64 0] 30)) := ((Below.refl _ _).alloc (Nat.le_refl _) _).alloc (by simp) _
  have b0 : Blk ((w.alloc (.cells #[.string c, .string n, .string d] 24)).alloc (.cells #[.string ⟨#[]⟩, .int .i64 0] 30)) w.heap.size 24 #[.string c, .string n, .string d] := (Blk.new w _ _).alloc _
  have b1 : Blk ((w.alloc (.cells #[.string c, .string n, .string d] 24)).alloc (.cells #[.string ⟨#[]⟩, .int .i64 0] 30)) (w.heap.size + 1) 30 #[.string ⟨#[]⟩, .int .i64 0] := Blk.at_ (by simp)
  have zz : w.heap.size + 1 < ((w.alloc (.cells #[.string c, .string n, .string d] 24)).alloc (.cells #[.string ⟨#[]⟩, .int .i64 0] 30)).heap.size := by simp
  have q0 := b0.cell 0
  have q1 := b0.cell 1
  have q2 := b0.cell 2
  simp only [List.getElem?_toArray, List.getElem?_cons_succ, List.getElem?_cons_zero] at q0 q1 q2
  have K0 := Lib.hid k0
  have B0 := Lib.hid b0
  have B1 := Lib.hid b1
  clear h hs k0 b0 b1
  go_enter Try.func23, Try.ntmps23
  go_wp2_with fail
  generalize ((w.alloc (.cells #[.string c, .string n, .string d] 24)).alloc (.cells #[.string ⟨#[]⟩, .int .i64 0] 30)) = W at *
  refine (ref12_over D c n d v (D.length + 1) c [] (.slice none 0 0) W (H.out.kept K0.out) HS.out (Row.nil _ _ _ _) (Nms.nil D) (by simp)).mono ?_
  rintro e w2 ⟨vs, rfl, rv, k2⟩
  obtain ⟨r, hr⟩ : ∃ r, r = fieldL D c n d := ⟨_, rfl⟩
  rw [show (ovF D n d (D.length + 1) c []).1 = r from hr.symm]
  have HR := Lib.hid hr
  have hres : fieldR D c n d = fldRes r := by rw [hr]; rfl
  have HRES := Lib.hid hres
  have kw := k2
  have zk := k2.size
  have PF := fnd_put (B1.out.kept kw)
  have KP := Lib.hid (PF.keeps (Kept.trans K0.out kw) (Nat.le_succ _))
  have g0 := PF.g0
  have g1 := PF.g1
  have h0 := PF.h0
  have h1 := PF.h1
  have zr := PF.lt
  have PF := Lib.hid PF
  have zn : ¬ (w.heap.size + 1 = w2.heap.size) := by omega
  clear kw rv k2 hr hres
  cases r with
  | none =>
    unfold ovV
    simp only [Option.getD_none, Option.isSome_none, f0]
    have E0 := Lib.hid (PF.out.e0 (.string ⟨#[]⟩))
    have E1 := Lib.hid (PF.out.e1 (.string ⟨#[]⟩) (.int .i64 0))
    have PE := Lib.hid ((fnd_put (PF.out.set (.string ⟨#[]⟩) (.int .i64 0))).alloc (.cells #[.string ⟨#[]⟩, .int .i64 0] 30))
    have hf : fieldR D c n d = (f0, nfB) := by rw [HRES.out]; rfl
    have HF := Lib.hid (congrArg resV hf)
    clear hf
    go_wp2_with fail
    refine bodyPost_ret (v := resV (fieldR D c n d)) (by rw [HF.out]; simp [results, Try.results23, go_sem, E0.out, E1.out, PE.out.g0, PE.out.g1, resV, f0, nfB, nmB, chB]) rfl ⟨rfl, ?_⟩
    exact (KP.out _ _).alloc (by simp; omega) _
  | some f =>
    unfold ovV
    simp only [Option.getD_some, Option.isSome_some]
    have E0 := Lib.hid (PF.out.e0 (.string f.1))
    have E1 := Lib.hid (PF.out.e1 (.string f.1) (.int .i64 f.2))
    have PE := Lib.hid ((fnd_put (PF.out.set (.string f.1) (.int .i64 f.2))).alloc (.cells #[.string f.1, .int .i64 f.2] 30))
    have hf : fieldR D c n d = (f, ⟨#[]⟩) := by rw [HRES.out]; rfl
    have HF := Lib.hid (congrArg resV hf)
    clear hf
    go_wp2_with fail
    refine bodyPost_ret (v := resV (fieldR D c n d)) (by rw [HF.out]; simp [results, Try.results23, go_sem, E0.out, E1.out, PE.out.g0, PE.out.g1, resV, f0, nfB, nmB, chB]) rfl ⟨rfl, ?_⟩
    exact (KP.out _ _).alloc (by simp; omega) _

set_option maxHeartbeats 4000000 in
theorem ref12_faces (D : List TD) (c n d : ByteArray) (v : Value) (w : World) (h : TyR w v D) (hs : c.size ≤ maxLen) :
    Calls Try.prog 56 #[v, .agg #[.string c, .string n, .string d]] w fun e w' => e = .returned (resV (lookR ((sglF D c n d).or (fstF D c n d)))) ∧ Kept w w' := by
  have H := Lib.hid h
  have HS := Lib.hid hs
  have k0 : Kept w ((w.alloc (.cells #[.string c, .string n, .string d] 24)).alloc (.cells #[.string ⟨#[]⟩, .int .i64 0] 30)) := ((Below.refl _ _).alloc (Nat.le_refl _) _).alloc (by simp) _
  have b0 : Blk ((w.alloc (.cells #[.string c, .string n, .string d] 24)).alloc (.cells #[.string ⟨#[]⟩, .int .i64 0] 30)) w.heap.size 24 #[.string c, .string n, .string d] := (Blk.new w _ _).alloc _
  have b1 : Blk ((w.alloc (.cells #[.string c, .string n, .string d] 24)).alloc (.cells #[.string ⟨#[]⟩, .int .i64 0] 30)) (w.heap.size + 1) 30 #[.string ⟨#[]⟩, .int .i64 0] := Blk.at_ (by simp)
  have zz : w.heap.size + 1 < ((w.alloc (.cells #[.string c, .string n, .string d] 24)).alloc (.cells #[.string ⟨#[]⟩, .int .i64 0] 30)).heap.size := by simp
  have q0 := b0.cell 0
  have q1 := b0.cell 1
  have q2 := b0.cell 2
  simp only [List.getElem?_toArray, List.getElem?_cons_succ, List.getElem?_cons_zero] at q0 q1 q2
  have K0 := Lib.hid k0
  have B0 := Lib.hid b0
  have B1 := Lib.hid b1
  clear h hs k0 b0 b1
  go_enter Try.func56, Try.ntmps56
  go_wp2_with fail
  generalize ((w.alloc (.cells #[.string c, .string n, .string d] 24)).alloc (.cells #[.string ⟨#[]⟩, .int .i64 0] 30)) = W at *
  refine (ref12_Most D c c n d v W (H.out.kept K0.out) HS.out).mono ?_
  rintro e w2 ⟨vm, rfl, hm, k2⟩
  have hml : (mostL D c n d).length ≤ 100 := by have h1 := mostL_len D c n d; have h2 := all_len H.out c; omega
  have HM := Lib.hid hm
  have K2 := Lib.hid k2
  clear hm k2 q0 q1 q2
  go_wp2_with fail
  refine (ref12_Real_row D (mostL D c n d) v vm _ w2 (H.out.kept (Kept.trans K0.out K2.out)) rfl HM.out.rd hml (fun f hf => (most_fnd hf).1)).mono ?_
  rintro e w3 ⟨vr, rfl, hr, k3⟩
  rw [real_same] at hr
  obtain ⟨A, hA⟩ : ∃ A, A = realL D n d (mostL D c n d) := ⟨_, rfl⟩
  rw [← hA] at hr
  have hAl : A.length ≤ 100 := by rw [hA]; exact Nat.le_trans (List.length_filter_le _ _) hml
  have HA := Lib.hid hA
  have K3 := Lib.hid (Kept.trans K2.out k3)
  obtain ⟨ar, cr, rfl, hcr1, hcr2⟩ := hr.form
  obtain ⟨N, hN⟩ : ∃ N, N = A.length := ⟨_, rfl⟩
  have HN := Lib.hid hN
  unfold RowF at hr
  rw [← hN] at hr hcr1 hAl ⊢
  have HR := Lib.hid hr
  clear hA hr k3 hN hml HM
  by_cases h1 : N = 1
  · obtain ⟨f, hf⟩ : ∃ f, A = [f] := List.length_eq_one_iff.1 (by rw [← HN.out]; exact h1)
    obtain ⟨b, off, cc, hv, y0, y1⟩ := fnd_cell (l := A) (k := 0) HN.out HR.out.rd (by rw [hf]; rfl)
    simp only [Value.slice.injEq] at hv
    obtain ⟨rfl, -, rfl⟩ := hv
    have yb : b < w3.heap.size := World.block_lt_of_cell? w3 _ y0
    have hsg : sglF D c n d = some f := by unfold sglF; rw [← HA.out, hf]; rfl
    have HSG := Lib.hid hsg
    have kw := K3.out
    subst h1
    simp only [Nat.zero_mul, Nat.add_zero, Nat.zero_add] at y0 y1
    have PF := fnd_put (B1.out.kept kw)
    have KP := Lib.hid (PF.keeps (Kept.trans K0.out kw) (Nat.le_succ _))
    have g0 := PF.g0
    have g1 := PF.g1
    have h0 := PF.h0
    have h1 := PF.h1
    have zr := PF.lt
    have PF := Lib.hid PF
    clear kw hf hsg
    have E0 := Lib.hid (PF.out.e0 (.string f.1))
    have E1 := Lib.hid (PF.out.e1 (.string f.1) (.int .i64 f.2))
    have PE := Lib.hid (fnd_put (PF.out.set (.string f.1) (.int .i64 f.2)))
    have hf : lookR ((sglF D c n d).or (fstF D c n d)) = (f, ⟨#[]⟩) := by rw [HSG.out]; rfl
    have HF := Lib.hid (congrArg resV hf)
    clear hf
    go_wp2_with fail
    refine bodyPost_ret (v := resV (lookR ((sglF D c n d).or (fstF D c n d)))) (by rw [HF.out]; simp [results, Try.results56, go_sem, E0.out, E1.out, PE.out.g0, PE.out.g1, resV, f0, nfB, nmB, chB]) rfl ⟨rfl, ?_⟩
    exact KP.out _ _
  · have hsg : sglF D c n d = none := by unfold sglF; rw [← HA.out, if_neg (by rw [← HN.out]; exact h1)]
    have HSG := Lib.hid hsg
    have e1 : ((N : Int) == 1) = false := by rw [beq_eq_false_iff_ne]; omega
    have bb := B0.out.kept K3.out
    have q0 := bb.cell 0
    have q1 := bb.cell 1
    have q2 := bb.cell 2
    simp only [List.getElem?_toArray, List.getElem?_cons_succ, List.getElem?_cons_zero] at q0 q1 q2
    have hal := all_len H.out c
    clear hsg bb h1
    go_wp2_with fail
    go_region_held2 (fun w' => w'.cell? ⟨w.heap.size, 0, none⟩ = some (.string c) ∧ w'.cell? ⟨w.heap.size, 1, none⟩ = some (.string n) ∧ w'.cell? ⟨w.heap.size, 2, none⟩ = some (.string d)) (go_keep)
      (first
        | (go_at_call 44; refine (ref9_All D c v w3.drew (H.out.kept (Kept.trans K0.out K3.out).drew) HS.out).mono ?_; rintro e w4 ⟨va, rfl, hva, k4⟩; have HVA := Lib.hid hva; have q02 := Kept.cell k4 q0; have q12 := Kept.cell k4 q1; have q22 := Kept.cell k4 q2; have K4 := Lib.hid (Kept.trans K3.out.drew k4); clear k4 hva)
        | (go_at_call 43; refine (ref12_declared D (allL D c) c n d v va (allL D c).length w4 (H.out.kept (Kept.trans K0.out K4.out)) rfl HVA.out.rd hal (allL_nms D c).th).mono ?_; rintro e w5 ⟨vd, rfl, hvd, k5⟩; have HVD := Lib.hid hvd; have q03 := Kept.cell k5 q02; have q13 := Kept.cell k5 q12; have q23 := Kept.cell k5 q22; have K5 := Lib.hid (Kept.trans K4.out k5); clear k5 hvd))
    obtain ⟨L, hL⟩ : ∃ L, L = declL D (allL D c) n d := ⟨_, rfl⟩
    have hLl : L.length ≤ 100 := by have h1 := declL_len D (allL D c) n d; rw [← hL] at h1; omega
    have hvd := HVD.out
    rw [← hL] at hvd
    have HL := Lib.hid hL
    have HVL := Lib.hid hvd
    obtain ⟨al, cl, rfl, hcl1, hcl2⟩ := hvd.form
    have kw := K5.out
    have PF := fnd_put (B1.out.kept kw)
    have KP := Lib.hid (PF.keeps (Kept.trans K0.out kw) (Nat.le_succ _))
    have g0 := PF.g0
    have g1 := PF.g1
    have h0 := PF.h0
    have h1 := PF.h1
    have zr := PF.lt
    have PF := Lib.hid PF
    clear kw hL hvd HVD q0 q1 q2 q02 q12 q22 q03 q13 q23 hal
    cases hLc : L with
    | nil =>
      have hf1 : fstF D c n d = none := by unfold fstF; rw [← HL.out, hLc]; rfl
      have HF1 := Lib.hid hf1
      clear hf1 hLc
      simp only [List.length_nil]
      have E0 := Lib.hid (PF.out.e0 (.string ⟨#[]⟩))
      have E1 := Lib.hid (PF.out.e1 (.string ⟨#[]⟩) (.int .i64 0))
      have PE := Lib.hid (fnd_put (PF.out.set (.string ⟨#[]⟩) (.int .i64 0)))
      have hf : lookR ((sglF D c n d).or (fstF D c n d)) = (f0, nmB) := by rw [HSG.out, HF1.out]; rfl
      have HF := Lib.hid (congrArg resV hf)
      clear hf
      go_wp2_with fail
      refine bodyPost_ret (v := resV (lookR ((sglF D c n d).or (fstF D c n d)))) (by rw [HF.out]; simp [results, Try.results56, go_sem, E0.out, E1.out, PE.out.g0, PE.out.g1, resV, f0, nfB, nmB, chB]) rfl ⟨rfl, ?_⟩
      exact KP.out _ _
    | cons f rest =>
      have hf1 : fstF D c n d = some f := by unfold fstF; rw [← HL.out, hLc]; rfl
      have HF1 := Lib.hid hf1
      obtain ⟨b, off, cc, hv, y0, y1⟩ := fnd_cell (l := L) (k := 0) rfl HVL.out.rd (by rw [hLc]; rfl)
      simp only [Value.slice.injEq] at hv
      obtain ⟨rfl, -, rfl⟩ := hv
      have yb : b < w5.heap.size := World.block_lt_of_cell? w5 _ y0
      simp only [Nat.zero_mul, Nat.add_zero, Nat.zero_add] at y0 y1
      have hpos : (0 : Int) < ((f :: rest).length : Int) := by simp
      have hpos' : 0 < (f :: rest).length := by simp
      obtain ⟨M, hM⟩ : ∃ M, M = (f :: rest).length := ⟨_, rfl⟩
      rw [← hM] at hpos hpos' ⊢
      clear hf1 hLc hM
      have E0 := Lib.hid (PF.out.e0 (.string f.1))
      have E1 := Lib.hid (PF.out.e1 (.string f.1) (.int .i64 f.2))
      have PE := Lib.hid (fnd_put (PF.out.set (.string f.1) (.int .i64 f.2)))
      have hf : lookR ((sglF D c n d).or (fstF D c n d)) = (f, ⟨#[]⟩) := by rw [HSG.out, HF1.out]; rfl
      have HF := Lib.hid (congrArg resV hf)
      clear hf
      go_wp2_with fail
      refine bodyPost_ret (v := resV (lookR ((sglF D c n d).or (fstF D c n d)))) (by rw [HF.out]; simp [results, Try.results56, go_sem, E0.out, E1.out, PE.out.g0, PE.out.g1, resV, f0, nfB, nmB, chB]) rfl ⟨rfl, ?_⟩
      exact KP.out _ _

set_option maxHeartbeats 4000000 in
theorem ref12_Method (D : List TD) (c n d : ByteArray) (v : Value) (w : World) (h : TyR w v D) (hs : c.size ≤ maxLen) :
    Calls Try.prog 24 #[v, .agg #[.string c, .string n, .string d]] w fun e w' => e = .returned (resV (methR D c n d)) ∧ Kept w w' := by
  have H := Lib.hid h
  have HS := Lib.hid hs
  have k0 : Kept w ((w.alloc (.cells #[.string c, .string n, .string d] 24)).alloc (.cells #[.string ⟨#[]⟩, .int .i64 0] 30)) := ((Below.refl _ _).alloc (Nat.le_refl _) _).alloc (by simp) _
  have b0 : Blk ((w.alloc (.cells #[.string c, .string n, .string d] 24)).alloc (.cells #[.string ⟨#[]⟩, .int .i64 0] 30)) w.heap.size 24 #[.string c, .string n, .string d] := (Blk.new w _ _).alloc _
  have b1 : Blk ((w.alloc (.cells #[.string c, .string n, .string d] 24)).alloc (.cells #[.string ⟨#[]⟩, .int .i64 0] 30)) (w.heap.size + 1) 30 #[.string ⟨#[]⟩, .int .i64 0] := Blk.at_ (by simp)
  have zz : w.heap.size + 1 < ((w.alloc (.cells #[.string c, .string n, .string d] 24)).alloc (.cells #[.string ⟨#[]⟩, .int .i64 0] 30)).heap.size := by simp
  have q0 := b0.cell 0
  have q1 := b0.cell 1
  have q2 := b0.cell 2
  simp only [List.getElem?_toArray, List.getElem?_cons_succ, List.getElem?_cons_zero] at q0 q1 q2
  have K0 := Lib.hid k0
  have B0 := Lib.hid b0
  have B1 := Lib.hid b1
  clear h hs k0 b0 b1
  go_enter Try.func24, Try.ntmps24
  go_wp2_with fail
  generalize ((w.alloc (.cells #[.string c, .string n, .string d] 24)).alloc (.cells #[.string ⟨#[]⟩, .int .i64 0] 30)) = W at *
  have CA := ref9_At D c v W (H.out.kept K0.out)
  have kw : Kept W W := Below.refl _ _
  cases ho : atO D c with
  | none =>
    rw [atI_none ho] at CA
    refine CA.mono ?_
    rintro e w1 ⟨rfl, rfl⟩
    have HO := Lib.hid ho
    have PF := fnd_put (B1.out.kept kw)
    have KP := Lib.hid (PF.keeps (Kept.trans K0.out kw) (Nat.le_succ _))
    have g0 := PF.g0
    have g1 := PF.g1
    have h0 := PF.h0
    have h1 := PF.h1
    have zr := PF.lt
    have PF := Lib.hid PF
    clear CA kw ho
    have E0 := Lib.hid (PF.out.e0 (.string ⟨#[]⟩))
    have E1 := Lib.hid (PF.out.e1 (.string ⟨#[]⟩) (.int .i64 0))
    have PE := Lib.hid (fnd_put (PF.out.set (.string ⟨#[]⟩) (.int .i64 0)))
    have hf : methR D c n d = (f0, nmB) := by exact try_no HO.out
    have HF := Lib.hid (congrArg resV hf)
    clear hf
    go_wp2_with fail
    refine bodyPost_ret (v := resV (methR D c n d)) (by rw [HF.out]; simp [results, Try.results24, go_sem, E0.out, E1.out, PE.out.g0, PE.out.g1, resV, f0, nfB, nmB, chB]) rfl ⟨rfl, ?_⟩
    exact KP.out _ _
  | some ka =>
    obtain ⟨t, ht, htn, hkl⟩ := atO_some ho
    have hft : faceT D c = (bits .and .i64 t.access 512 != 0) := by unfold faceT; rw [accT_at ho ht]
    have hmet := metL_at ho ht
    rw [atI_some ho] at CA
    obtain ⟨tb, tof, tc, ia, ic, fa, fc, ma, mc, rfl, -, -, x2, -, -, x5, -, -, -, -, hmr, hml⟩ := ty_row (H.out.kept K0.out) ht
    have hki : (ka : Int) < (D.length : Int) := by omega
    have hk0 : (0 : Int) ≤ (ka : Int) := by omega
    have HO := Lib.hid ho
    have HMR := Lib.hid hmr
    have HMET := Lib.hid hmet
    have HFT := Lib.hid hft
    have X5 := Lib.hid x5
    refine CA.mono ?_
    rintro e w1 ⟨rfl, rfl⟩
    clear CA ht htn ho hmr hmet hft x5
    cases hb : (bits .and .i64 t.access 512 != 0) with
    | true =>
      have PF := fnd_put (B1.out.kept kw)
      have KP := Lib.hid (PF.keeps (Kept.trans K0.out kw) (Nat.le_succ _))
      have g0 := PF.g0
      have g1 := PF.g1
      have h0 := PF.h0
      have h1 := PF.h1
      have zr := PF.lt
      have PF := Lib.hid PF
      clear kw
      have E0 := Lib.hid (PF.out.e0 (.string ⟨#[]⟩))
      have E1 := Lib.hid (PF.out.e1 (.string ⟨#[]⟩) (.int .i64 0))
      have PE := Lib.hid (fnd_put (PF.out.set (.string ⟨#[]⟩) (.int .i64 0)))
      have hf : methR D c n d = (f0, chB) := by exact try_ch HO.out (by rw [HFT.out, hb]; decide)
      have HF := Lib.hid (congrArg resV hf)
      clear hf
      go_wp2_with fail
      refine bodyPost_ret (v := resV (methR D c n d)) (by rw [HF.out]; simp [results, Try.results24, go_sem, E0.out, E1.out, PE.out.g0, PE.out.g1, resV, f0, nfB, nmB, chB]) rfl ⟨rfl, ?_⟩
      exact KP.out _ _
    | false =>
      have hgo : methR D c n d = lookR (clsF D c n d) := try_go HO.out (by rw [HFT.out, hb])
      have HGO := Lib.hid hgo
      clear kw hgo
      have hal := (chainL_nms D c).le
      have hDl := H.out.len
      go_wp2_with fail
      refine (ref9_Chain D c _ W (H.out.kept K0.out) HS.out).mono ?_
      rintro e w2 ⟨vd, rfl, hvd, k2⟩
      obtain ⟨N, hN⟩ : ∃ N, N = (chainL D c).length := ⟨_, rfl⟩
      have hrd : Rd w2 1 vd N ((chainL D c).flatMap encS) := by rw [hN]; exact hvd.rd
      have HV := Lib.hid hrd
      have HN := Lib.hid hN
      have K2 := Lib.hid k2
      have hNl : N ≤ 100 := by omega
      obtain ⟨-, ad, cd, rfl, hcd1, hcd2, -⟩ := hrd
      clear hvd k2 hN hal q0 q1 q2 x2
      go_wp2_with fail
      go_loopw [8] (fun s8 wr => ∃ k : Nat, k ≤ N ∧ s8 = .int .i64 k ∧ (∀ j z, j < k → (chainL D c)[j]? = some z → ownF D z n d = none) ∧ Kept w2 wr) (fun s8 _ => N - (intOf s8).toNat)
      case atStart => exact ⟨0, by omega, rfl, fun j z hj => (by omega), Below.refl _ _⟩
      case round =>
        obtain ⟨k, hk, rfl, hno, hK⟩ := hrel
        rename World => wr
        have HNO := Lib.hid hno
        have HK := Lib.hid hK
        have kw := Kept.trans K2.out hK
        have bb := B0.out.kept kw
        have q0 := bb.cell 0
        have q1 := bb.cell 1
        have q2 := bb.cell 2
        simp only [List.getElem?_toArray, List.getElem?_cons_succ, List.getElem?_cons_zero] at q0 q1 q2
        have KW := Lib.hid kw
        have zr := bb.lt
        clear hno hK kw bb
        by_cases hlt : k < N
        · obtain ⟨s, hs⟩ : ∃ m, (chainL D c)[k]? = some m := ⟨_, List.getElem?_eq_getElem (by have := HN.out; omega)⟩
          obtain ⟨b, off, cc, hv, y0⟩ := str_cell HN.out (HV.out.kept HK.out) hs
          simp only [Value.slice.injEq] at hv
          obtain ⟨rfl, -, rfl⟩ := hv
          have hT := (chainL_nms D c).th s (List.mem_of_getElem? hs)
          unfold there at hT
          obtain ⟨kc, hkc⟩ := Option.isSome_iff_exists.1 hT
          obtain ⟨u, hu, -, hul⟩ := atO_some hkc
          obtain ⟨ub, uof, uc, ia', ic', fa', fc', ma', mc', hv2, -, -, -, -, -, z5, -, -, -, -, hmu, hmul⟩ := ty_row (H.out.kept (Kept.trans K0.out KW.out)) hu
          simp only [Value.slice.injEq, Option.some.injEq, Addr.mk.injEq] at hv2
          obtain ⟨⟨rfl, rfl, -⟩, -, rfl⟩ := hv2
          have hkiu : (kc : Int) < (D.length : Int) := by omega
          have hk0u : (0 : Int) ≤ (kc : Int) := by omega
          have hki' : (k : Int) < (N : Int) := by omega
          have hk0' : (0 : Int) ≤ (k : Int) := by omega
          have hmet' := metL_at hkc hu
          have HMU := Lib.hid hmu
          have HKC := Lib.hid (atI_some hkc)
          have HSK := Lib.hid hs
          have HM' := Lib.hid hmet'
          clear hs hT hkc hu hmu hmet'
          go_wp2_with fail
          go_quiet (first | (go_at_call 35; exact quiet_l (HKC.out ▸ ref9_At D s _ _ (H.out.kept (Kept.trans K0.out (kept_drewN KW.out _))))) | (go_at_call 28; exact quiet_l (ref12_In u.methods n d _ (wr.drewN _) _ rfl (HMU.out.kept (kept_drewN (Below.refl _ _) _)) hmul)))
          cases hm : memAt u.methods n d with
          | none =>
            rw [memI_none hm]
            have ho : ownF D s n d = none := by simp [ownF, mth_no (show memAt (metL D s) n d = none by rw [HM'.out]; exact hm)]
            have HX := Lib.hid (show ∀ j z, j < k + 1 → (chainL D c)[j]? = some z → ownF D z n d = none from fun j z hj hz => by
              by_cases e : j = k
              · subst e
                rw [HSK.out] at hz
                obtain rfl : s = z := by simpa using hz
                exact ho
              · exact HNO.out j z (by omega) hz)
            clear hm ho
            go_wp2_with fail
            go_roundw
            case rel => exact ⟨k + 1, by omega, by go_num, HX.out, kept_drewN HK.out _⟩
            case measure => simp [intOf]; omega
          | some i =>
            rw [memI_some hm]
            obtain ⟨m, hmi, -, -, -⟩ := memAt_some hm
            have ho : ownF D s n d = some (s, i) := by simp [ownF, mth_at (show memAt (metL D s) n d = some i by rw [HM'.out]; exact hm) (show (metL D s)[i]? = some m by rw [HM'.out]; exact hmi)]
            have hf0 : chF D c n d = some (s, i) := some_at HSK.out ho HNO.out
            have HF0 := Lib.hid hf0
            rename_i nq
            have kw : Kept W (wr.drewN nq) := kept_drewN KW.out _
            have y0 : (wr.drewN nq).cell? ⟨b, off + k, none⟩ = some (.string s) := y0
            generalize wr.drewN nq = wq at *
            have PF := fnd_put (B1.out.kept kw)
            have KP := Lib.hid (PF.keeps (Kept.trans K0.out kw) (Nat.le_succ _))
            have g0 := PF.g0
            have g1 := PF.g1
            have h0 := PF.h0
            have h1 := PF.h1
            have zr := PF.lt
            have PF := Lib.hid PF
            clear hm ho hf0 hmi kw
            have E0 := Lib.hid (PF.out.e0 (.string s))
            have E1 := Lib.hid (PF.out.e1 (.string s) (.int .i64 i))
            have PE := Lib.hid (fnd_put (PF.out.set (.string s) (.int .i64 i)))
            have hf : methR D c n d = ((s, i), ⟨#[]⟩) := by rw [HGO.out]; unfold clsF; rw [HF0.out]; rfl
            have HF := Lib.hid (congrArg resV hf)
            clear hf
            go_wp2_with fail
            refine bodyPost_ret (v := resV (methR D c n d)) (by rw [HF.out]; simp [results, Try.results24, go_sem, E0.out, E1.out, PE.out.g0, PE.out.g1, resV, f0, nfB, nmB, chB]) rfl ⟨rfl, ?_⟩
            exact KP.out _ _
        · have hf0 : chF D c n d = none := some_no fun j z hz => HNO.out j z (by have := (List.getElem?_eq_some_iff.1 hz).1; have := HN.out; omega) hz
          have HF0 := Lib.hid hf0
          have CF := ref12_faces D c n d _ wr (H.out.kept (Kept.trans K0.out KW.out)) HS.out
          have CF := Lib.hid CF
          clear hf0
          go_wp2_with fail
          refine CF.out.mono ?_
          rintro e w5 ⟨rfl, k5⟩
          obtain ⟨r, hr⟩ : ∃ r, r = lookR ((sglF D c n d).or (fstF D c n d)) := ⟨_, rfl⟩
          rw [← hr]
          have HR := Lib.hid hr
          have kw := Kept.trans KW.out k5
          have PF := fnd_put (B1.out.kept kw)
          have KP := Lib.hid (PF.keeps (Kept.trans K0.out kw) (Nat.le_succ _))
          have g0 := PF.g0
          have g1 := PF.g1
          have h0 := PF.h0
          have h1 := PF.h1
          have zr := PF.lt
          have PF := Lib.hid PF
          clear kw k5 hr CF q0 q1 q2
          unfold resV
          have E0 := Lib.hid (PF.out.e0 (.string r.1.1))
          have E1 := Lib.hid (PF.out.e1 (.string r.1.1) (.int .i64 r.1.2))
          have PE := Lib.hid (fnd_put (PF.out.set (.string r.1.1) (.int .i64 r.1.2)))
          have hf : methR D c n d = r := by rw [HGO.out, HR.out]; unfold clsF; rw [HF0.out]; rfl
          have HF := Lib.hid (congrArg resV hf)
          clear hf
          go_wp2_with fail
          refine bodyPost_ret (v := resV (methR D c n d)) (by rw [HF.out]; simp [results, Try.results24, go_sem, E0.out, E1.out, PE.out.g0, PE.out.g1, resV, f0, nfB, nmB, chB]) rfl ⟨rfl, ?_⟩
          exact KP.out _ _

set_option maxHeartbeats 4000000 in
theorem ref12_Face (D : List TD) (c n d : ByteArray) (v : Value) (w : World) (h : TyR w v D) (hs : c.size ≤ maxLen) :
    Calls Try.prog 25 #[v, .agg #[.string c, .string n, .string d]] w fun e w' => e = .returned (resV (faceR D c n d)) ∧ Kept w w' := by
  have H := Lib.hid h
  have HS := Lib.hid hs
  have k0 : Kept w ((w.alloc (.cells #[.string c, .string n, .string d] 24)).alloc (.cells #[.string ⟨#[]⟩, .int .i64 0] 30)) := ((Below.refl _ _).alloc (Nat.le_refl _) _).alloc (by simp) _
  have b0 : Blk ((w.alloc (.cells #[.string c, .string n, .string d] 24)).alloc (.cells #[.string ⟨#[]⟩, .int .i64 0] 30)) w.heap.size 24 #[.string c, .string n, .string d] := (Blk.new w _ _).alloc _
  have b1 : Blk ((w.alloc (.cells #[.string c, .string n, .string d] 24)).alloc (.cells #[.string ⟨#[]⟩, .int .i64 0] 30)) (w.heap.size + 1) 30 #[.string ⟨#[]⟩, .int .i64 0] := Blk.at_ (by simp)
  have zz : w.heap.size + 1 < ((w.alloc (.cells #[.string c, .string n, .string d] 24)).alloc (.cells #[.string ⟨#[]⟩, .int .i64 0] 30)).heap.size := by simp
  have q0 := b0.cell 0
  have q1 := b0.cell 1
  have q2 := b0.cell 2
  simp only [List.getElem?_toArray, List.getElem?_cons_succ, List.getElem?_cons_zero] at q0 q1 q2
  have K0 := Lib.hid k0
  have B0 := Lib.hid b0
  have B1 := Lib.hid b1
  clear h hs k0 b0 b1
  go_enter Try.func25, Try.ntmps25
  go_wp2_with fail
  generalize ((w.alloc (.cells #[.string c, .string n, .string d] 24)).alloc (.cells #[.string ⟨#[]⟩, .int .i64 0] 30)) = W at *
  have CA := ref9_At D c v W (H.out.kept K0.out)
  have kw : Kept W W := Below.refl _ _
  cases ho : atO D c with
  | none =>
    rw [atI_none ho] at CA
    refine CA.mono ?_
    rintro e w1 ⟨rfl, rfl⟩
    have HO := Lib.hid ho
    have PF := fnd_put (B1.out.kept kw)
    have KP := Lib.hid (PF.keeps (Kept.trans K0.out kw) (Nat.le_succ _))
    have g0 := PF.g0
    have g1 := PF.g1
    have h0 := PF.h0
    have h1 := PF.h1
    have zr := PF.lt
    have PF := Lib.hid PF
    clear CA kw ho
    have E0 := Lib.hid (PF.out.e0 (.string ⟨#[]⟩))
    have E1 := Lib.hid (PF.out.e1 (.string ⟨#[]⟩) (.int .i64 0))
    have PE := Lib.hid (fnd_put (PF.out.set (.string ⟨#[]⟩) (.int .i64 0)))
    have hf : faceR D c n d = (f0, nmB) := by exact try_no HO.out
    have HF := Lib.hid (congrArg resV hf)
    clear hf
    go_wp2_with fail
    refine bodyPost_ret (v := resV (faceR D c n d)) (by rw [HF.out]; simp [results, Try.results25, go_sem, E0.out, E1.out, PE.out.g0, PE.out.g1, resV, f0, nfB, nmB, chB]) rfl ⟨rfl, ?_⟩
    exact KP.out _ _
  | some ka =>
    obtain ⟨t, ht, htn, hkl⟩ := atO_some ho
    have hft : faceT D c = (bits .and .i64 t.access 512 != 0) := by unfold faceT; rw [accT_at ho ht]
    have hmet := metL_at ho ht
    rw [atI_some ho] at CA
    obtain ⟨tb, tof, tc, ia, ic, fa, fc, ma, mc, rfl, -, -, x2, -, -, x5, -, -, -, -, hmr, hml⟩ := ty_row (H.out.kept K0.out) ht
    have hki : (ka : Int) < (D.length : Int) := by omega
    have hk0 : (0 : Int) ≤ (ka : Int) := by omega
    have HO := Lib.hid ho
    have HMR := Lib.hid hmr
    have HMET := Lib.hid hmet
    have HFT := Lib.hid hft
    have X5 := Lib.hid x5
    refine CA.mono ?_
    rintro e w1 ⟨rfl, rfl⟩
    clear CA ht htn ho hmr hmet hft x5
    have hb' : (bits .and .i64 t.access 512 == 0) = !(bits .and .i64 t.access 512 != 0) := by simp [bne]
    cases hb : (bits .and .i64 t.access 512 != 0) with
    | false =>
      rw [hb] at hb'
      simp only [Bool.not_false] at hb'
      have PF := fnd_put (B1.out.kept kw)
      have KP := Lib.hid (PF.keeps (Kept.trans K0.out kw) (Nat.le_succ _))
      have g0 := PF.g0
      have g1 := PF.g1
      have h0 := PF.h0
      have h1 := PF.h1
      have zr := PF.lt
      have PF := Lib.hid PF
      clear kw
      have E0 := Lib.hid (PF.out.e0 (.string ⟨#[]⟩))
      have E1 := Lib.hid (PF.out.e1 (.string ⟨#[]⟩) (.int .i64 0))
      have PE := Lib.hid (fnd_put (PF.out.set (.string ⟨#[]⟩) (.int .i64 0)))
      have hf : faceR D c n d = (f0, chB) := by exact try_ch HO.out (by rw [HFT.out, hb]; decide)
      have HF := Lib.hid (congrArg resV hf)
      clear hf
      go_wp2_with fail
      refine bodyPost_ret (v := resV (faceR D c n d)) (by rw [HF.out]; simp [results, Try.results25, go_sem, E0.out, E1.out, PE.out.g0, PE.out.g1, resV, f0, nfB, nmB, chB]) rfl ⟨rfl, ?_⟩
      exact KP.out _ _
    | true =>
      rw [hb] at hb'
      simp only [Bool.not_true] at hb'
      have hgo : faceR D c n d = lookR (ifcF D c n d) := try_go HO.out (by rw [HFT.out, hb])
      have HGO := Lib.hid hgo
      have CI := Lib.hid (ref12_In_k t.methods n d _ W.drew (HMR.out.kept (Below.refl _ _).drew) hml)
      clear kw hgo
      go_wp2_with fail
      have x5 := X5.out
      go_region_held2 (fun w' => w'.cell? ⟨tb, tof + ka * 6 + 5, none⟩ = some (.slice ma t.methods.length mc) ∧ w'.cell? ⟨w.heap.size, 1, none⟩ = some (.string n) ∧ w'.cell? ⟨w.heap.size, 2, none⟩ = some (.string d)) (go_keep)
        ((go_at_call 28; refine CI.out.mono ?_; rintro e w2 ⟨rfl, k2⟩; have x52 := Kept.cell k2 x5; have q12 := Kept.cell k2 q1; have q22 := Kept.cell k2 q2; have K2 := Lib.hid (Kept.trans (Below.refl W.heap.size W).drew k2); clear k2))
      clear x2 x5 x52 q1 q2 q12 q22
      have bb := B0.out.kept K2.out
      have q0 := bb.cell 0
      have q1 := bb.cell 1
      have q2 := bb.cell 2
      simp only [List.getElem?_toArray, List.getElem?_cons_succ, List.getElem?_cons_zero] at q0 q1 q2
      have zr2 := bb.lt
      cases hm : memAt t.methods n d with
      | some i =>
        rw [memI_some hm]
        obtain ⟨m, hmi, -, -, -⟩ := memAt_some hm
        have ho : ownF D c n d = some (c, i) := by simp [ownF, mth_at (show memAt (metL D c) n d = some i by rw [HMET.out]; exact hm) (show (metL D c)[i]? = some m by rw [HMET.out]; exact hmi)]
        have HF0 := Lib.hid ho
        have kw := K2.out
        have PF := fnd_put (B1.out.kept kw)
        have KP := Lib.hid (PF.keeps (Kept.trans K0.out kw) (Nat.le_succ _))
        have g0 := PF.g0
        have g1 := PF.g1
        have h0 := PF.h0
        have h1 := PF.h1
        have zr := PF.lt
        have PF := Lib.hid PF
        clear hm ho hmi kw bb
        have E0 := Lib.hid (PF.out.e0 (.string c))
        have E1 := Lib.hid (PF.out.e1 (.string c) (.int .i64 i))
        have PE := Lib.hid (fnd_put (PF.out.set (.string c) (.int .i64 i)))
        have hf : faceR D c n d = ((c, i), ⟨#[]⟩) := by rw [HGO.out]; unfold ifcF; rw [HF0.out]; rfl
        have HF := Lib.hid (congrArg resV hf)
        clear hf
        go_wp2_with fail
        refine bodyPost_ret (v := resV (faceR D c n d)) (by rw [HF.out]; simp [results, Try.results25, go_sem, E0.out, E1.out, PE.out.g0, PE.out.g1, resV, f0, nfB, nmB, chB]) rfl ⟨rfl, ?_⟩
        exact KP.out _ _
      | none =>
        rw [memI_none hm]
        have ho : ownF D c n d = none := by simp [ownF, mth_no (show memAt (metL D c) n d = none by rw [HMET.out]; exact hm)]
        have HF0 := Lib.hid ho
        have B2 := Lib.hid bb
        clear hm ho bb
        go_wp2_with fail
        refine (ref12_Object D c n d _ w2 (H.out.kept (Kept.trans K0.out K2.out)) HS.out).mono ?_
        rintro e w3 ⟨rfl, k3⟩
        have z3 := k3.size
        have K3 := Lib.hid (Kept.trans K2.out k3)
        have B3 := Lib.hid (B2.out.kept k3)
        clear q0 q1 q2 k3
        cases hob : objF D c n d with
        | some f =>
          have HF1 := Lib.hid hob
          have kw := K3.out
          have PF := fnd_put (B1.out.kept kw)
          have KP := Lib.hid (PF.keeps (Kept.trans K0.out kw) (Nat.le_succ _))
          have g0 := PF.g0
          have g1 := PF.g1
          have h0 := PF.h0
          have h1 := PF.h1
          have zr := PF.lt
          have PF := Lib.hid PF
          have zn : ¬ (w.heap.size + 1 = w3.heap.size) := by omega
          clear kw hob
          unfold foV
          have E0 := Lib.hid (PF.out.e0 (.string f.1))
          have E1 := Lib.hid (PF.out.e1 (.string f.1) (.int .i64 f.2))
          have PE := Lib.hid ((fnd_put (PF.out.set (.string f.1) (.int .i64 f.2))).alloc (.cells #[.string f.1, .int .i64 f.2] 30))
          have hf : faceR D c n d = (f, ⟨#[]⟩) := by rw [HGO.out]; unfold ifcF; rw [HF0.out, HF1.out]; rfl
          have HF := Lib.hid (congrArg resV hf)
          clear hf
          go_wp2_with fail
          refine bodyPost_ret (v := resV (faceR D c n d)) (by rw [HF.out]; simp [results, Try.results25, go_sem, E0.out, E1.out, PE.out.g0, PE.out.g1, resV, f0, nfB, nmB, chB]) rfl ⟨rfl, ?_⟩
          exact (KP.out _ _).alloc (by simp; omega) _
        | none =>
          have HF1 := Lib.hid hob
          have zn3 : w.heap.size < w3.heap.size := by omega
          have zn4 : ¬ (w.heap.size = w3.heap.size) := by omega
          have k4 : Kept W (w3.alloc (.cells #[.string ⟨#[]⟩, .int .i64 0] 30)) := K3.out.alloc K3.out.size _
          have K4 := Lib.hid k4
          have bb := B3.out.alloc (.cells #[.string ⟨#[]⟩, .int .i64 0] 30)
          have q0 := bb.cell 0
          have q1 := bb.cell 1
          have q2 := bb.cell 2
          simp only [List.getElem?_toArray, List.getElem?_cons_succ, List.getElem?_cons_zero] at q0 q1 q2
          have CF := Lib.hid (ref12_faces D c n d _ _ (H.out.kept (Kept.trans K0.out k4)) HS.out)
          clear hob k4 bb
          unfold foV
          go_wp2_with fail
          refine CF.out.mono ?_
          rintro e w5 ⟨rfl, k5⟩
          obtain ⟨r, hr⟩ : ∃ r, r = lookR ((sglF D c n d).or (fstF D c n d)) := ⟨_, rfl⟩
          rw [← hr]
          have HR := Lib.hid hr
          have kw := Kept.trans K4.out k5
          have PF := fnd_put (B1.out.kept kw)
          have KP := Lib.hid (PF.keeps (Kept.trans K0.out kw) (Nat.le_succ _))
          have g0 := PF.g0
          have g1 := PF.g1
          have h0 := PF.h0
          have h1 := PF.h1
          have zr := PF.lt
          have PF := Lib.hid PF
          clear kw k5 hr CF q0 q1 q2
          unfold resV
          have E0 := Lib.hid (PF.out.e0 (.string r.1.1))
          have E1 := Lib.hid (PF.out.e1 (.string r.1.1) (.int .i64 r.1.2))
          have PE := Lib.hid (fnd_put (PF.out.set (.string r.1.1) (.int .i64 r.1.2)))
          have hf : faceR D c n d = r := by rw [HGO.out, HR.out]; unfold ifcF; rw [HF0.out, HF1.out]; rfl
          have HF := Lib.hid (congrArg resV hf)
          clear hf
          go_wp2_with fail
          refine bodyPost_ret (v := resV (faceR D c n d)) (by rw [HF.out]; simp [results, Try.results25, go_sem, E0.out, E1.out, PE.out.g0, PE.out.g1, resV, f0, nfB, nmB, chB]) rfl ⟨rfl, ?_⟩
          exact KP.out _ _
end Go.Proofs.Ytinkidclidoliaa
