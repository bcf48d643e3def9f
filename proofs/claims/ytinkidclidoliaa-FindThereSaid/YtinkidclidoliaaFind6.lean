/-
  Package find by contract: try, Method, Face.
-/
import Derived.Test.YtinkidclidoliaaFind5
import Derived.Laws.EntriesVeiled
namespace Go.Proofs.Ytinkidclidoliaa
open Go.RowKit
set_option maxRecDepth 100000

theorem way_ifc {w : World} {g : Nat} (h : Blk w g 65 #[.func (.func 51) #[] #[], .func (.func 52) #[] #[], .func (.func 48) #[] #[], .func (.func 49) #[] #[]]) : w.cell? ⟨g, 0, none⟩ = some (.func (.func 51) #[] #[]) ∧ w.cell? ⟨g, 1, none⟩ = some (.func (.func 52) #[] #[]) ∧ w.cell? ⟨g, 2, none⟩ = some (.func (.func 48) #[] #[]) ∧ w.cell? ⟨g, 3, none⟩ = some (.func (.func 49) #[] #[]) := by
  refine ⟨?_, ?_, ?_, ?_⟩ <;> (rw [h.cell]; rfl)
set_option maxHeartbeats 4000000 in
theorem try_ifc (D : List TD) (c n d : ByteArray) (v : Value) (g : Nat) (w : World) (h : TyR w v D) (hs : c.size ≤ maxLen) (hg : Blk w g 65 #[.func (.func 51) #[] #[], .func (.func 52) #[] #[], .func (.func 48) #[] #[], .func (.func 49) #[] #[]]) :
    Calls Try.prog 46 #[v, .agg #[.string c, .string n, .string d], .bool true, .slice (some ⟨g, 0, none⟩) 4 4] w fun e w' => e = .returned (resV (tryR D c true (ifcF D c n d))) ∧ Kept w w' := by
  have H := Lib.hid h
  have HS := Lib.hid hs
  have HG := Lib.hid hg
  obtain ⟨ad, cd, rfl, hcd1, hcd2⟩ := h.slice
  have hDl := h.len
  have k0 : Kept w ((w.alloc (.cells #[.string c, .string n, .string d] 24)).alloc (.cells #[.string ⟨#[]⟩, .int .i64 0] 30)) := ((Below.refl _ _).alloc (Nat.le_refl _) _).alloc (by simp) _
  have b0 : Blk ((w.alloc (.cells #[.string c, .string n, .string d] 24)).alloc (.cells #[.string ⟨#[]⟩, .int .i64 0] 30)) w.heap.size 24 #[.string c, .string n, .string d] := (Blk.new w _ _).alloc _
  have b1 : Blk ((w.alloc (.cells #[.string c, .string n, .string d] 24)).alloc (.cells #[.string ⟨#[]⟩, .int .i64 0] 30)) (w.heap.size + 1) 30 #[.string ⟨#[]⟩, .int .i64 0] := Blk.at_ (by simp)
  have zz : w.heap.size + 1 < ((w.alloc (.cells #[.string c, .string n, .string d] 24)).alloc (.cells #[.string ⟨#[]⟩, .int .i64 0] 30)).heap.size := by simp
  have K0 := Lib.hid k0
  have B0 := Lib.hid b0
  have B1 := Lib.hid b1
  have CA := kin_At D c _ _ (h.kept k0)
  clear h hs k0 b0 b1 hg
  cases ho : atO D c with
  | none =>
    have hr : tryR D c true (ifcF D c n d) = (f0, nmB) := try_no ho
    have HF := Lib.hid (congrArg resV hr)
    rw [atI_none ho] at CA
    have HC := Lib.hid CA
    clear ho hr CA
    go_enter Try.func46, Try.ntmps46
    go_wp2_with fail
    refine HC.out.mono ?_
    rintro e w1 ⟨rfl, rfl⟩
    clear HC
    generalize ((w.alloc (.cells #[.string c, .string n, .string d] 24)).alloc (.cells #[.string ⟨#[]⟩, .int .i64 0] 30)) = W at *
    have kw : Kept W W := Below.refl _ _
    have PF := fnd_put (B1.out.kept kw)
    have KP := Lib.hid (PF.keeps (Kept.trans K0.out kw) (Nat.le_succ _))
    have g0 := PF.g0
    have g1 := PF.g1
    have h0 := PF.h0
    have h1 := PF.h1
    have zr := PF.lt
    have PF := Lib.hid PF
    have E0 := Lib.hid (PF.out.e0 (.string ⟨#[]⟩))
    have E1 := Lib.hid (PF.out.e1 (.string ⟨#[]⟩) (.int .i64 0))
    have PE := Lib.hid (fnd_put (PF.out.set (.string ⟨#[]⟩) (.int .i64 0)))
    clear kw
    go_wp2_with fail
    refine bodyPost_ret (v := resV (tryR D c true (ifcF D c n d))) (by rw [HF.out]; simp [results, Try.results46, go_sem, E0.out, E1.out, PE.out.g0, PE.out.g1, resV, lookR, f0, nmB, chB]) rfl ⟨rfl, ?_⟩
    exact KP.out _ _
  | some ka =>
    obtain ⟨t, ht, htn, hkl⟩ := atO_some ho
    have hacc := accT_at ho ht
    obtain ⟨b, off, cc, iv, fv, mv, hv, -, -, x2, -⟩ := (H.out.kept K0.out).cells ht
    simp only [Value.slice.injEq] at hv
    obtain ⟨rfl, -, rfl⟩ := hv
    have hki : (ka : Int) < (D.length : Int) := by omega
    have hk0 : (0 : Int) ≤ (ka : Int) := by omega
    rw [atI_some ho] at CA
    have HC := Lib.hid CA
    clear CA ht htn hkl
    go_enter Try.func46, Try.ntmps46
    go_wp2_with fail
    refine HC.out.mono ?_
    rintro e w1 ⟨rfl, rfl⟩
    clear HC
    generalize ((w.alloc (.cells #[.string c, .string n, .string d] 24)).alloc (.cells #[.string ⟨#[]⟩, .int .i64 0] 30)) = W at *
    have kw : Kept W W := Below.refl _ _
    have hft : faceT D c = (bits .and .i64 t.access 512 != 0) := by unfold faceT; rw [hacc]
    cases hb : (bits .and .i64 t.access 512 != 0) with
    | false =>
      have hr : tryR D c true (ifcF D c n d) = (f0, chB) := try_ch ho (by rw [hft, hb]; decide)
      have HF := Lib.hid (congrArg resV hr)
      have PF := fnd_put (B1.out.kept kw)
      have KP := Lib.hid (PF.keeps (Kept.trans K0.out kw) (Nat.le_succ _))
      have g0 := PF.g0
      have g1 := PF.g1
      have h0 := PF.h0
      have h1 := PF.h1
      have zr := PF.lt
      have PF := Lib.hid PF
      have E0 := Lib.hid (PF.out.e0 (.string ⟨#[]⟩))
      have E1 := Lib.hid (PF.out.e1 (.string ⟨#[]⟩) (.int .i64 0))
      have PE := Lib.hid (fnd_put (PF.out.set (.string ⟨#[]⟩) (.int .i64 0)))
      clear kw hr hft ho hacc
      go_wp2_with fail
      refine bodyPost_ret (v := resV (tryR D c true (ifcF D c n d))) (by rw [HF.out]; simp [results, Try.results46, go_sem, E0.out, E1.out, PE.out.g0, PE.out.g1, resV, lookR, f0, nmB, chB]) rfl ⟨rfl, ?_⟩
      exact KP.out _ _
    | true =>
      have hr : tryR D c true (ifcF D c n d) = lookR (ifcF D c n d) := try_go ho (by rw [hft, hb])
      have HF := Lib.hid (congrArg resV hr)
      clear hr hft ho hacc kw
      go_wp2_with fail
      go_loopw [36] (fun s36 wr => ∃ k : Nat, k ≤ 4 ∧ s36 = .int .i64 k ∧ (0 < k → ownF D c n d = none) ∧ (1 < k → objF D c n d = none) ∧ (2 < k → sglF D c n d = none) ∧ (3 < k → fstF D c n d = none) ∧ Kept W wr) (fun s36 _ => 4 - (intOf s36).toNat)
      case atStart => exact ⟨0, by omega, rfl, fun h => (by omega), fun h => (by omega), fun h => (by omega), fun h => (by omega), Below.refl _ _⟩
      case round =>
        obtain ⟨k, hk, rfl, c0, c1, c2, c3, hK⟩ := hrel
        rename World => wr
        obtain ⟨y0, y1, y2, y3⟩ := way_ifc (HG.out.kept (Kept.trans K0.out hK))
        have bb := B0.out.kept hK
        have q0 := bb.cell 0
        have q1 := bb.cell 1
        have q2 := bb.cell 2
        simp only [List.getElem?_toArray, List.getElem?_cons_succ, List.getElem?_cons_zero] at q0 q1 q2
        have zl0 : w.heap.size < wr.heap.size := bb.lt
        have zn0 : ¬ (w.heap.size = wr.heap.size) := by omega
        have zs := hK.size
        have HK := Lib.hid hK
        clear bb
        rcases (by omega : k = 0 ∨ k = 1 ∨ k = 2 ∨ k = 3 ∨ k = 4) with rfl | rfl | rfl | rfl | rfl
        · have CM := Lib.hid (find_own D c n d (.slice (some ⟨b, off, none⟩) D.length cd) (wr.alloc (.cells #[.func (.func 51) #[] #[]] 65)) (H.out.kept (Kept.trans K0.out (HK.out.alloc zs _))) HS.out)
          have KA := Lib.hid (HK.out.alloc zs (.cells #[.func (.func 51) #[] #[]] 65))
          clear hK
          cases hc : ownF D c n d with
          | none =>
            rw [hc] at CM
            unfold foV at CM
            have HX := Lib.hid hc
            clear hc
            go_wp2_with fail
            refine CM.out.mono ?_
            rintro e w4 ⟨rfl, k4⟩
            have K4 := Lib.hid (Kept.trans KA.out k4)
            have z4 := K4.out.size
            clear k4
            go_wp2_with fail
            go_roundw
            case rel => exact ⟨1, by omega, by first | rfl | go_num, fun _ => by first | exact HX.out | trivial, fun h => absurd h (by omega), fun h => absurd h (by omega), fun h => absurd h (by omega), K4.out.alloc z4 _⟩
            case measure => simp [intOf]
          | some f =>
            have hfo : ifcF D c n d = some f := by unfold ifcF; simp [hc]
            have HF := Lib.hid (HF.out.trans (congrArg (fun o => resV (lookR o)) hfo))
            rw [hc] at CM
            unfold foV at CM
            clear hc hfo
            go_wp2_with fail
            refine CM.out.mono ?_
            rintro e w4 ⟨rfl, k4⟩
            have kw := Kept.trans KA.out k4
            have z4 := kw.size
            have PF := fnd_put (B1.out.kept kw)
            have KP := Lib.hid (PF.keeps (Kept.trans K0.out kw) (Nat.le_succ _))
            have g0 := PF.g0
            have g1 := PF.g1
            have h0 := PF.h0
            have h1 := PF.h1
            have zr := PF.lt
            have PF := Lib.hid PF
            have E0 := Lib.hid (PF.out.e0 (.string f.1))
            have E1 := Lib.hid (PF.out.e1 (.string f.1) (.int .i64 f.2))
            have PE := Lib.hid ((fnd_put (PF.out.set (.string f.1) (.int .i64 f.2))).alloc (.cells #[.string f.1, .int .i64 f.2] 30))
            have zn : ¬ (w.heap.size + 1 = w4.heap.size) := by omega
            clear k4 kw
            go_wp2_with fail
            refine bodyPost_ret (v := resV (tryR D c true (ifcF D c n d))) (by rw [HF.out]; simp [results, Try.results46, go_sem, E0.out, E1.out, PE.out.g0, PE.out.g1, resV, lookR, f0, nmB, chB]) rfl ⟨rfl, ?_⟩
            exact (KP.out _ _).alloc (by simp; omega) _
        · have CM := Lib.hid (find_objects D c n d (.slice (some ⟨b, off, none⟩) D.length cd) (wr.alloc (.cells #[.func (.func 52) #[] #[]] 65)) (H.out.kept (Kept.trans K0.out (HK.out.alloc zs _))) HS.out)
          have KA := Lib.hid (HK.out.alloc zs (.cells #[.func (.func 52) #[] #[]] 65))
          clear hK
          have c0 := Lib.hid (c0 (by omega))
          cases hc : objF D c n d with
          | none =>
            rw [hc] at CM
            unfold foV at CM
            have HX := Lib.hid hc
            clear hc
            go_wp2_with fail
            refine CM.out.mono ?_
            rintro e w4 ⟨rfl, k4⟩
            have K4 := Lib.hid (Kept.trans KA.out k4)
            have z4 := K4.out.size
            clear k4
            go_wp2_with fail
            go_roundw
            case rel => exact ⟨2, by omega, by first | rfl | go_num, fun _ => c0.out, fun _ => by first | exact HX.out | trivial, fun h => absurd h (by omega), fun h => absurd h (by omega), K4.out.alloc z4 _⟩
            case measure => simp [intOf]
          | some f =>
            have hfo : ifcF D c n d = some f := by unfold ifcF; simp [c0.out, hc]
            have HF := Lib.hid (HF.out.trans (congrArg (fun o => resV (lookR o)) hfo))
            rw [hc] at CM
            unfold foV at CM
            clear hc hfo
            go_wp2_with fail
            refine CM.out.mono ?_
            rintro e w4 ⟨rfl, k4⟩
            have kw := Kept.trans KA.out k4
            have z4 := kw.size
            have PF := fnd_put (B1.out.kept kw)
            have KP := Lib.hid (PF.keeps (Kept.trans K0.out kw) (Nat.le_succ _))
            have g0 := PF.g0
            have g1 := PF.g1
            have h0 := PF.h0
            have h1 := PF.h1
            have zr := PF.lt
            have PF := Lib.hid PF
            have E0 := Lib.hid (PF.out.e0 (.string f.1))
            have E1 := Lib.hid (PF.out.e1 (.string f.1) (.int .i64 f.2))
            have PE := Lib.hid ((fnd_put (PF.out.set (.string f.1) (.int .i64 f.2))).alloc (.cells #[.string f.1, .int .i64 f.2] 30))
            have zn : ¬ (w.heap.size + 1 = w4.heap.size) := by omega
            clear k4 kw
            go_wp2_with fail
            refine bodyPost_ret (v := resV (tryR D c true (ifcF D c n d))) (by rw [HF.out]; simp [results, Try.results46, go_sem, E0.out, E1.out, PE.out.g0, PE.out.g1, resV, lookR, f0, nmB, chB]) rfl ⟨rfl, ?_⟩
            exact (KP.out _ _).alloc (by simp; omega) _
        · have CM := Lib.hid (find_single D c n d (.slice (some ⟨b, off, none⟩) D.length cd) (wr.alloc (.cells #[.func (.func 48) #[] #[]] 65)) (H.out.kept (Kept.trans K0.out (HK.out.alloc zs _))) HS.out)
          have KA := Lib.hid (HK.out.alloc zs (.cells #[.func (.func 48) #[] #[]] 65))
          clear hK
          have c0 := Lib.hid (c0 (by omega))
          have c1 := Lib.hid (c1 (by omega))
          cases hc : sglF D c n d with
          | none =>
            rw [hc] at CM
            unfold foV at CM
            have HX := Lib.hid hc
            clear hc
            go_wp2_with fail
            refine CM.out.mono ?_
            rintro e w4 ⟨rfl, k4⟩
            have K4 := Lib.hid (Kept.trans KA.out k4)
            have z4 := K4.out.size
            clear k4
            go_wp2_with fail
            go_roundw
            case rel => exact ⟨3, by omega, by first | rfl | go_num, fun _ => c0.out, fun _ => c1.out, fun _ => by first | exact HX.out | trivial, fun h => absurd h (by omega), K4.out.alloc z4 _⟩
            case measure => simp [intOf]
          | some f =>
            have hfo : ifcF D c n d = some f := by unfold ifcF; simp [c0.out, c1.out, hc]
            have HF := Lib.hid (HF.out.trans (congrArg (fun o => resV (lookR o)) hfo))
            rw [hc] at CM
            unfold foV at CM
            clear hc hfo
            go_wp2_with fail
            refine CM.out.mono ?_
            rintro e w4 ⟨rfl, k4⟩
            have kw := Kept.trans KA.out k4
            have z4 := kw.size
            have PF := fnd_put (B1.out.kept kw)
            have KP := Lib.hid (PF.keeps (Kept.trans K0.out kw) (Nat.le_succ _))
            have g0 := PF.g0
            have g1 := PF.g1
            have h0 := PF.h0
            have h1 := PF.h1
            have zr := PF.lt
            have PF := Lib.hid PF
            have E0 := Lib.hid (PF.out.e0 (.string f.1))
            have E1 := Lib.hid (PF.out.e1 (.string f.1) (.int .i64 f.2))
            have PE := Lib.hid ((fnd_put (PF.out.set (.string f.1) (.int .i64 f.2))).alloc (.cells #[.string f.1, .int .i64 f.2] 30))
            have zn : ¬ (w.heap.size + 1 = w4.heap.size) := by omega
            clear k4 kw
            go_wp2_with fail
            refine bodyPost_ret (v := resV (tryR D c true (ifcF D c n d))) (by rw [HF.out]; simp [results, Try.results46, go_sem, E0.out, E1.out, PE.out.g0, PE.out.g1, resV, lookR, f0, nmB, chB]) rfl ⟨rfl, ?_⟩
            exact (KP.out _ _).alloc (by simp; omega) _
        · have CM := Lib.hid (find_first D c n d (.slice (some ⟨b, off, none⟩) D.length cd) (wr.alloc (.cells #[.func (.func 49) #[] #[]] 65)) (H.out.kept (Kept.trans K0.out (HK.out.alloc zs _))) HS.out)
          have KA := Lib.hid (HK.out.alloc zs (.cells #[.func (.func 49) #[] #[]] 65))
          clear hK
          have c0 := Lib.hid (c0 (by omega))
          have c1 := Lib.hid (c1 (by omega))
          have c2 := Lib.hid (c2 (by omega))
          cases hc : fstF D c n d with
          | none =>
            rw [hc] at CM
            unfold foV at CM
            have HX := Lib.hid hc
            clear hc
            go_wp2_with fail
            refine CM.out.mono ?_
            rintro e w4 ⟨rfl, k4⟩
            have K4 := Lib.hid (Kept.trans KA.out k4)
            have z4 := K4.out.size
            clear k4
            go_wp2_with fail
            go_roundw
            case rel => exact ⟨4, by omega, by first | rfl | go_num, fun _ => c0.out, fun _ => c1.out, fun _ => c2.out, fun _ => by first | exact HX.out | trivial, K4.out.alloc z4 _⟩
            case measure => simp [intOf]
          | some f =>
            have hfo : ifcF D c n d = some f := by unfold ifcF; simp [c0.out, c1.out, c2.out, hc]
            have HF := Lib.hid (HF.out.trans (congrArg (fun o => resV (lookR o)) hfo))
            rw [hc] at CM
            unfold foV at CM
            clear hc hfo
            go_wp2_with fail
            refine CM.out.mono ?_
            rintro e w4 ⟨rfl, k4⟩
            have kw := Kept.trans KA.out k4
            have z4 := kw.size
            have PF := fnd_put (B1.out.kept kw)
            have KP := Lib.hid (PF.keeps (Kept.trans K0.out kw) (Nat.le_succ _))
            have g0 := PF.g0
            have g1 := PF.g1
            have h0 := PF.h0
            have h1 := PF.h1
            have zr := PF.lt
            have PF := Lib.hid PF
            have E0 := Lib.hid (PF.out.e0 (.string f.1))
            have E1 := Lib.hid (PF.out.e1 (.string f.1) (.int .i64 f.2))
            have PE := Lib.hid ((fnd_put (PF.out.set (.string f.1) (.int .i64 f.2))).alloc (.cells #[.string f.1, .int .i64 f.2] 30))
            have zn : ¬ (w.heap.size + 1 = w4.heap.size) := by omega
            clear k4 kw
            go_wp2_with fail
            refine bodyPost_ret (v := resV (tryR D c true (ifcF D c n d))) (by rw [HF.out]; simp [results, Try.results46, go_sem, E0.out, E1.out, PE.out.g0, PE.out.g1, resV, lookR, f0, nmB, chB]) rfl ⟨rfl, ?_⟩
            exact (KP.out _ _).alloc (by simp; omega) _
        · have hfo : ifcF D c n d = none := by unfold ifcF; simp [c0 (by omega), c1 (by omega), c2 (by omega), c3 (by omega)]
          have HF := Lib.hid (HF.out.trans (congrArg (fun o => resV (lookR o)) hfo))
          have kw := hK
          have PF := fnd_put (B1.out.kept kw)
          have KP := Lib.hid (PF.keeps (Kept.trans K0.out kw) (Nat.le_succ _))
          have g0 := PF.g0
          have g1 := PF.g1
          have h0 := PF.h0
          have h1 := PF.h1
          have zr := PF.lt
          have PF := Lib.hid PF
          have E0 := Lib.hid (PF.out.e0 (.string ⟨#[]⟩))
          have E1 := Lib.hid (PF.out.e1 (.string ⟨#[]⟩) (.int .i64 0))
          have PE := Lib.hid (fnd_put (PF.out.set (.string ⟨#[]⟩) (.int .i64 0)))
          clear hfo kw hK
          go_wp2_with fail
          refine bodyPost_ret (v := resV (tryR D c true (ifcF D c n d))) (by rw [HF.out]; simp [results, Try.results46, go_sem, E0.out, E1.out, PE.out.g0, PE.out.g1, resV, lookR, f0, nmB, chB]) rfl ⟨rfl, ?_⟩
          exact KP.out _ _
end Go.Proofs.Ytinkidclidoliaa
