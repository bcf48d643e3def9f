/-
  Package find by contract: try, Method, Face.
-/
import Derived.Test.YtccbdnlknijcbaaFind4
import Derived.Laws.EntriesVeiled
namespace Go.Proofs.Ytccbdnlknijcbaa
open Go.RowKit
set_option maxRecDepth 100000

def nmB : ByteArray := ⟨#[106, 97, 118, 97, 47, 108, 97, 110, 103, 47, 78, 111, 83, 117, 99, 104, 77, 101, 116, 104, 111, 100, 69, 114, 114, 111, 114]⟩
def chB : ByteArray := ⟨#[106, 97, 118, 97, 47, 108, 97, 110, 103, 47, 73, 110, 99, 111, 109, 112, 97, 116, 105, 98, 108, 101, 67, 108, 97, 115, 115, 67, 104, 97, 110, 103, 101, 69, 114, 114, 111, 114]⟩
/-- What a search tells: a found, an error. -/
def resV (r : FV × ByteArray) : Value := .tuple #[.agg #[.string r.1.1, .int .i64 r.1.2], .string r.2]
def lookR (o : Option FV) : FV × ByteArray := match o with
  | some f => (f, ⟨#[]⟩)
  | none => (f0, nmB)
def accT (D : List TD) (s : ByteArray) : Int := match atO D s with
  | some k => (D[k]?.map (·.access)).getD 0
  | none => 0
theorem accT_at {D : List TD} {s : ByteArray} {k : Nat} {t : TD} (h : atO D s = some k) (ht : D[k]? = some t) : accT D s = t.access := by simp [accT, h, ht]
def faceT (D : List TD) (s : ByteArray) : Bool := bits .and .i64 (accT D s) 512 != 0
def clsF (D : List TD) (c n d : ByteArray) : Option FV := (chF D c n d).or ((sglF D c n d).or (fstF D c n d))
def ifcF (D : List TD) (c n d : ByteArray) : Option FV := (ownF D c n d).or ((objF D c n d).or ((sglF D c n d).or (fstF D c n d)))
def tryR (D : List TD) (c : ByteArray) (face : Bool) (o : Option FV) : FV × ByteArray := if there D c then (if faceT D c = face then lookR o else (f0, chB)) else (f0, nmB)
def methR (D : List TD) (c n d : ByteArray) : FV × ByteArray := tryR D c false (clsF D c n d)
def faceR (D : List TD) (c n d : ByteArray) : FV × ByteArray := tryR D c true (ifcF D c n d)
theorem try_no {D : List TD} {c : ByteArray} {face : Bool} {o : Option FV} (h : atO D c = none) : tryR D c face o = (f0, nmB) := by simp [tryR, there, h]
theorem try_ch {D : List TD} {c : ByteArray} {face : Bool} {o : Option FV} {k : Nat} (h : atO D c = some k) (hf : faceT D c ≠ face) : tryR D c face o = (f0, chB) := by simp [tryR, there, h, hf]
theorem try_go {D : List TD} {c : ByteArray} {face : Bool} {o : Option FV} {k : Nat} (h : atO D c = some k) (hf : faceT D c = face) : tryR D c face o = lookR o := by simp [tryR, there, h, hf]

theorem way_cls {w : World} {g : Nat} (h : Blk w g 49 #[.func (.func 15) #[] #[], .func (.func 16) #[] #[], .func (.func 17) #[] #[]]) : w.cell? ⟨g, 0, none⟩ = some (.func (.func 15) #[] #[]) ∧ w.cell? ⟨g, 1, none⟩ = some (.func (.func 16) #[] #[]) ∧ w.cell? ⟨g, 2, none⟩ = some (.func (.func 17) #[] #[]) := by
  refine ⟨?_, ?_, ?_⟩ <;> (rw [h.cell]; rfl)
set_option maxHeartbeats 4000000 in
theorem try_cls (D : List TD) (c n d : ByteArray) (v : Value) (g : Nat) (w : World) (h : TyR w v D) (hs : c.size ≤ maxLen) (hg : Blk w g 49 #[.func (.func 15) #[] #[], .func (.func 16) #[] #[], .func (.func 17) #[] #[]]) :
    Calls Try.prog 14 #[v, .agg #[.string c, .string n, .string d], .bool false, .slice (some ⟨g, 0, none⟩) 3 3] w fun e w' => e = .returned (resV (tryR D c false (clsF D c n d))) ∧ Kept w w' := by
  have H := Lib.hid h
  have HS := Lib.hid hs
  have HG := Lib.hid hg
  obtain ⟨ad, cd, rfl, hcd1, hcd2⟩ := h.slice
  have hDl := h.len
  have k0 : Kept w ((w.alloc (.cells #[.string c, .string n, .string d] 33)).alloc (.cells #[.string ⟨#[]⟩, .int .i64 0] 37)) := ((Below.refl _ _).alloc (Nat.le_refl _) _).alloc (by simp) _
  have b0 : Blk ((w.alloc (.cells #[.string c, .string n, .string d] 33)).alloc (.cells #[.string ⟨#[]⟩, .int .i64 0] 37)) w.heap.size 33 #[.string c, .string n, .string d] := (Blk.new w _ _).alloc _
  have b1 : Blk ((w.alloc (.cells #[.string c, .string n, .string d] 33)).alloc (.cells #[.string ⟨#[]⟩, .int .i64 0] 37)) (w.heap.size + 1) 37 #[.string ⟨#[]⟩, .int .i64 0] := Blk.at_ (by simp)
  have zz : w.heap.size + 1 < ((w.alloc (.cells #[.string c, .string n, .string d] 33)).alloc (.cells #[.string ⟨#[]⟩, .int .i64 0] 37)).heap.size := by simp
  have K0 := Lib.hid k0
  have B0 := Lib.hid b0
  have B1 := Lib.hid b1
  have CA := kin_At D c _ _ (h.kept k0)
  clear h hs k0 b0 b1 hg
  cases ho : atO D c with
  | none =>
    have hr : tryR D c false (clsF D c n d) = (f0, nmB) := try_no ho
    have HF := Lib.hid (congrArg resV hr)
    rw [atI_none ho] at CA
    have HC := Lib.hid CA
    clear ho hr CA
    go_enter Try.func14, Try.ntmps14
    go_wp2_with fail
    refine HC.out.mono ?_
    rintro e w1 ⟨rfl, rfl⟩
    clear HC
    generalize ((w.alloc (.cells #[.string c, .string n, .string d] 33)).alloc (.cells #[.string ⟨#[]⟩, .int .i64 0] 37)) = W at *
    have kw : Kept W W := Below.refl _ _
    have PF := fnd_put (B1.out.kept kw)
    have KP := Lib.hid (PF.keeps (Kept.trans K0.out kw) (Nat.le_succ _))
    have g0 := PF.g0
    have g1 := PF.g1
    have h0 := PF.h0
    have h1 := PF.h1
    have zr := PF.lt
    have PF := Lib.hid PF
    have E0 := Lib.hid (PF.out.e0 (.string ⟨#[]⟩))
    have E1 := Lib.hid (PF.out.e1 (.string ⟨#[]⟩) (.int .i64 0))
    have PE := Lib.hid (fnd_put (PF.out.set (.string ⟨#[]⟩) (.int .i64 0)))
    clear kw
    go_wp2_with fail
    refine bodyPost_ret (v := resV (tryR D c false (clsF D c n d))) (by rw [HF.out]; simp [results, Try.results14, go_sem, E0.out, E1.out, PE.out.g0, PE.out.g1, resV, lookR, f0, nmB, chB]) rfl ⟨rfl, ?_⟩
    exact KP.out _ _
  | some ka =>
    obtain ⟨t, ht, htn, hkl⟩ := atO_some ho
    have hacc := accT_at ho ht
    obtain ⟨b, off, cc, iv, fv, mv, hv, -, -, x2, -⟩ := (H.out.kept K0.out).cells ht
    simp only [Value.slice.injEq] at hv
    obtain ⟨rfl, -, rfl⟩ := hv
    have hki : (ka : Int) < (D.length : Int) := by omega
    have hk0 : (0 : Int) ≤ (ka : Int) := by omega
    rw [atI_some ho] at CA
    have HC := Lib.hid CA
    clear CA ht htn hkl
    go_enter Try.func14, Try.ntmps14
    go_wp2_with fail
    refine HC.out.mono ?_
    rintro e w1 ⟨rfl, rfl⟩
    clear HC
    generalize ((w.alloc (.cells #[.string c, .string n, .string d] 33)).alloc (.cells #[.string ⟨#[]⟩, .int .i64 0] 37)) = W at *
    have kw : Kept W W := Below.refl _ _
    have hft : faceT D c = (bits .and .i64 t.access 512 != 0) := by unfold faceT; rw [hacc]
    cases hb : (bits .and .i64 t.access 512 != 0) with
    | true =>
      have hr : tryR D c false (clsF D c n d) = (f0, chB) := try_ch ho (by rw [hft, hb]; decide)
      have HF := Lib.hid (congrArg resV hr)
      have PF := fnd_put (B1.out.kept kw)
      have KP := Lib.hid (PF.keeps (Kept.trans K0.out kw) (Nat.le_succ _))
      have g0 := PF.g0
      have g1 := PF.g1
      have h0 := PF.h0
      have h1 := PF.h1
      have zr := PF.lt
      have PF := Lib.hid PF
      have E0 := Lib.hid (PF.out.e0 (.string ⟨#[]⟩))
      have E1 := Lib.hid (PF.out.e1 (.string ⟨#[]⟩) (.int .i64 0))
      have PE := Lib.hid (fnd_put (PF.out.set (.string ⟨#[]⟩) (.int .i64 0)))
      clear kw hr hft ho hacc
      go_wp2_with fail
      refine bodyPost_ret (v := resV (tryR D c false (clsF D c n d))) (by rw [HF.out]; simp [results, Try.results14, go_sem, E0.out, E1.out, PE.out.g0, PE.out.g1, resV, lookR, f0, nmB, chB]) rfl ⟨rfl, ?_⟩
      exact KP.out _ _
    | false =>
      have hr : tryR D c false (clsF D c n d) = lookR (clsF D c n d) := try_go ho (by rw [hft, hb])
      have HF := Lib.hid (congrArg resV hr)
      clear hr hft ho hacc kw
      go_wp2_with fail
      go_loopw [36] (fun s36 wr => ∃ k : Nat, k ≤ 3 ∧ s36 = .int .i64 k ∧ (0 < k → chF D c n d = none) ∧ (1 < k → sglF D c n d = none) ∧ (2 < k → fstF D c n d = none) ∧ Kept W wr) (fun s36 _ => 3 - (intOf s36).toNat)
      case atStart => exact ⟨0, by omega, rfl, fun h => (by omega), fun h => (by omega), fun h => (by omega), Below.refl _ _⟩
      case round =>
        obtain ⟨k, hk, rfl, c0, c1, c2, hK⟩ := hrel
        rename World => wr
        obtain ⟨y0, y1, y2⟩ := way_cls (HG.out.kept (Kept.trans K0.out hK))
        have bb := B0.out.kept hK
        have q0 := bb.cell 0
        have q1 := bb.cell 1
        have q2 := bb.cell 2
        simp only [List.getElem?_toArray, List.getElem?_cons_succ, List.getElem?_cons_zero] at q0 q1 q2
        have zl0 : w.heap.size < wr.heap.size := bb.lt
        have zn0 : ¬ (w.heap.size = wr.heap.size) := by omega
        have zs := hK.size
        have HK := Lib.hid hK
        clear bb
        rcases (by omega : k = 0 ∨ k = 1 ∨ k = 2 ∨ k = 3) with rfl | rfl | rfl | rfl
        · have CM := Lib.hid (find_chained D c n d (.slice (some ⟨b, off, none⟩) D.length cd) (wr.alloc (.cells #[.func (.func 15) #[] #[]] 49)) (H.out.kept (Kept.trans K0.out (HK.out.alloc zs _))) HS.out)
          have KA := Lib.hid (HK.out.alloc zs (.cells #[.func (.func 15) #[] #[]] 49))
          clear hK
          cases hc : chF D c n d with
          | none =>
            rw [hc] at CM
            unfold foV at CM
            have HX := Lib.hid hc
            clear hc
            go_wp2_with fail
            refine CM.out.mono ?_
            rintro e w4 ⟨rfl, k4⟩
            have K4 := Lib.hid (Kept.trans KA.out k4)
            have z4 := K4.out.size
            clear k4
            go_wp2_with fail
            go_roundw
            case rel => exact ⟨1, by omega, by first | rfl | go_num, fun _ => by first | exact HX.out | trivial, fun h => absurd h (by omega), fun h => absurd h (by omega), K4.out.alloc z4 _⟩
            case measure => simp [intOf]
          | some f =>
            have hfo : clsF D c n d = some f := by unfold clsF; simp [hc]
            have HF := Lib.hid (HF.out.trans (congrArg (fun o => resV (lookR o)) hfo))
            rw [hc] at CM
            unfold foV at CM
            clear hc hfo
            go_wp2_with fail
            refine CM.out.mono ?_
            rintro e w4 ⟨rfl, k4⟩
            have kw := Kept.trans KA.out k4
            have z4 := kw.size
            have PF := fnd_put (B1.out.kept kw)
            have KP := Lib.hid (PF.keeps (Kept.trans K0.out kw) (Nat.le_succ _))
            have g0 := PF.g0
            have g1 := PF.g1
            have h0 := PF.h0
            have h1 := PF.h1
            have zr := PF.lt
            have PF := Lib.hid PF
            have E0 := Lib.hid (PF.out.e0 (.string f.1))
            have E1 := Lib.hid (PF.out.e1 (.string f.1) (.int .i64 f.2))
            have PE := Lib.hid ((fnd_put (PF.out.set (.string f.1) (.int .i64 f.2))).alloc (.cells #[.string f.1, .int .i64 f.2] 37))
            have zn : ¬ (w.heap.size + 1 = w4.heap.size) := by omega
            clear k4 kw
            go_wp2_with fail
            refine bodyPost_ret (v := resV (tryR D c false (clsF D c n d))) (by rw [HF.out]; simp [results, Try.results14, go_sem, E0.out, E1.out, PE.out.g0, PE.out.g1, resV, lookR, f0, nmB, chB]) rfl ⟨rfl, ?_⟩
            exact (KP.out _ _).alloc (by simp; omega) _
        · have CM := Lib.hid (find_single D c n d (.slice (some ⟨b, off, none⟩) D.length cd) (wr.alloc (.cells #[.func (.func 16) #[] #[]] 49)) (H.out.kept (Kept.trans K0.out (HK.out.alloc zs _))) HS.out)
          have KA := Lib.hid (HK.out.alloc zs (.cells #[.func (.func 16) #[] #[]] 49))
          clear hK
          have c0 := Lib.hid (c0 (by omega))
          cases hc : sglF D c n d with
          | none =>
            rw [hc] at CM
            unfold foV at CM
            have HX := Lib.hid hc
            clear hc
            go_wp2_with fail
            refine CM.out.mono ?_
            rintro e w4 ⟨rfl, k4⟩
            have K4 := Lib.hid (Kept.trans KA.out k4)
            have z4 := K4.out.size
            clear k4
            go_wp2_with fail
            go_roundw
            case rel => exact ⟨2, by omega, by first | rfl | go_num, fun _ => c0.out, fun _ => by first | exact HX.out | trivial, fun h => absurd h (by omega), K4.out.alloc z4 _⟩
            case measure => simp [intOf]
          | some f =>
            have hfo : clsF D c n d = some f := by unfold clsF; simp [c0.out, hc]
            have HF := Lib.hid (HF.out.trans (congrArg (fun o => resV (lookR o)) hfo))
            rw [hc] at CM
            unfold foV at CM
            clear hc hfo
            go_wp2_with fail
            refine CM.out.mono ?_
            rintro e w4 ⟨rfl, k4⟩
            have kw := Kept.trans KA.out k4
            have z4 := kw.size
            have PF := fnd_put (B1.out.kept kw)
            have KP := Lib.hid (PF.keeps (Kept.trans K0.out kw) (Nat.le_succ _))
            have g0 := PF.g0
            have g1 := PF.g1
            have h0 := PF.h0
            have h1 := PF.h1
            have zr := PF.lt
            have PF := Lib.hid PF
            have E0 := Lib.hid (PF.out.e0 (.string f.1))
            have E1 := Lib.hid (PF.out.e1 (.string f.1) (.int .i64 f.2))
            have PE := Lib.hid ((fnd_put (PF.out.set (.string f.1) (.int .i64 f.2))).alloc (.cells #[.string f.1, .int .i64 f.2] 37))
            have zn : ¬ (w.heap.size + 1 = w4.heap.size) := by omega
            clear k4 kw
            go_wp2_with fail
            refine bodyPost_ret (v := resV (tryR D c false (clsF D c n d))) (by rw [HF.out]; simp [results, Try.results14, go_sem, E0.out, E1.out, PE.out.g0, PE.out.g1, resV, lookR, f0, nmB, chB]) rfl ⟨rfl, ?_⟩
            exact (KP.out _ _).alloc (by simp; omega) _
        · have CM := Lib.hid (find_first D c n d (.slice (some ⟨b, off, none⟩) D.length cd) (wr.alloc (.cells #[.func (.func 17) #[] #[]] 49)) (H.out.kept (Kept.trans K0.out (HK.out.alloc zs _))) HS.out)
          have KA := Lib.hid (HK.out.alloc zs (.cells #[.func (.func 17) #[] #[]] 49))
          clear hK
          have c0 := Lib.hid (c0 (by omega))
          have c1 := Lib.hid (c1 (by omega))
          cases hc : fstF D c n d with
          | none =>
            rw [hc] at CM
            unfold foV at CM
            have HX := Lib.hid hc
            clear hc
            go_wp2_with fail
            refine CM.out.mono ?_
            rintro e w4 ⟨rfl, k4⟩
            have K4 := Lib.hid (Kept.trans KA.out k4)
            have z4 := K4.out.size
            clear k4
            go_wp2_with fail
            go_roundw
            case rel => exact ⟨3, by omega, by first | rfl | go_num, fun _ => c0.out, fun _ => c1.out, fun _ => by first | exact HX.out | trivial, K4.out.alloc z4 _⟩
            case measure => simp [intOf]
          | some f =>
            have hfo : clsF D c n d = some f := by unfold clsF; simp [c0.out, c1.out, hc]
            have HF := Lib.hid (HF.out.trans (congrArg (fun o => resV (lookR o)) hfo))
            rw [hc] at CM
            unfold foV at CM
            clear hc hfo
            go_wp2_with fail
            refine CM.out.mono ?_
            rintro e w4 ⟨rfl, k4⟩
            have kw := Kept.trans KA.out k4
            have z4 := kw.size
            have PF := fnd_put (B1.out.kept kw)
            have KP := Lib.hid (PF.keeps (Kept.trans K0.out kw) (Nat.le_succ _))
            have g0 := PF.g0
            have g1 := PF.g1
            have h0 := PF.h0
            have h1 := PF.h1
            have zr := PF.lt
            have PF := Lib.hid PF
            have E0 := Lib.hid (PF.out.e0 (.string f.1))
            have E1 := Lib.hid (PF.out.e1 (.string f.1) (.int .i64 f.2))
            have PE := Lib.hid ((fnd_put (PF.out.set (.string f.1) (.int .i64 f.2))).alloc (.cells #[.string f.1, .int .i64 f.2] 37))
            have zn : ¬ (w.heap.size + 1 = w4.heap.size) := by omega
            clear k4 kw
            go_wp2_with fail
            refine bodyPost_ret (v := resV (tryR D c false (clsF D c n d))) (by rw [HF.out]; simp [results, Try.results14, go_sem, E0.out, E1.out, PE.out.g0, PE.out.g1, resV, lookR, f0, nmB, chB]) rfl ⟨rfl, ?_⟩
            exact (KP.out _ _).alloc (by simp; omega) _
        · have hfo : clsF D c n d = none := by unfold clsF; simp [c0 (by omega), c1 (by omega), c2 (by omega)]
          have HF := Lib.hid (HF.out.trans (congrArg (fun o => resV (lookR o)) hfo))
          have kw := hK
          have PF := fnd_put (B1.out.kept kw)
          have KP := Lib.hid (PF.keeps (Kept.trans K0.out kw) (Nat.le_succ _))
          have g0 := PF.g0
          have g1 := PF.g1
          have h0 := PF.h0
          have h1 := PF.h1
          have zr := PF.lt
          have PF := Lib.hid PF
          have E0 := Lib.hid (PF.out.e0 (.string ⟨#[]⟩))
          have E1 := Lib.hid (PF.out.e1 (.string ⟨#[]⟩) (.int .i64 0))
          have PE := Lib.hid (fnd_put (PF.out.set (.string ⟨#[]⟩) (.int .i64 0)))
          clear hfo kw hK
          go_wp2_with fail
          refine bodyPost_ret (v := resV (tryR D c false (clsF D c n d))) (by rw [HF.out]; simp [results, Try.results14, go_sem, E0.out, E1.out, PE.out.g0, PE.out.g1, resV, lookR, f0, nmB, chB]) rfl ⟨rfl, ?_⟩
          exact KP.out _ _
end Go.Proofs.Ytccbdnlknijcbaa
