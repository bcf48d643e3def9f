/-
  The document's own answer of chapter 13 by contract: name, Virtual, Face.
-/
import Derived.Test.YteblpdcedlaedaaCh6
import Derived.Test.YteblpdcedlaedaaCh5
namespace Go.Proofs.Yteblpdcedlaedaa
open Go.RowKit
set_option maxRecDepth 100000

structure RPut (w : World) (r : Nat) (u0 u1 u2 : Value) : Prop where
  e0 : (w.setCell ⟨r, 0, none⟩ u0).cell? ⟨r, 0, none⟩ = some u0
  e1 : ((w.setCell ⟨r, 0, none⟩ u0).setCell ⟨r, 1, none⟩ u1).cell? ⟨r, 1, none⟩ = some u1
  e2 : (((w.setCell ⟨r, 0, none⟩ u0).setCell ⟨r, 1, none⟩ u1).setCell ⟨r, 2, none⟩ u2).cell? ⟨r, 2, none⟩ = some u2
  blk : Blk (((w.setCell ⟨r, 0, none⟩ u0).setCell ⟨r, 1, none⟩ u1).setCell ⟨r, 2, none⟩ u2) r 44 #[u0, u1, u2]
theorem rput {w : World} {r : Nat} {a b c : Value} (h : Blk w r 44 #[a, b, c]) (u0 u1 u2 : Value) : RPut w r u0 u1 u2 := by
  have h0 := h.set_ 0 u0
  have h1 := h0.set_ 1 u1
  have h2 := h1.set_ 2 u2
  have c0 := h0.cell 0
  have c1 := h1.cell 1
  have c2 := h2.cell 2
  simp at c0 c1 c2 h2
  exact ⟨c0, c1, c2, h2⟩
theorem RPut.keeps {w0 w : World} {r : Nat} (hk : Kept w0 w) (hr : w0.heap.size ≤ r) (u0 u1 u2 : Value) : Kept w0 (((w.setCell ⟨r, 0, none⟩ u0).setCell ⟨r, 1, none⟩ u1).setCell ⟨r, 2, none⟩ u2) :=
  ((hk.setCell hr _).setCell hr _).setCell hr _
def nmNo : Value := .tuple #[.agg #[.string ⟨#[]⟩, .string ⟨#[]⟩, .string ⟨#[]⟩], .int .i64 0, .bool false]
def nmYes (fc : ByteArray) (m : MemberV) : Value := .tuple #[.agg #[.string fc, .string m.name, .string m.desc], .int .i64 m.access, .bool true]
def nmV (D : List TD) (cls fc : ByteArray) (fi : Int) : Value := if there D cls then (match memO D fc fi with
  | none => nmNo
  | some m => nmYes fc m) else nmNo
theorem memO_fnd {D : List TD} {fc : ByteArray} {fi : Int} {m : MemberV} (h : memO D fc fi = some m) : ∃ k : Nat, fi = (k : Int) ∧ Fnd D (fc, k) ∧ (metL D fc)[k]? = some m := by
  unfold memO at h
  split at h
  · rename_i h0
    obtain ⟨k, hk⟩ : ∃ k : Nat, fi = (k : Int) := ⟨fi.toNat, by omega⟩
    subst hk
    rw [Int.toNat_natCast] at h
    have hl := (List.getElem?_eq_some_iff.1 h).1
    refine ⟨k, rfl, ⟨?_, hl⟩, h⟩
    show there D fc
    unfold there
    cases ho : atO D fc with
    | some j => rfl
    | none => rw [metL_no ho] at hl; simp at hl
  · cases h

set_option maxHeartbeats 8000000 in
theorem ref13_name (D : List TD) (cls fc : ByteArray) (fi : Int) (v : Value) (w : World) (h : TyR w v D) :
    Calls Try.prog 32 #[v, .string cls, .agg #[.string fc, .int .i64 fi]] w fun e w' => e = .returned (nmV D cls fc fi) ∧ Kept w w' := by
  have H := Lib.hid h
  have k0 : Kept w ((w.alloc (.cells #[.string fc, .int .i64 fi] 24)).alloc (.cells #[.string ⟨#[]⟩, .string ⟨#[]⟩, .string ⟨#[]⟩] 44)) := ((Below.refl _ _).alloc (Nat.le_refl _) _).alloc (by simp) _
  have b0 : Blk ((w.alloc (.cells #[.string fc, .int .i64 fi] 24)).alloc (.cells #[.string ⟨#[]⟩, .string ⟨#[]⟩, .string ⟨#[]⟩] 44)) w.heap.size 24 #[.string fc, .int .i64 fi] := (Blk.new w _ _).alloc _
  have b1 : Blk ((w.alloc (.cells #[.string fc, .int .i64 fi] 24)).alloc (.cells #[.string ⟨#[]⟩, .string ⟨#[]⟩, .string ⟨#[]⟩] 44)) (w.heap.size + 1) 44 #[.string ⟨#[]⟩, .string ⟨#[]⟩, .string ⟨#[]⟩] := Blk.at_ (by simp)
  have CA := ref9_At D cls v ((w.alloc (.cells #[.string fc, .int .i64 fi] 24)).alloc (.cells #[.string ⟨#[]⟩, .string ⟨#[]⟩, .string ⟨#[]⟩] 44)) (h.kept k0)
  have CF := ref9_At D fc v ((w.alloc (.cells #[.string fc, .int .i64 fi] 24)).alloc (.cells #[.string ⟨#[]⟩, .string ⟨#[]⟩, .string ⟨#[]⟩] 44)) (h.kept k0)
  have K0 := Lib.hid k0
  have B1 := Lib.hid b1
  have q0 := b0.cell 0
  have q1 := b0.cell 1
  simp only [List.getElem?_toArray, List.getElem?_cons_succ, List.getElem?_cons_zero] at q0 q1
  have zq := b0.lt
  obtain ⟨av, cv, rfl, -, -⟩ := h.slice
  have NO : Hid (¬ there D cls ∨ memO D fc fi = none → nmV D cls fc fi = nmNo) := Lib.hid (by
    intro hn
    unfold nmV
    rcases hn with hn | hn
    · rw [if_neg hn]
    · rw [hn]; split <;> rfl)
  clear h k0 b0 b1
  cases hoc : atO D cls with
  | none =>
    rw [atI_none hoc] at CA
    have HN := Lib.hid (show ¬ there D cls ∨ memO D fc fi = none from .inl (by unfold there; rw [hoc]; simp))
    generalize atI D fc = ixf at *
    have CA := Lib.hid CA
    have CF := Lib.hid CF
    clear hoc
    go_enter Try.func32, Try.ntmps32
    go_upto_region 1 with fail
    generalize ((w.alloc (.cells #[.string fc, .int .i64 fi] 24)).alloc (.cells #[.string ⟨#[]⟩, .string ⟨#[]⟩, .string ⟨#[]⟩] 44)) = W at *
    go_wp2_with fail
    refine CA.out.mono ?_
    rintro e w1 ⟨rfl, rfl⟩
    go_wp2_with fail
    refine CF.out.mono ?_
    rintro e w1 ⟨rfl, rfl⟩
    clear CA CF
    go_wp2_with fail
    go_quiet (fail)
    rename_i nq
    have kx : Kept W (W.drewN nq) := kept_drewN (Below.refl _ _) nq
    generalize W.drewN nq = WX at *
    have BY := B1.out.kept kx
    have c0 := BY.cell 0
    have c1 := BY.cell 1
    have c2 := BY.cell 2
    simp only [List.getElem?_toArray, List.getElem?_cons_succ, List.getElem?_cons_zero] at c0 c1 c2
    have f0 := BY.frozen 0
    have f1 := BY.frozen 1
    have f2 := BY.frozen 2
    have bl := BY.lt
    have RP := rput BY (.string ⟨#[]⟩) (.string ⟨#[]⟩) (.string ⟨#[]⟩)
    have E0 := Lib.hid RP.e0
    have E1 := Lib.hid RP.e1
    have E2 := Lib.hid RP.e2
    have PB := RP.blk
    have KP := Lib.hid (RPut.keeps (Kept.trans K0.out kx) (Nat.le_succ w.heap.size) (.string ⟨#[]⟩) (.string ⟨#[]⟩) (.string ⟨#[]⟩))
    have z0 := PB.cell 0
    have z1 := PB.cell 1
    have z2 := PB.cell 2
    simp only [List.getElem?_toArray, List.getElem?_cons_succ, List.getElem?_cons_zero] at z0 z1 z2
    have Z0 := Lib.hid z0
    have Z1 := Lib.hid z1
    have Z2 := Lib.hid z2
    clear RP PB BY z0 z1 z2
    go_wp2_with fail
    refine bodyPost_ret (v := nmV D cls fc fi) (by rw [NO.out HN.out]; simp [results, Try.results32, go_sem, E0.out, E1.out, E2.out, Z0.out, Z1.out, Z2.out, nmNo, nmYes]) rfl ⟨rfl, ?_⟩
    exact KP.out
  | some kc =>
    rw [atI_some hoc] at CA
    have HTC := Lib.hid (show there D cls by unfold there; rw [hoc]; rfl)
    have hc0 : decide ((kc : Int) < 0) = false := by simp
    cases hof : atO D fc with
    | none =>
      rw [atI_none hof] at CF
      have HN := Lib.hid (show ¬ there D cls ∨ memO D fc fi = none from .inr (by unfold memO; rw [metL_no hof]; split <;> simp))
      have CA := Lib.hid CA
      have CF := Lib.hid CF
      clear hoc hof
      go_enter Try.func32, Try.ntmps32
      go_upto_region 1 with fail
      generalize ((w.alloc (.cells #[.string fc, .int .i64 fi] 24)).alloc (.cells #[.string ⟨#[]⟩, .string ⟨#[]⟩, .string ⟨#[]⟩] 44)) = W at *
      go_wp2_with fail
      refine CA.out.mono ?_
      rintro e w1 ⟨rfl, rfl⟩
      go_wp2_with fail
      refine CF.out.mono ?_
      rintro e w1 ⟨rfl, rfl⟩
      clear CA CF
      go_wp2_with fail
      go_quiet (fail)
      rename_i nq
      have kx : Kept W (W.drewN nq) := kept_drewN (Below.refl _ _) nq
      generalize W.drewN nq = WX at *
      have BY := B1.out.kept kx
      have c0 := BY.cell 0
      have c1 := BY.cell 1
      have c2 := BY.cell 2
      simp only [List.getElem?_toArray, List.getElem?_cons_succ, List.getElem?_cons_zero] at c0 c1 c2
      have f0 := BY.frozen 0
      have f1 := BY.frozen 1
      have f2 := BY.frozen 2
      have bl := BY.lt
      have RP := rput BY (.string ⟨#[]⟩) (.string ⟨#[]⟩) (.string ⟨#[]⟩)
      have E0 := Lib.hid RP.e0
      have E1 := Lib.hid RP.e1
      have E2 := Lib.hid RP.e2
      have PB := RP.blk
      have KP := Lib.hid (RPut.keeps (Kept.trans K0.out kx) (Nat.le_succ w.heap.size) (.string ⟨#[]⟩) (.string ⟨#[]⟩) (.string ⟨#[]⟩))
      have z0 := PB.cell 0
      have z1 := PB.cell 1
      have z2 := PB.cell 2
      simp only [List.getElem?_toArray, List.getElem?_cons_succ, List.getElem?_cons_zero] at z0 z1 z2
      have Z0 := Lib.hid z0
      have Z1 := Lib.hid z1
      have Z2 := Lib.hid z2
      clear RP PB BY z0 z1 z2
      go_wp2_with fail
      refine bodyPost_ret (v := nmV D cls fc fi) (by rw [NO.out HN.out]; simp [results, Try.results32, go_sem, E0.out, E1.out, E2.out, Z0.out, Z1.out, Z2.out, nmNo, nmYes]) rfl ⟨rfl, ?_⟩
      exact KP.out
    | some kf =>
      rw [atI_some hof] at CF
      obtain ⟨t, ht, -, hkl⟩ := atO_some hof
      have hmet := metL_at hof ht
      have HMET := Lib.hid hmet
      have hf0 : decide ((kf : Int) < 0) = false := by simp
      have hki : (kf : Int) < (D.length : Int) := by omega
      have hk0 : (0 : Int) ≤ (kf : Int) := by omega
      have HT := Lib.hid ht
      have CA := Lib.hid CA
      have CF := Lib.hid CF
      clear hoc hof ht hmet
      go_enter Try.func32, Try.ntmps32
      go_upto_region 1 with fail
      generalize ((w.alloc (.cells #[.string fc, .int .i64 fi] 24)).alloc (.cells #[.string ⟨#[]⟩, .string ⟨#[]⟩, .string ⟨#[]⟩] 44)) = W at *
      go_wp2_with fail
      refine CA.out.mono ?_
      rintro e w1 ⟨rfl, rfl⟩
      go_wp2_with fail
      refine CF.out.mono ?_
      rintro e w1 ⟨rfl, rfl⟩
      clear CA CF
      obtain ⟨tb, tof, tc, ia, ic, fa, fcp, ma, mc, hv2, -, -, -, -, -, x5, -, -, -, -, hm, hml⟩ := ty_row (H.out.kept K0.out) HT.out
      simp only [Value.slice.injEq] at hv2
      obtain ⟨rfl, -, rfl⟩ := hv2
      have HM := Lib.hid hm
      clear hm
      by_cases h0 : fi < 0
      · have HN := Lib.hid (show ¬ there D cls ∨ memO D fc fi = none from .inr (by unfold memO; rw [if_neg (by omega)]))
        have g1 : decide (fi < 0) = true := by simpa using h0
        go_wp2_with fail
        go_quiet (fail)
        rename_i nq
        have kx : Kept W (W.drewN nq) := kept_drewN (Below.refl _ _) nq
        clear x5 q0 q1 zq
        generalize W.drewN nq = WX at *
        have BY := B1.out.kept kx
        have c0 := BY.cell 0
        have c1 := BY.cell 1
        have c2 := BY.cell 2
        simp only [List.getElem?_toArray, List.getElem?_cons_succ, List.getElem?_cons_zero] at c0 c1 c2
        have f0 := BY.frozen 0
        have f1 := BY.frozen 1
        have f2 := BY.frozen 2
        have bl := BY.lt
        have RP := rput BY (.string ⟨#[]⟩) (.string ⟨#[]⟩) (.string ⟨#[]⟩)
        have E0 := Lib.hid RP.e0
        have E1 := Lib.hid RP.e1
        have E2 := Lib.hid RP.e2
        have PB := RP.blk
        have KP := Lib.hid (RPut.keeps (Kept.trans K0.out kx) (Nat.le_succ w.heap.size) (.string ⟨#[]⟩) (.string ⟨#[]⟩) (.string ⟨#[]⟩))
        have z0 := PB.cell 0
        have z1 := PB.cell 1
        have z2 := PB.cell 2
        simp only [List.getElem?_toArray, List.getElem?_cons_succ, List.getElem?_cons_zero] at z0 z1 z2
        have Z0 := Lib.hid z0
        have Z1 := Lib.hid z1
        have Z2 := Lib.hid z2
        clear RP PB BY z0 z1 z2
        go_wp2_with fail
        refine bodyPost_ret (v := nmV D cls fc fi) (by rw [NO.out HN.out]; simp [results, Try.results32, go_sem, E0.out, E1.out, E2.out, Z0.out, Z1.out, Z2.out, nmNo, nmYes]) rfl ⟨rfl, ?_⟩
        exact KP.out
      · have g1 : decide (fi < 0) = false := by simpa using h0
        obtain ⟨i, hi⟩ : ∃ i : Nat, fi = (i : Int) := ⟨fi.toNat, by omega⟩
        subst hi
        by_cases h1 : i < t.methods.length
        · obtain ⟨m, hmi⟩ : ∃ m, t.methods[i]? = some m := ⟨_, List.getElem?_eq_getElem h1⟩
          have HO := Lib.hid (show memO D fc (i : Int) = some m by unfold memO; rw [if_pos (by simp), HMET.out, Int.toNat_natCast]; exact hmi)
          obtain ⟨mb, mo, rfl, y0, y1, y2, y3, y4, yb, hi1, hi0⟩ := mem_all HM.out hmi
          have g2 : decide (t.methods.length ≤ i) = false := by simp; omega
          have g3 : ¬ (t.methods.length ≤ i) := by omega
          have MBX : Hid (0 = 0) := Lib.hid rfl
          clear hmi h0
          go_wp2_with fail
          go_quiet (fail)
          rename_i nq
          have kx : Kept W (W.drewN nq) := kept_drewN (Below.refl _ _) nq
          have x5 := Kept.cell kx x5
          have y0 := Kept.cell kx y0
          have y1 := Kept.cell kx y1
          have y2 := Kept.cell kx y2
          have y3 := Kept.cell kx y3
          have y4 := Kept.cell kx y4
          have q0 := Kept.cell kx q0
          have q1 := Kept.cell kx q1
          have zq := Nat.lt_of_lt_of_le zq kx.size
          have KX := Lib.hid kx
          clear kx
          generalize W.drewN nq = WX at *
          go_wp2_with fail
          have n0 := World.new_ne WX _ y0
          go_region_held2 (fun w' => w'.cell? ⟨tb, tof + kf * 6 + 5, none⟩ = some (.slice (some ⟨mb, mo, none⟩) t.methods.length mc) ∧ w'.cell? ⟨w.heap.size, 1, none⟩ = some (.int .i64 i) ∧ w'.cell? ⟨mb, mo + i * 5, none⟩ = some (.int .i64 m.access) ∧ w'.cell? ⟨mb, mo + i * 5 + 1, none⟩ = some (.string m.name) ∧ w'.cell? ⟨mb, mo + i * 5 + 2, none⟩ = some (.string m.desc) ∧ w'.cell? ⟨mb, mo + i * 5 + 3, none⟩ = some (.bool m.has) ∧ w'.cell? ⟨mb, mo + i * 5 + 4, none⟩ = some (.int .i64 m.value)) (go_keep) (fail)
          have ky : Kept WX ((WX.alloc (.cells #[.int .i64 m.access, .string m.name, .string m.desc, .bool m.has, .int .i64 m.value] 38)).drew) := ((Below.refl _ _).alloc (Nat.le_refl _) _).drew
          have bm : Blk ((WX.alloc (.cells #[.int .i64 m.access, .string m.name, .string m.desc, .bool m.has, .int .i64 m.value] 38)).drew) WX.heap.size 38 #[.int .i64 m.access, .string m.name, .string m.desc, .bool m.has, .int .i64 m.value] := Blk.new WX _ _
          have q0 := Kept.cell ky q0
          have zq := Nat.lt_of_lt_of_le zq ky.size
          have KY := Lib.hid (Kept.trans KX.out ky)
          clear ky x5 y0 y1 y2 y3 y4 q1
          obtain ⟨gm, hgm⟩ : ∃ g, g = WX.heap.size := ⟨_, rfl⟩
          rw [← hgm] at bm ⊢
          have hne1 : ¬ (gm = w.heap.size + 1) := by have := (B1.out.kept KX.out).lt; omega
          have hne2 : ¬ (w.heap.size + 1 = gm) := fun e => hne1 e.symm
          clear hgm
          go_upto_region 6 with fail
          generalize ((WX.alloc (.cells #[.int .i64 m.access, .string m.name, .string m.desc, .bool m.has, .int .i64 m.value] 38)).drew) = WY at *
          have m0 := bm.cell 0
          have m1 := bm.cell 1
          have m2 := bm.cell 2
          simp only [List.getElem?_toArray, List.getElem?_cons_succ, List.getElem?_cons_zero] at m0 m1 m2
          have ml := bm.lt
          clear bm
          have HNV := Lib.hid (show nmV D cls fc (i : Int) = nmYes fc m by unfold nmV; rw [if_pos HTC.out, HO.out])
          have BY := B1.out.kept KY.out
          have c0 := BY.cell 0
          have c1 := BY.cell 1
          have c2 := BY.cell 2
          simp only [List.getElem?_toArray, List.getElem?_cons_succ, List.getElem?_cons_zero] at c0 c1 c2
          have f0 := BY.frozen 0
          have f1 := BY.frozen 1
          have f2 := BY.frozen 2
          have bl := BY.lt
          have RP := rput BY (.string fc) (.string m.name) (.string m.desc)
          have E0 := Lib.hid RP.e0
          have E1 := Lib.hid RP.e1
          have E2 := Lib.hid RP.e2
          have PB := RP.blk
          have KP := Lib.hid (RPut.keeps (Kept.trans K0.out KY.out) (Nat.le_succ w.heap.size) (.string fc) (.string m.name) (.string m.desc))
          have z0 := PB.cell 0
          have z1 := PB.cell 1
          have z2 := PB.cell 2
          simp only [List.getElem?_toArray, List.getElem?_cons_succ, List.getElem?_cons_zero] at z0 z1 z2
          have Z0 := Lib.hid z0
          have Z1 := Lib.hid z1
          have Z2 := Lib.hid z2
          clear RP PB BY z0 z1 z2
          go_region_held2 (fun w' => w'.cell? ⟨w.heap.size, 0, none⟩ = some (.string fc) ∧ w'.cell? ⟨gm, 0, none⟩ = some (.int .i64 m.access) ∧ w'.cell? ⟨gm, 1, none⟩ = some (.string m.name) ∧ w'.cell? ⟨gm, 2, none⟩ = some (.string m.desc)) (go_keep) (fail)
          go_wp2_with fail
          refine bodyPost_ret (v := nmV D cls fc (i : Int)) (by rw [HNV.out]; simp [results, Try.results32, go_sem, E0.out, E1.out, E2.out, Z0.out, Z1.out, Z2.out, nmNo, nmYes]) rfl ⟨rfl, ?_⟩
          exact KP.out.drew
        · have HN := Lib.hid (show ¬ there D cls ∨ memO D fc (i : Int) = none from .inr (by unfold memO; rw [if_pos (by simp), HMET.out, Int.toNat_natCast]; exact List.getElem?_eq_none (by omega)))
          have g2 : decide (t.methods.length ≤ i) = true := by simp; omega
          have g3 : t.methods.length ≤ i := by omega
          clear h0
          go_wp2_with fail
          go_quiet (fail)
          rename_i nq
          have kx : Kept W (W.drewN nq) := kept_drewN (Below.refl _ _) nq
          clear x5 q0 q1 zq
          generalize W.drewN nq = WX at *
          have BY := B1.out.kept kx
          have c0 := BY.cell 0
          have c1 := BY.cell 1
          have c2 := BY.cell 2
          simp only [List.getElem?_toArray, List.getElem?_cons_succ, List.getElem?_cons_zero] at c0 c1 c2
          have f0 := BY.frozen 0
          have f1 := BY.frozen 1
          have f2 := BY.frozen 2
          have bl := BY.lt
          have RP := rput BY (.string ⟨#[]⟩) (.string ⟨#[]⟩) (.string ⟨#[]⟩)
          have E0 := Lib.hid RP.e0
          have E1 := Lib.hid RP.e1
          have E2 := Lib.hid RP.e2
          have PB := RP.blk
          have KP := Lib.hid (RPut.keeps (Kept.trans K0.out kx) (Nat.le_succ w.heap.size) (.string ⟨#[]⟩) (.string ⟨#[]⟩) (.string ⟨#[]⟩))
          have z0 := PB.cell 0
          have z1 := PB.cell 1
          have z2 := PB.cell 2
          simp only [List.getElem?_toArray, List.getElem?_cons_succ, List.getElem?_cons_zero] at z0 z1 z2
          have Z0 := Lib.hid z0
          have Z1 := Lib.hid z1
          have Z2 := Lib.hid z2
          clear RP PB BY z0 z1 z2
          go_wp2_with fail
          refine bodyPost_ret (v := nmV D cls fc (i : Int)) (by rw [NO.out HN.out]; simp [results, Try.results32, go_sem, E0.out, E1.out, E2.out, Z0.out, Z1.out, Z2.out, nmNo, nmYes]) rfl ⟨rfl, ?_⟩
          exact KP.out

set_option maxHeartbeats 8000000 in
theorem ref13_Virtual (D : List TD) (cls fc : ByteArray) (fi : Int) (v : Value) (w : World) (h : TyR w v D) (hcs : cls.size ≤ maxLen) :
    Calls Try.prog 14 #[v, .string cls, .agg #[.string fc, .int .i64 fi]] w fun e w' => e = .returned (resG (virtR D cls fc fi)) ∧ Kept w w' := by
  have H := Lib.hid h
  have HCS := Lib.hid hcs
  have k0 : Kept w ((w.alloc (.cells #[.string fc, .int .i64 fi] 24)).alloc (.cells #[.string ⟨#[]⟩, .int .i64 0] 24)) := ((Below.refl _ _).alloc (Nat.le_refl _) _).alloc (by simp) _
  have b0 : Blk ((w.alloc (.cells #[.string fc, .int .i64 fi] 24)).alloc (.cells #[.string ⟨#[]⟩, .int .i64 0] 24)) w.heap.size 24 #[.string fc, .int .i64 fi] := (Blk.new w _ _).alloc _
  have b1 : Blk ((w.alloc (.cells #[.string fc, .int .i64 fi] 24)).alloc (.cells #[.string ⟨#[]⟩, .int .i64 0] 24)) (w.heap.size + 1) 24 #[.string ⟨#[]⟩, .int .i64 0] := Blk.at_ (by simp)
  have q0 := b0.cell 0
  have q1 := b0.cell 1
  simp only [List.getElem?_toArray, List.getElem?_cons_succ, List.getElem?_cons_zero] at q0 q1
  have zq := b0.lt
  have K0 := Lib.hid k0
  have B0 := Lib.hid b0
  have B1 := Lib.hid b1
  clear h hcs k0 b0 b1
  go_enter Try.func14, Try.ntmps14
  go_upto_region 1 with fail
  generalize ((w.alloc (.cells #[.string fc, .int .i64 fi] 24)).alloc (.cells #[.string ⟨#[]⟩, .int .i64 0] 24)) = W at *
  go_wp2_with fail
  refine (ref13_name D cls fc fi _ W (H.out.kept K0.out)).mono ?_
  rintro e w1 ⟨rfl, k1⟩
  clear q0 q1 zq
  by_cases hno : ¬ there D cls ∨ memO D fc fi = none
  · have hnv : nmV D cls fc fi = nmNo := by
      unfold nmV
      rcases hno with h | h
      · rw [if_neg h]
      · rw [h]; split <;> rfl
    rw [hnv]
    have HV := Lib.hid (show (virtR D cls fc fi) = (gz, nmB) by
      unfold virtR
      rcases hno with h | h
      · rw [if_neg h]
      · rw [h]; split <;> rfl)
    have kx : Kept w1 (w1.alloc (.cells #[.string ⟨#[]⟩, .string ⟨#[]⟩, .string ⟨#[]⟩] 44)) := (Below.refl _ _).alloc (Nat.le_refl _) _
    have KX := Lib.hid (Kept.trans k1 kx)
    clear hno hnv k1 kx
    unfold nmNo
    go_upto_region 2 with fail
    generalize (w1.alloc (.cells #[.string ⟨#[]⟩, .string ⟨#[]⟩, .string ⟨#[]⟩] 44)) = WX at *
    have kp := KX.out
    have PF := fnd_put (B1.out.kept kp)
    have KP := Lib.hid (PF.keeps (Kept.trans K0.out kp) (by have := K0.out.size; omega))
    have g0 := PF.g0
    have g1 := PF.g1
    have h0 := PF.h0
    have h1 := PF.h1
    have zr := PF.lt
    have PF := Lib.hid PF
    clear kp
    have E0 := Lib.hid (PF.out.e0 (.string ⟨#[]⟩))
    have E1 := Lib.hid (PF.out.e1 (.string ⟨#[]⟩) (.int .i64 0))
    have PE := Lib.hid (fnd_put (PF.out.set (.string ⟨#[]⟩) (.int .i64 0)))
    have HF := Lib.hid (show resG (virtR D cls fc fi) = resG (gz, nmB) by rw [HV.out])
    go_wp2_with fail
    refine bodyPost_ret (v := resG (virtR D cls fc fi)) (by rw [HF.out]; simp [results, Try.results14, go_sem, E0.out, E1.out, PE.out.g0, PE.out.g1, resG, gz, nmB]) rfl ⟨rfl, ?_⟩
    exact KP.out _ _
  · have hth : there D cls := Decidable.of_not_not fun a => hno (.inl a)
    obtain ⟨m, hm⟩ : ∃ m, memO D fc fi = some m := by
      cases hm : memO D fc fi with
      | none => exact absurd (.inr hm) hno
      | some m => exact ⟨m, rfl⟩
    have hnv : nmV D cls fc fi = nmYes fc m := by unfold nmV; rw [if_pos hth, hm]
    rw [hnv]
    have HTH := Lib.hid hth
    have HMO := Lib.hid hm
    obtain ⟨fk, hfk, hfnd, -⟩ := memO_fnd hm
    have HFK := Lib.hid hfk
    have HFND := Lib.hid hfnd
    obtain ⟨acc, nm, ds, has, val⟩ := m
    unfold nmYes
    simp only
    have kx : Kept w1 (w1.alloc (.cells #[.string fc, .string nm, .string ds] 44)) := (Below.refl _ _).alloc (Nat.le_refl _) _
    have BKY := Lib.hid (Blk.new w1 44 #[.string fc, .string nm, .string ds])
    have KX := Lib.hid (Kept.trans k1 kx)
    obtain ⟨kb, hkb⟩ : ∃ b, b = w1.heap.size := ⟨_, rfl⟩
    rw [← hkb] at BKY
    clear hno hth hm k1 kx hnv hfk hfnd
    go_upto_region 2 with fail
    rw [← hkb]
    generalize (w1.alloc (.cells #[.string fc, .string nm, .string ds] 44)) = X at *
    have bky := BKY.out
    have bq := B0.out.kept KX.out
    have d0 := bky.cell 0
    have d1 := bky.cell 1
    have d2 := bky.cell 2
    simp only [List.getElem?_toArray, List.getElem?_cons_succ, List.getElem?_cons_zero] at d0 d1 d2
    have q0 := bq.cell 0
    have q1 := bq.cell 1
    simp only [List.getElem?_toArray, List.getElem?_cons_succ, List.getElem?_cons_zero] at q0 q1
    have zk := bky.lt
    have zq := bq.lt
    have nk3 : ¬ (kb = X.heap.size) := by omega
    have nk4 : ¬ (X.heap.size = kb) := by omega
    clear bky bq hkb
    by_cases hb : bits .and .i64 acc 2 = 0
    · have e1 : (bits .and .i64 acc 2 != 0) = false := by simp [hb]
      have HB2 := Lib.hid hb
      clear hb
      cases hfr : frsL D (chainL D cls) nm ds tkS with
      | some g =>
        have HFR := Lib.hid hfr
        have HGF := Lib.hid (frs_fnd hfr)
        have cf : ∀ (w' : World) (vc : Value), TyR w' v D → Rd w' 1 vc (chainL D cls).length ((chainL D cls).flatMap encS) → Calls Try.prog 34 #[v, vc, .agg #[.string fc, .string nm, .string ds], .int .i64 10] w' (fun e w'' => e = .returned (foV (frsL D (chainL D cls) nm ds tkS)) ∧ Kept w' w'') := fun w' vc h1 h2 => notK_S ▸ ref13_first D (chainL D cls) fc nm ds 10 v vc _ w' h1 rfl h2 (by have := (chainL_nms D cls).le; have := H.out.len; omega) (chainL_nms D cls).th
        rw [hfr] at cf
        unfold foV at cf
        have CF := Lib.hid cf
        clear hfr cf
        go_wp2_with fail
        go_region_held2 (fun w' => w'.cell? ⟨kb, 0, none⟩ = some (.string fc) ∧ w'.cell? ⟨kb, 1, none⟩ = some (.string nm) ∧ w'.cell? ⟨kb, 2, none⟩ = some (.string ds)) (go_keep)
          (first
            | (go_at_call 35; refine (ref9_Chain D cls _ _ (H.out.kept (Kept.trans K0.out (Kept.trans KX.out (by first | exact (Below.refl _ _).drew | exact ((Below.refl _ _).alloc (Nat.le_refl _) _).drew)))) HCS.out).mono ?_; rintro e w6 ⟨vc, rfl, hvc, k6⟩; have HVC := Lib.hid hvc; have K6 : Hid (Kept X w6) := Lib.hid (Kept.trans (by first | exact (Below.refl _ _).drew | exact ((Below.refl _ _).alloc (Nat.le_refl _) _).drew) k6); have d06 := Kept.cell K6.out d0; have d16 := Kept.cell K6.out d1; have d26 := Kept.cell K6.out d2; have Z6 := K6.out.size; have nk1 : ¬ (kb = w6.heap.size) := Nat.ne_of_lt (Nat.lt_of_lt_of_le zk Z6); have nk2 : ¬ (w6.heap.size = kb) := fun e => nk1 e.symm; try (have b6 : Blk (X.alloc (.cells #[.string ⟨#[]⟩, .int .i64 0] 24)).drew X.heap.size 24 #[.string ⟨#[]⟩, .int .i64 0] := Blk.new X _ _; have P6 := Lib.hid (b6.kept k6); clear b6); clear hvc k6)
            | (go_at_call 34; refine (CF.out _ _ (H.out.kept (Kept.trans K0.out (Kept.trans KX.out (Kept.trans K6.out (by first | exact Below.refl _ _ | exact (Below.refl _ _).alloc (Nat.le_refl _) _))))) (HVC.out.kept (by first | exact Below.refl _ _ | exact (Below.refl _ _).alloc (Nat.le_refl _) _)).rd).mono ?_; rintro e w7 ⟨rfl, k7⟩; have K7 : Hid (Kept X w7) := Lib.hid (Kept.trans K6.out (Kept.trans (by first | exact Below.refl _ _ | exact (Below.refl _ _).alloc (Nat.le_refl _) _) k7)); have d07 := Kept.cell K7.out d0; have d17 := Kept.cell K7.out d1; have d27 := Kept.cell K7.out d2; have Z7 := K7.out.size; first | (have P7 := fnd_put ((P6.out).kept (show Kept w6 w7 from k7)); have e07 := P7.g0; have e17 := P7.g1; have i07 := P7.h0; have i17 := P7.h1; have l7 := P7.lt; have P7 := Lib.hid P7) | (have b7 : Blk (w6.alloc (.cells #[.string ⟨#[]⟩, .int .i64 0] 24)) w6.heap.size 24 #[.string ⟨#[]⟩, .int .i64 0] := Blk.new w6 _ _; have P7 := fnd_put (b7.kept k7); have e07 := P7.g0; have e17 := P7.g1; have i07 := P7.h0; have i17 := P7.h1; have l7 := P7.lt; have P7 := Lib.hid P7; clear b7) | skip; clear k7))
        all_goals
          clear d06 d16 d26 d07 d17 d27 d0 d1 d2
          first
            | (obtain ⟨W8, b, hW, hb, b8, k8, zb⟩ : ∃ W8 b, W8 = (w7.setCell ⟨X.heap.size, 0, none⟩ (.string g.1)).setCell ⟨X.heap.size, 1, none⟩ (.int .i64 g.2) ∧ b = X.heap.size ∧ Blk W8 b 24 #[.string g.1, .int .i64 g.2] ∧ Kept X W8 ∧ X.heap.size ≤ b := ⟨_, _, rfl, rfl, P7.out.set _ _, P7.out.keeps K7.out (Nat.le_refl _) _ _, Nat.le_refl _⟩; rw [← hW, ← hb]; clear hW hb e07 e17 i07 i17 l7)
            | (obtain ⟨W8, b, hW, hb, b8, k8, zb⟩ : ∃ W8 b, W8 = (w7.setCell ⟨w6.heap.size, 0, none⟩ (.string g.1)).setCell ⟨w6.heap.size, 1, none⟩ (.int .i64 g.2) ∧ b = w6.heap.size ∧ Blk W8 b 24 #[.string g.1, .int .i64 g.2] ∧ Kept X W8 ∧ X.heap.size ≤ b := ⟨_, _, rfl, rfl, P7.out.set _ _, P7.out.keeps K7.out Z6 _ _, Z6⟩; rw [← hW, ← hb]; clear hW hb e07 e17 i07 i17 l7)
            | (obtain ⟨W8, b, hW, hb, b8, k8, zb⟩ : ∃ W8 b, W8 = w7.alloc (.cells #[.string g.1, .int .i64 g.2] 24) ∧ b = w7.heap.size ∧ Blk W8 b 24 #[.string g.1, .int .i64 g.2] ∧ Kept X W8 ∧ X.heap.size ≤ b := ⟨_, _, rfl, rfl, Blk.new _ _ _, K7.out.alloc Z7 _, Z7⟩; rw [← hW, ← hb]; clear hW hb)
          have K8 := Lib.hid (Kept.trans KX.out k8)
          have BK8 := BKY.out.kept k8
          have BQ8 := B0.out.kept K8.out
          have c0 := b8.cell 0
          have c1 := b8.cell 1
          simp only [List.getElem?_toArray, List.getElem?_cons_succ, List.getElem?_cons_zero] at c0 c1
          have d0 := BK8.cell 0
          have d1 := BK8.cell 1
          have d2 := BK8.cell 2
          simp only [List.getElem?_toArray, List.getElem?_cons_succ, List.getElem?_cons_zero] at d0 d1 d2
          have q0 := BQ8.cell 0
          have q1 := BQ8.cell 1
          simp only [List.getElem?_toArray, List.getElem?_cons_succ, List.getElem?_cons_zero] at q0 q1
          have l8 := b8.lt
          have lk8 := BK8.lt
          have lq8 := BQ8.lt
          clear b8 k8 BK8 BQ8
        all_goals
          go_wp2_with fail
          refine (ref13_told D g _ W8 (H.out.kept (Kept.trans K0.out K8.out)) HGF.out).mono ?_
          rintro e wZ ⟨rfl, kZ⟩
          obtain ⟨r, hr⟩ : ∃ r, r = toldR D g.1 (g.2 : Nat) := ⟨_, rfl⟩
          rw [← hr]
          have HRR := Lib.hid hr
          have KZ_ := Lib.hid (Kept.trans K8.out kZ)
          clear kZ hr
          unfold resG
          have kp := KZ_.out
          have PF := fnd_put (B1.out.kept kp)
          have KP := Lib.hid (PF.keeps (Kept.trans K0.out kp) (by have := K0.out.size; omega))
          have g0 := PF.g0
          have g1 := PF.g1
          have h0 := PF.h0
          have h1 := PF.h1
          have zr := PF.lt
          have PF := Lib.hid PF
          clear kp
          have E0 := Lib.hid (PF.out.e0 (.string r.1.1))
          have E1 := Lib.hid (PF.out.e1 (.string r.1.1) (.int .i64 r.1.2))
          have PE := Lib.hid (fnd_put (PF.out.set (.string r.1.1) (.int .i64 r.1.2)))
          have HF := Lib.hid (show resG (virtR D cls fc fi) = resG r by unfold virtR; rw [if_pos HTH.out, HMO.out]; simp only; rw [if_pos HB2.out]; rw [HFR.out, HRR.out])
          go_wp2_with fail
          refine bodyPost_ret (v := resG (virtR D cls fc fi)) (by rw [HF.out]; simp [results, Try.results14, go_sem, E0.out, E1.out, PE.out.g0, PE.out.g1, resG]) rfl ⟨rfl, ?_⟩
          exact KP.out _ _
      | none =>
        have HFR := Lib.hid hfr
        have cf : ∀ (w' : World) (vc : Value), TyR w' v D → Rd w' 1 vc (chainL D cls).length ((chainL D cls).flatMap encS) → Calls Try.prog 34 #[v, vc, .agg #[.string fc, .string nm, .string ds], .int .i64 10] w' (fun e w'' => e = .returned (foV (frsL D (chainL D cls) nm ds tkS)) ∧ Kept w' w'') := fun w' vc h1 h2 => notK_S ▸ ref13_first D (chainL D cls) fc nm ds 10 v vc _ w' h1 rfl h2 (by have := (chainL_nms D cls).le; have := H.out.len; omega) (chainL_nms D cls).th
        rw [hfr] at cf
        unfold foV at cf
        have CF := Lib.hid cf
        clear hfr cf
        go_wp2_with fail
        go_region_held2 (fun w' => w'.cell? ⟨kb, 0, none⟩ = some (.string fc) ∧ w'.cell? ⟨kb, 1, none⟩ = some (.string nm) ∧ w'.cell? ⟨kb, 2, none⟩ = some (.string ds)) (go_keep)
          (first
            | (go_at_call 35; refine (ref9_Chain D cls _ _ (H.out.kept (Kept.trans K0.out (Kept.trans KX.out (by first | exact (Below.refl _ _).drew | exact ((Below.refl _ _).alloc (Nat.le_refl _) _).drew)))) HCS.out).mono ?_; rintro e w6 ⟨vc, rfl, hvc, k6⟩; have HVC := Lib.hid hvc; have K6 : Hid (Kept X w6) := Lib.hid (Kept.trans (by first | exact (Below.refl _ _).drew | exact ((Below.refl _ _).alloc (Nat.le_refl _) _).drew) k6); have d06 := Kept.cell K6.out d0; have d16 := Kept.cell K6.out d1; have d26 := Kept.cell K6.out d2; have Z6 := K6.out.size; have nk1 : ¬ (kb = w6.heap.size) := Nat.ne_of_lt (Nat.lt_of_lt_of_le zk Z6); have nk2 : ¬ (w6.heap.size = kb) := fun e => nk1 e.symm; try (have b6 : Blk (X.alloc (.cells #[.string ⟨#[]⟩, .int .i64 0] 24)).drew X.heap.size 24 #[.string ⟨#[]⟩, .int .i64 0] := Blk.new X _ _; have P6 := Lib.hid (b6.kept k6); clear b6); clear hvc k6)
            | (go_at_call 34; refine (CF.out _ _ (H.out.kept (Kept.trans K0.out (Kept.trans KX.out (Kept.trans K6.out (by first | exact Below.refl _ _ | exact (Below.refl _ _).alloc (Nat.le_refl _) _))))) (HVC.out.kept (by first | exact Below.refl _ _ | exact (Below.refl _ _).alloc (Nat.le_refl _) _)).rd).mono ?_; rintro e w7 ⟨rfl, k7⟩; have K7 : Hid (Kept X w7) := Lib.hid (Kept.trans K6.out (Kept.trans (by first | exact Below.refl _ _ | exact (Below.refl _ _).alloc (Nat.le_refl _) _) k7)); have d07 := Kept.cell K7.out d0; have d17 := Kept.cell K7.out d1; have d27 := Kept.cell K7.out d2; have Z7 := K7.out.size; first | (have P7 := fnd_put ((P6.out).kept (show Kept w6 w7 from k7)); have e07 := P7.g0; have e17 := P7.g1; have i07 := P7.h0; have i17 := P7.h1; have l7 := P7.lt; have P7 := Lib.hid P7) | (have b7 : Blk (w6.alloc (.cells #[.string ⟨#[]⟩, .int .i64 0] 24)) w6.heap.size 24 #[.string ⟨#[]⟩, .int .i64 0] := Blk.new w6 _ _; have P7 := fnd_put (b7.kept k7); have e07 := P7.g0; have e17 := P7.g1; have i07 := P7.h0; have i17 := P7.h1; have l7 := P7.lt; have P7 := Lib.hid P7; clear b7) | skip; clear k7))
        all_goals
          clear d06 d16 d26 d07 d17 d27 d0 d1 d2
          first
            | (obtain ⟨W8, b, hW, hb, b8, k8, zb⟩ : ∃ W8 b, W8 = (w7.setCell ⟨X.heap.size, 0, none⟩ (.string ⟨#[]⟩)).setCell ⟨X.heap.size, 1, none⟩ (.int .i64 0) ∧ b = X.heap.size ∧ Blk W8 b 24 #[.string ⟨#[]⟩, .int .i64 0] ∧ Kept X W8 ∧ X.heap.size ≤ b := ⟨_, _, rfl, rfl, P7.out.set _ _, P7.out.keeps K7.out (Nat.le_refl _) _ _, Nat.le_refl _⟩; rw [← hW, ← hb]; clear hW hb e07 e17 i07 i17 l7)
            | (obtain ⟨W8, b, hW, hb, b8, k8, zb⟩ : ∃ W8 b, W8 = (w7.setCell ⟨w6.heap.size, 0, none⟩ (.string ⟨#[]⟩)).setCell ⟨w6.heap.size, 1, none⟩ (.int .i64 0) ∧ b = w6.heap.size ∧ Blk W8 b 24 #[.string ⟨#[]⟩, .int .i64 0] ∧ Kept X W8 ∧ X.heap.size ≤ b := ⟨_, _, rfl, rfl, P7.out.set _ _, P7.out.keeps K7.out Z6 _ _, Z6⟩; rw [← hW, ← hb]; clear hW hb e07 e17 i07 i17 l7)
            | (obtain ⟨W8, b, hW, hb, b8, k8, zb⟩ : ∃ W8 b, W8 = w7.alloc (.cells #[.string ⟨#[]⟩, .int .i64 0] 24) ∧ b = w7.heap.size ∧ Blk W8 b 24 #[.string ⟨#[]⟩, .int .i64 0] ∧ Kept X W8 ∧ X.heap.size ≤ b := ⟨_, _, rfl, rfl, Blk.new _ _ _, K7.out.alloc Z7 _, Z7⟩; rw [← hW, ← hb]; clear hW hb)
          have K8 := Lib.hid (Kept.trans KX.out k8)
          have BK8 := BKY.out.kept k8
          have BQ8 := B0.out.kept K8.out
          have c0 := b8.cell 0
          have c1 := b8.cell 1
          simp only [List.getElem?_toArray, List.getElem?_cons_succ, List.getElem?_cons_zero] at c0 c1
          have d0 := BK8.cell 0
          have d1 := BK8.cell 1
          have d2 := BK8.cell 2
          simp only [List.getElem?_toArray, List.getElem?_cons_succ, List.getElem?_cons_zero] at d0 d1 d2
          have q0 := BQ8.cell 0
          have q1 := BQ8.cell 1
          simp only [List.getElem?_toArray, List.getElem?_cons_succ, List.getElem?_cons_zero] at q0 q1
          have l8 := b8.lt
          have lk8 := BK8.lt
          have lq8 := BQ8.lt
          clear b8 k8 BK8 BQ8
        all_goals
          go_wp2_with fail
          refine (ref13_on D cls fc nm ds _ W8 (H.out.kept (Kept.trans K0.out K8.out)) HCS.out).mono ?_
          rintro e wZ ⟨rfl, kZ⟩
          obtain ⟨r, hr⟩ : ∃ r, r = onR D cls nm ds := ⟨_, rfl⟩
          rw [← hr]
          have HRR := Lib.hid hr
          have KZ_ := Lib.hid (Kept.trans K8.out kZ)
          clear kZ hr
          unfold resG
          have kp := KZ_.out
          have PF := fnd_put (B1.out.kept kp)
          have KP := Lib.hid (PF.keeps (Kept.trans K0.out kp) (by have := K0.out.size; omega))
          have g0 := PF.g0
          have g1 := PF.g1
          have h0 := PF.h0
          have h1 := PF.h1
          have zr := PF.lt
          have PF := Lib.hid PF
          clear kp
          have E0 := Lib.hid (PF.out.e0 (.string r.1.1))
          have E1 := Lib.hid (PF.out.e1 (.string r.1.1) (.int .i64 r.1.2))
          have PE := Lib.hid (fnd_put (PF.out.set (.string r.1.1) (.int .i64 r.1.2)))
          have HF := Lib.hid (show resG (virtR D cls fc fi) = resG r by unfold virtR; rw [if_pos HTH.out, HMO.out]; simp only; rw [if_pos HB2.out]; rw [HFR.out, HRR.out])
          go_wp2_with fail
          refine bodyPost_ret (v := resG (virtR D cls fc fi)) (by rw [HF.out]; simp [results, Try.results14, go_sem, E0.out, E1.out, PE.out.g0, PE.out.g1, resG]) rfl ⟨rfl, ?_⟩
          exact KP.out _ _
    · have e1 : (bits .and .i64 acc 2 != 0) = true := by simp [hb]
      have HB2 := Lib.hid hb
      clear hb
      rw [HFK.out] at q1
      have CT := ref13_told D (fc, fk) v X (H.out.kept (Kept.trans K0.out KX.out)) HFND.out
      simp only at CT
      rw [← HFK.out] at CT q1
      have CT := Lib.hid CT
      go_wp2_with fail
      refine (CT.out).mono ?_
      rintro e wZ ⟨rfl, kZ⟩
      obtain ⟨r, hr⟩ : ∃ r, r = toldR D fc fi := ⟨_, rfl⟩
      rw [← hr]
      have HRR := Lib.hid hr
      have KZ_ := Lib.hid (Kept.trans KX.out kZ)
      clear kZ hr
      unfold resG
      have kp := KZ_.out
      have PF := fnd_put (B1.out.kept kp)
      have KP := Lib.hid (PF.keeps (Kept.trans K0.out kp) (by have := K0.out.size; omega))
      have g0 := PF.g0
      have g1 := PF.g1
      have h0 := PF.h0
      have h1 := PF.h1
      have zr := PF.lt
      have PF := Lib.hid PF
      clear kp
      have E0 := Lib.hid (PF.out.e0 (.string r.1.1))
      have E1 := Lib.hid (PF.out.e1 (.string r.1.1) (.int .i64 r.1.2))
      have PE := Lib.hid (fnd_put (PF.out.set (.string r.1.1) (.int .i64 r.1.2)))
      have HF := Lib.hid (show resG (virtR D cls fc fi) = resG r by unfold virtR; rw [if_pos HTH.out, HMO.out]; simp only; rw [if_neg HB2.out, HRR.out])
      go_wp2_with fail
      refine bodyPost_ret (v := resG (virtR D cls fc fi)) (by rw [HF.out]; simp [results, Try.results14, go_sem, E0.out, E1.out, PE.out.g0, PE.out.g1, resG]) rfl ⟨rfl, ?_⟩
      exact KP.out _ _

set_option maxHeartbeats 8000000 in
theorem ref13_Face (D : List TD) (cls fc : ByteArray) (fi : Int) (v : Value) (w : World) (h : TyR w v D) (hcs : cls.size ≤ maxLen) (hfc : fc.size ≤ maxLen) :
    Calls Try.prog 15 #[v, .string cls, .agg #[.string fc, .int .i64 fi]] w fun e w' => e = .returned (resG (ifaceR D cls fc fi)) ∧ Kept w w' := by
  have H := Lib.hid h
  have HCS := Lib.hid hcs
  have k0 : Kept w ((w.alloc (.cells #[.string fc, .int .i64 fi] 24)).alloc (.cells #[.string ⟨#[]⟩, .int .i64 0] 24)) := ((Below.refl _ _).alloc (Nat.le_refl _) _).alloc (by simp) _
  have b0 : Blk ((w.alloc (.cells #[.string fc, .int .i64 fi] 24)).alloc (.cells #[.string ⟨#[]⟩, .int .i64 0] 24)) w.heap.size 24 #[.string fc, .int .i64 fi] := (Blk.new w _ _).alloc _
  have b1 : Blk ((w.alloc (.cells #[.string fc, .int .i64 fi] 24)).alloc (.cells #[.string ⟨#[]⟩, .int .i64 0] 24)) (w.heap.size + 1) 24 #[.string ⟨#[]⟩, .int .i64 0] := Blk.at_ (by simp)
  have q0 := b0.cell 0
  have q1 := b0.cell 1
  simp only [List.getElem?_toArray, List.getElem?_cons_succ, List.getElem?_cons_zero] at q0 q1
  have zq := b0.lt
  have K0 := Lib.hid k0
  have B0 := Lib.hid b0
  have B1 := Lib.hid b1
  clear h hcs k0 b0 b1
  go_enter Try.func15, Try.ntmps15
  go_upto_region 1 with fail
  generalize ((w.alloc (.cells #[.string fc, .int .i64 fi] 24)).alloc (.cells #[.string ⟨#[]⟩, .int .i64 0] 24)) = W at *
  go_wp2_with fail
  refine (ref13_name D cls fc fi _ W (H.out.kept K0.out)).mono ?_
  rintro e w1 ⟨rfl, k1⟩
  clear q0 q1 zq
  by_cases hno : ¬ there D cls ∨ memO D fc fi = none
  · have hnv : nmV D cls fc fi = nmNo := by
      unfold nmV
      rcases hno with h | h
      · rw [if_neg h]
      · rw [h]; split <;> rfl
    rw [hnv]
    have HV := Lib.hid (show (ifaceR D cls fc fi) = (gz, nmB) by
      unfold ifaceR
      rcases hno with h | h
      · rw [if_neg h]
      · rw [h]; split <;> rfl)
    have kx : Kept w1 (w1.alloc (.cells #[.string ⟨#[]⟩, .string ⟨#[]⟩, .string ⟨#[]⟩] 44)) := (Below.refl _ _).alloc (Nat.le_refl _) _
    have KX := Lib.hid (Kept.trans k1 kx)
    clear hno hnv k1 kx
    unfold nmNo
    go_upto_region 2 with fail
    generalize (w1.alloc (.cells #[.string ⟨#[]⟩, .string ⟨#[]⟩, .string ⟨#[]⟩] 44)) = WX at *
    have kp := KX.out
    have PF := fnd_put (B1.out.kept kp)
    have KP := Lib.hid (PF.keeps (Kept.trans K0.out kp) (by have := K0.out.size; omega))
    have g0 := PF.g0
    have g1 := PF.g1
    have h0 := PF.h0
    have h1 := PF.h1
    have zr := PF.lt
    have PF := Lib.hid PF
    clear kp
    have E0 := Lib.hid (PF.out.e0 (.string ⟨#[]⟩))
    have E1 := Lib.hid (PF.out.e1 (.string ⟨#[]⟩) (.int .i64 0))
    have PE := Lib.hid (fnd_put (PF.out.set (.string ⟨#[]⟩) (.int .i64 0)))
    have HF := Lib.hid (show resG (ifaceR D cls fc fi) = resG (gz, nmB) by rw [HV.out])
    go_wp2_with fail
    refine bodyPost_ret (v := resG (ifaceR D cls fc fi)) (by rw [HF.out]; simp [results, Try.results15, go_sem, E0.out, E1.out, PE.out.g0, PE.out.g1, resG, gz, nmB]) rfl ⟨rfl, ?_⟩
    exact KP.out _ _
  · have hth : there D cls := Decidable.of_not_not fun a => hno (.inl a)
    obtain ⟨m, hm⟩ : ∃ m, memO D fc fi = some m := by
      cases hm : memO D fc fi with
      | none => exact absurd (.inr hm) hno
      | some m => exact ⟨m, rfl⟩
    have hnv : nmV D cls fc fi = nmYes fc m := by unfold nmV; rw [if_pos hth, hm]
    rw [hnv]
    have HTH := Lib.hid hth
    have HMO := Lib.hid hm
    obtain ⟨fk, hfk, hfnd, -⟩ := memO_fnd hm
    have HFK := Lib.hid hfk
    have HFND := Lib.hid hfnd
    obtain ⟨acc, nm, ds, has, val⟩ := m
    unfold nmYes
    simp only
    have kx : Kept w1 (w1.alloc (.cells #[.string fc, .string nm, .string ds] 44)) := (Below.refl _ _).alloc (Nat.le_refl _) _
    have BKY := Lib.hid (Blk.new w1 44 #[.string fc, .string nm, .string ds])
    have KX := Lib.hid (Kept.trans k1 kx)
    obtain ⟨kb, hkb⟩ : ∃ b, b = w1.heap.size := ⟨_, rfl⟩
    rw [← hkb] at BKY
    clear hno hth hm k1 kx hnv hfk hfnd
    go_upto_region 2 with fail
    rw [← hkb]
    generalize (w1.alloc (.cells #[.string fc, .string nm, .string ds] 44)) = X at *
    have bky := BKY.out
    have bq := B0.out.kept KX.out
    have d0 := bky.cell 0
    have d1 := bky.cell 1
    have d2 := bky.cell 2
    simp only [List.getElem?_toArray, List.getElem?_cons_succ, List.getElem?_cons_zero] at d0 d1 d2
    have q0 := bq.cell 0
    have q1 := bq.cell 1
    simp only [List.getElem?_toArray, List.getElem?_cons_succ, List.getElem?_cons_zero] at q0 q1
    have zk := bky.lt
    have zq := bq.lt
    have nk3 : ¬ (kb = X.heap.size) := by omega
    have nk4 : ¬ (X.heap.size = kb) := by omega
    clear bky bq hkb
    have CS := ref9_Sub D cls fc _ X (H.out.kept (Kept.trans K0.out KX.out)) HCS.out
    cases hsb : decide (subB D cls fc) with
    | false =>
      rw [hsb] at CS
      have HSB := Lib.hid (of_decide_eq_false hsb)
      have CS := Lib.hid CS
      clear hsb
      go_wp2_with fail
      refine CS.out.mono ?_
      rintro e w3 ⟨rfl, k3⟩
      have K3 := Lib.hid (Kept.trans KX.out k3)
      clear k3 CS q0 q1 zq d0 d1 d2 zk nk3 nk4
      have kp := K3.out
      have PF := fnd_put (B1.out.kept kp)
      have KP := Lib.hid (PF.keeps (Kept.trans K0.out kp) (by have := K0.out.size; omega))
      have g0 := PF.g0
      have g1 := PF.g1
      have h0 := PF.h0
      have h1 := PF.h1
      have zr := PF.lt
      have PF := Lib.hid PF
      clear kp
      have E0 := Lib.hid (PF.out.e0 (.string ⟨#[]⟩))
      have E1 := Lib.hid (PF.out.e1 (.string ⟨#[]⟩) (.int .i64 0))
      have PE := Lib.hid (fnd_put (PF.out.set (.string ⟨#[]⟩) (.int .i64 0)))
      have HF := Lib.hid (show resG (ifaceR D cls fc fi) = resG (gz, chB) by unfold ifaceR; rw [if_pos HTH.out, HMO.out]; simp only; rw [if_neg HSB.out])
      go_wp2_with fail
      refine bodyPost_ret (v := resG (ifaceR D cls fc fi)) (by rw [HF.out]; simp [results, Try.results15, go_sem, E0.out, E1.out, PE.out.g0, PE.out.g1, resG, gz, chB]) rfl ⟨rfl, ?_⟩
      exact KP.out _ _
    | true =>
      rw [hsb] at CS
      have HSB := Lib.hid (of_decide_eq_true hsb)
      have CS := Lib.hid CS
      clear hsb
      go_wp2_with fail
      refine CS.out.mono ?_
      rintro e w3 ⟨rfl, k3⟩
      have d0 := Kept.cell k3 d0
      have d1 := Kept.cell k3 d1
      have d2 := Kept.cell k3 d2
      have q0 := Kept.cell k3 q0
      have q1 := Kept.cell k3 q1
      have zk := Nat.lt_of_lt_of_le zk k3.size
      have zq := Nat.lt_of_lt_of_le zq k3.size
      have BKY := Lib.hid (BKY.out.kept k3)
      have KX := Lib.hid (Kept.trans KX.out k3)
      clear k3 CS nk3 nk4
      rename World => X
      have nk3 : ¬ (kb = X.heap.size) := Nat.ne_of_lt zk
      have nk4 : ¬ (X.heap.size = kb) := fun e => nk3 e.symm
      cases hfr : frsL D (chainL D cls) nm ds tkI with
      | some g =>
        have HFR := Lib.hid hfr
        have HGF := Lib.hid (frs_fnd hfr)
        have cf : ∀ (w' : World) (vc : Value), TyR w' v D → Rd w' 1 vc (chainL D cls).length ((chainL D cls).flatMap encS) → Calls Try.prog 34 #[v, vc, .agg #[.string fc, .string nm, .string ds], .int .i64 8] w' (fun e w'' => e = .returned (foV (frsL D (chainL D cls) nm ds tkI)) ∧ Kept w' w'') := fun w' vc h1 h2 => show Calls _ _ _ _ (fun e w'' => e = .returned (foV (frsL D (chainL D cls) nm ds (notK 8))) ∧ _) from ref13_first D (chainL D cls) fc nm ds 8 v vc _ w' h1 rfl h2 (by have := (chainL_nms D cls).le; have := H.out.len; omega) (chainL_nms D cls).th
        rw [hfr] at cf
        unfold foV at cf
        have CF := Lib.hid cf
        clear hfr cf
        go_wp2_with fail
        go_region_held2 (fun w' => w'.cell? ⟨kb, 0, none⟩ = some (.string fc) ∧ w'.cell? ⟨kb, 1, none⟩ = some (.string nm) ∧ w'.cell? ⟨kb, 2, none⟩ = some (.string ds)) (go_keep)
          (first
            | (go_at_call 35; refine (ref9_Chain D cls _ _ (H.out.kept (Kept.trans K0.out (Kept.trans KX.out (by first | exact (Below.refl _ _).drew | exact ((Below.refl _ _).alloc (Nat.le_refl _) _).drew)))) HCS.out).mono ?_; rintro e w6 ⟨vc, rfl, hvc, k6⟩; have HVC := Lib.hid hvc; have K6 : Hid (Kept X w6) := Lib.hid (Kept.trans (by first | exact (Below.refl _ _).drew | exact ((Below.refl _ _).alloc (Nat.le_refl _) _).drew) k6); have d06 := Kept.cell K6.out d0; have d16 := Kept.cell K6.out d1; have d26 := Kept.cell K6.out d2; have Z6 := K6.out.size; have nk1 : ¬ (kb = w6.heap.size) := Nat.ne_of_lt (Nat.lt_of_lt_of_le zk Z6); have nk2 : ¬ (w6.heap.size = kb) := fun e => nk1 e.symm; try (have b6 : Blk (X.alloc (.cells #[.string ⟨#[]⟩, .int .i64 0] 24)).drew X.heap.size 24 #[.string ⟨#[]⟩, .int .i64 0] := Blk.new X _ _; have P6 := Lib.hid (b6.kept k6); clear b6); clear hvc k6)
            | (go_at_call 34; refine (CF.out _ _ (H.out.kept (Kept.trans K0.out (Kept.trans KX.out (Kept.trans K6.out (by first | exact Below.refl _ _ | exact (Below.refl _ _).alloc (Nat.le_refl _) _))))) (HVC.out.kept (by first | exact Below.refl _ _ | exact (Below.refl _ _).alloc (Nat.le_refl _) _)).rd).mono ?_; rintro e w7 ⟨rfl, k7⟩; have K7 : Hid (Kept X w7) := Lib.hid (Kept.trans K6.out (Kept.trans (by first | exact Below.refl _ _ | exact (Below.refl _ _).alloc (Nat.le_refl _) _) k7)); have d07 := Kept.cell K7.out d0; have d17 := Kept.cell K7.out d1; have d27 := Kept.cell K7.out d2; have Z7 := K7.out.size; first | (have P7 := fnd_put ((P6.out).kept (show Kept w6 w7 from k7)); have e07 := P7.g0; have e17 := P7.g1; have i07 := P7.h0; have i17 := P7.h1; have l7 := P7.lt; have P7 := Lib.hid P7) | (have b7 : Blk (w6.alloc (.cells #[.string ⟨#[]⟩, .int .i64 0] 24)) w6.heap.size 24 #[.string ⟨#[]⟩, .int .i64 0] := Blk.new w6 _ _; have P7 := fnd_put (b7.kept k7); have e07 := P7.g0; have e17 := P7.g1; have i07 := P7.h0; have i17 := P7.h1; have l7 := P7.lt; have P7 := Lib.hid P7; clear b7) | skip; clear k7))
        all_goals
          clear d06 d16 d26 d07 d17 d27 d0 d1 d2
          first
            | (obtain ⟨W8, b, hW, hb, b8, k8, zb⟩ : ∃ W8 b, W8 = (w7.setCell ⟨X.heap.size, 0, none⟩ (.string g.1)).setCell ⟨X.heap.size, 1, none⟩ (.int .i64 g.2) ∧ b = X.heap.size ∧ Blk W8 b 24 #[.string g.1, .int .i64 g.2] ∧ Kept X W8 ∧ X.heap.size ≤ b := ⟨_, _, rfl, rfl, P7.out.set _ _, P7.out.keeps K7.out (Nat.le_refl _) _ _, Nat.le_refl _⟩; rw [← hW, ← hb]; clear hW hb e07 e17 i07 i17 l7)
            | (obtain ⟨W8, b, hW, hb, b8, k8, zb⟩ : ∃ W8 b, W8 = (w7.setCell ⟨w6.heap.size, 0, none⟩ (.string g.1)).setCell ⟨w6.heap.size, 1, none⟩ (.int .i64 g.2) ∧ b = w6.heap.size ∧ Blk W8 b 24 #[.string g.1, .int .i64 g.2] ∧ Kept X W8 ∧ X.heap.size ≤ b := ⟨_, _, rfl, rfl, P7.out.set _ _, P7.out.keeps K7.out Z6 _ _, Z6⟩; rw [← hW, ← hb]; clear hW hb e07 e17 i07 i17 l7)
            | (obtain ⟨W8, b, hW, hb, b8, k8, zb⟩ : ∃ W8 b, W8 = w7.alloc (.cells #[.string g.1, .int .i64 g.2] 24) ∧ b = w7.heap.size ∧ Blk W8 b 24 #[.string g.1, .int .i64 g.2] ∧ Kept X W8 ∧ X.heap.size ≤ b := ⟨_, _, rfl, rfl, Blk.new _ _ _, K7.out.alloc Z7 _, Z7⟩; rw [← hW, ← hb]; clear hW hb)
          have K8 := Lib.hid (Kept.trans KX.out k8)
          have BK8 := BKY.out.kept k8
          have BQ8 := B0.out.kept K8.out
          have c0 := b8.cell 0
          have c1 := b8.cell 1
          simp only [List.getElem?_toArray, List.getElem?_cons_succ, List.getElem?_cons_zero] at c0 c1
          have d0 := BK8.cell 0
          have d1 := BK8.cell 1
          have d2 := BK8.cell 2
          simp only [List.getElem?_toArray, List.getElem?_cons_succ, List.getElem?_cons_zero] at d0 d1 d2
          have q0 := BQ8.cell 0
          have q1 := BQ8.cell 1
          simp only [List.getElem?_toArray, List.getElem?_cons_succ, List.getElem?_cons_zero] at q0 q1
          have l8 := b8.lt
          have lk8 := BK8.lt
          have lq8 := BQ8.lt
          clear b8 k8 BK8 BQ8
        all_goals
          go_wp2_with fail
          refine (ref12_Flags D g _ W8 (H.out.kept (Kept.trans K0.out K8.out)) HGF.out).mono ?_
          rintro e w9 ⟨rfl, k9⟩
          obtain ⟨acc2, hac⟩ : ∃ a, a = accM D g := ⟨_, rfl⟩
          rw [← hac]
          have HACC := Lib.hid (show accO D g.1 (g.2 : Nat) = acc2 by rw [accO_M, hac])
          have KA := Lib.hid (Kept.trans K8.out k9)
          have c0 := Kept.cell k9 c0
          have c1 := Kept.cell k9 c1
          have l8 := Nat.lt_of_lt_of_le l8 k9.size
          clear hac k9 d0 d1 d2 q0 q1 lk8 lq8
          by_cases hpa : bits .and .i64 acc2 1 = 0
          · have e1 : (bits .and .i64 acc2 1 == 0) = true := by simp [hpa]
            have HPA := Lib.hid hpa
            clear hpa
            have kp := KA.out
            have PF := fnd_put (B1.out.kept kp)
            have KP := Lib.hid (PF.keeps (Kept.trans K0.out kp) (by have := K0.out.size; omega))
            have g0 := PF.g0
            have g1 := PF.g1
            have h0 := PF.h0
            have h1 := PF.h1
            have zr := PF.lt
            have PF := Lib.hid PF
            clear kp
            have E0 := Lib.hid (PF.out.e0 (.string ⟨#[]⟩))
            have E1 := Lib.hid (PF.out.e1 (.string ⟨#[]⟩) (.int .i64 0))
            have PE := Lib.hid (fnd_put (PF.out.set (.string ⟨#[]⟩) (.int .i64 0)))
            have HF := Lib.hid (show resG (ifaceR D cls fc fi) = resG (gz, acB) by unfold ifaceR; rw [if_pos HTH.out, HMO.out]; simp only; rw [if_pos HSB.out]; rw [HFR.out]; simp only; rw [HACC.out, if_pos HPA.out])
            go_wp2_with fail
            refine bodyPost_ret (v := resG (ifaceR D cls fc fi)) (by rw [HF.out]; simp [results, Try.results15, go_sem, E0.out, E1.out, PE.out.g0, PE.out.g1, resG, gz, acB]) rfl ⟨rfl, ?_⟩
            exact KP.out _ _
          · have e1 : (bits .and .i64 acc2 1 == 0) = false := by simp [hpa]
            have HPA := Lib.hid hpa
            clear hpa
            go_wp2_with fail
            refine (ref13_told D g _ w9 (H.out.kept (Kept.trans K0.out KA.out)) HGF.out).mono ?_
            rintro e wZ ⟨rfl, kZ⟩
            obtain ⟨r, hr⟩ : ∃ r, r = toldR D g.1 (g.2 : Nat) := ⟨_, rfl⟩
            rw [← hr]
            have HRR := Lib.hid hr
            have KZ_ := Lib.hid (Kept.trans KA.out kZ)
            clear kZ hr
            unfold resG
            have kp := KZ_.out
            have PF := fnd_put (B1.out.kept kp)
            have KP := Lib.hid (PF.keeps (Kept.trans K0.out kp) (by have := K0.out.size; omega))
            have g0 := PF.g0
            have g1 := PF.g1
            have h0 := PF.h0
            have h1 := PF.h1
            have zr := PF.lt
            have PF := Lib.hid PF
            clear kp
            have E0 := Lib.hid (PF.out.e0 (.string r.1.1))
            have E1 := Lib.hid (PF.out.e1 (.string r.1.1) (.int .i64 r.1.2))
            have PE := Lib.hid (fnd_put (PF.out.set (.string r.1.1) (.int .i64 r.1.2)))
            have HF := Lib.hid (show resG (ifaceR D cls fc fi) = resG r by unfold ifaceR; rw [if_pos HTH.out, HMO.out]; simp only; rw [if_pos HSB.out]; rw [HFR.out]; simp only; rw [HACC.out, if_neg HPA.out, HRR.out])
            go_wp2_with fail
            refine bodyPost_ret (v := resG (ifaceR D cls fc fi)) (by rw [HF.out]; simp [results, Try.results15, go_sem, E0.out, E1.out, PE.out.g0, PE.out.g1, resG]) rfl ⟨rfl, ?_⟩
            exact KP.out _ _
      | none =>
        have HFR := Lib.hid hfr
        have cf : ∀ (w' : World) (vc : Value), TyR w' v D → Rd w' 1 vc (chainL D cls).length ((chainL D cls).flatMap encS) → Calls Try.prog 34 #[v, vc, .agg #[.string fc, .string nm, .string ds], .int .i64 8] w' (fun e w'' => e = .returned (foV (frsL D (chainL D cls) nm ds tkI)) ∧ Kept w' w'') := fun w' vc h1 h2 => show Calls _ _ _ _ (fun e w'' => e = .returned (foV (frsL D (chainL D cls) nm ds (notK 8))) ∧ _) from ref13_first D (chainL D cls) fc nm ds 8 v vc _ w' h1 rfl h2 (by have := (chainL_nms D cls).le; have := H.out.len; omega) (chainL_nms D cls).th
        rw [hfr] at cf
        unfold foV at cf
        have CF := Lib.hid cf
        clear hfr cf
        go_wp2_with fail
        go_region_held2 (fun w' => w'.cell? ⟨kb, 0, none⟩ = some (.string fc) ∧ w'.cell? ⟨kb, 1, none⟩ = some (.string nm) ∧ w'.cell? ⟨kb, 2, none⟩ = some (.string ds)) (go_keep)
          (first
            | (go_at_call 35; refine (ref9_Chain D cls _ _ (H.out.kept (Kept.trans K0.out (Kept.trans KX.out (by first | exact (Below.refl _ _).drew | exact ((Below.refl _ _).alloc (Nat.le_refl _) _).drew)))) HCS.out).mono ?_; rintro e w6 ⟨vc, rfl, hvc, k6⟩; have HVC := Lib.hid hvc; have K6 : Hid (Kept X w6) := Lib.hid (Kept.trans (by first | exact (Below.refl _ _).drew | exact ((Below.refl _ _).alloc (Nat.le_refl _) _).drew) k6); have d06 := Kept.cell K6.out d0; have d16 := Kept.cell K6.out d1; have d26 := Kept.cell K6.out d2; have Z6 := K6.out.size; have nk1 : ¬ (kb = w6.heap.size) := Nat.ne_of_lt (Nat.lt_of_lt_of_le zk Z6); have nk2 : ¬ (w6.heap.size = kb) := fun e => nk1 e.symm; try (have b6 : Blk (X.alloc (.cells #[.string ⟨#[]⟩, .int .i64 0] 24)).drew X.heap.size 24 #[.string ⟨#[]⟩, .int .i64 0] := Blk.new X _ _; have P6 := Lib.hid (b6.kept k6); clear b6); clear hvc k6)
            | (go_at_call 34; refine (CF.out _ _ (H.out.kept (Kept.trans K0.out (Kept.trans KX.out (Kept.trans K6.out (by first | exact Below.refl _ _ | exact (Below.refl _ _).alloc (Nat.le_refl _) _))))) (HVC.out.kept (by first | exact Below.refl _ _ | exact (Below.refl _ _).alloc (Nat.le_refl _) _)).rd).mono ?_; rintro e w7 ⟨rfl, k7⟩; have K7 : Hid (Kept X w7) := Lib.hid (Kept.trans K6.out (Kept.trans (by first | exact Below.refl _ _ | exact (Below.refl _ _).alloc (Nat.le_refl _) _) k7)); have d07 := Kept.cell K7.out d0; have d17 := Kept.cell K7.out d1; have d27 := Kept.cell K7.out d2; have Z7 := K7.out.size; first | (have P7 := fnd_put ((P6.out).kept (show Kept w6 w7 from k7)); have e07 := P7.g0; have e17 := P7.g1; have i07 := P7.h0; have i17 := P7.h1; have l7 := P7.lt; have P7 := Lib.hid P7) | (have b7 : Blk (w6.alloc (.cells #[.string ⟨#[]⟩, .int .i64 0] 24)) w6.heap.size 24 #[.string ⟨#[]⟩, .int .i64 0] := Blk.new w6 _ _; have P7 := fnd_put (b7.kept k7); have e07 := P7.g0; have e17 := P7.g1; have i07 := P7.h0; have i17 := P7.h1; have l7 := P7.lt; have P7 := Lib.hid P7; clear b7) | skip; clear k7))
        all_goals
          clear d06 d16 d26 d07 d17 d27 d0 d1 d2
          first
            | (obtain ⟨W8, b, hW, hb, b8, k8, zb⟩ : ∃ W8 b, W8 = (w7.setCell ⟨X.heap.size, 0, none⟩ (.string ⟨#[]⟩)).setCell ⟨X.heap.size, 1, none⟩ (.int .i64 0) ∧ b = X.heap.size ∧ Blk W8 b 24 #[.string ⟨#[]⟩, .int .i64 0] ∧ Kept X W8 ∧ X.heap.size ≤ b := ⟨_, _, rfl, rfl, P7.out.set _ _, P7.out.keeps K7.out (Nat.le_refl _) _ _, Nat.le_refl _⟩; rw [← hW, ← hb]; clear hW hb e07 e17 i07 i17 l7)
            | (obtain ⟨W8, b, hW, hb, b8, k8, zb⟩ : ∃ W8 b, W8 = (w7.setCell ⟨w6.heap.size, 0, none⟩ (.string ⟨#[]⟩)).setCell ⟨w6.heap.size, 1, none⟩ (.int .i64 0) ∧ b = w6.heap.size ∧ Blk W8 b 24 #[.string ⟨#[]⟩, .int .i64 0] ∧ Kept X W8 ∧ X.heap.size ≤ b := ⟨_, _, rfl, rfl, P7.out.set _ _, P7.out.keeps K7.out Z6 _ _, Z6⟩; rw [← hW, ← hb]; clear hW hb e07 e17 i07 i17 l7)
            | (obtain ⟨W8, b, hW, hb, b8, k8, zb⟩ : ∃ W8 b, W8 = w7.alloc (.cells #[.string ⟨#[]⟩, .int .i64 0] 24) ∧ b = w7.heap.size ∧ Blk W8 b 24 #[.string ⟨#[]⟩, .int .i64 0] ∧ Kept X W8 ∧ X.heap.size ≤ b := ⟨_, _, rfl, rfl, Blk.new _ _ _, K7.out.alloc Z7 _, Z7⟩; rw [← hW, ← hb]; clear hW hb)
          have K8 := Lib.hid (Kept.trans KX.out k8)
          have BK8 := BKY.out.kept k8
          have BQ8 := B0.out.kept K8.out
          have c0 := b8.cell 0
          have c1 := b8.cell 1
          simp only [List.getElem?_toArray, List.getElem?_cons_succ, List.getElem?_cons_zero] at c0 c1
          have d0 := BK8.cell 0
          have d1 := BK8.cell 1
          have d2 := BK8.cell 2
          simp only [List.getElem?_toArray, List.getElem?_cons_succ, List.getElem?_cons_zero] at d0 d1 d2
          have q0 := BQ8.cell 0
          have q1 := BQ8.cell 1
          simp only [List.getElem?_toArray, List.getElem?_cons_succ, List.getElem?_cons_zero] at q0 q1
          have l8 := b8.lt
          have lk8 := BK8.lt
          have lq8 := BQ8.lt
          clear b8 k8 BK8 BQ8
        all_goals
          go_wp2_with fail
          refine (ref13_on D cls fc nm ds _ W8 (H.out.kept (Kept.trans K0.out K8.out)) HCS.out).mono ?_
          rintro e wZ ⟨rfl, kZ⟩
          obtain ⟨r, hr⟩ : ∃ r, r = onR D cls nm ds := ⟨_, rfl⟩
          rw [← hr]
          have HRR := Lib.hid hr
          have KZ_ := Lib.hid (Kept.trans K8.out kZ)
          clear kZ hr
          unfold resG
          have kp := KZ_.out
          have PF := fnd_put (B1.out.kept kp)
          have KP := Lib.hid (PF.keeps (Kept.trans K0.out kp) (by have := K0.out.size; omega))
          have g0 := PF.g0
          have g1 := PF.g1
          have h0 := PF.h0
          have h1 := PF.h1
          have zr := PF.lt
          have PF := Lib.hid PF
          clear kp
          have E0 := Lib.hid (PF.out.e0 (.string r.1.1))
          have E1 := Lib.hid (PF.out.e1 (.string r.1.1) (.int .i64 r.1.2))
          have PE := Lib.hid (fnd_put (PF.out.set (.string r.1.1) (.int .i64 r.1.2)))
          have HF := Lib.hid (show resG (ifaceR D cls fc fi) = resG r by unfold ifaceR; rw [if_pos HTH.out, HMO.out]; simp only; rw [if_pos HSB.out]; rw [HFR.out, HRR.out])
          go_wp2_with fail
          refine bodyPost_ret (v := resG (ifaceR D cls fc fi)) (by rw [HF.out]; simp [results, Try.results15, go_sem, E0.out, E1.out, PE.out.g0, PE.out.g1, resG]) rfl ⟨rfl, ?_⟩
          exact KP.out _ _
end Go.Proofs.Yteblpdcedlaedaa
