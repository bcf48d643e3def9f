/-
  Package choose by contract: Virtual, Face.
-/
import Derived.Test.YteblpdcedlaedaaCh4
import Derived.Test.YteblpdcedlaedaaFindR3
namespace Go.Proofs.Yteblpdcedlaedaa
open Go.RowKit
set_option maxRecDepth 100000

def acB : ByteArray := ⟨#[106, 97, 118, 97, 47, 108, 97, 110, 103, 47, 73, 108, 108, 101, 103, 97, 108, 65, 99, 99, 101, 115, 115, 69, 114, 114, 111, 114]⟩
def virtR (D : List TD) (cls fc : ByteArray) (fi : Int) : GR :=
  if there D cls then (match memO D fc fi with
    | none => (gz, nmB)
    | some m => if bits .and .i64 m.access 2 = 0 then (match frsL D (chainL D cls) m.name m.desc tkS with
        | some g => toldR D g.1 (g.2 : Nat)
        | none => onR D cls m.name m.desc) else toldR D fc fi) else (gz, nmB)
def ifaceR (D : List TD) (cls fc : ByteArray) (fi : Int) : GR :=
  if there D cls then (match memO D fc fi with
    | none => (gz, nmB)
    | some m => if subB D cls fc then (match frsL D (chainL D cls) m.name m.desc tkI with
        | some g => if bits .and .i64 (accO D g.1 (g.2 : Nat)) 1 = 0 then (gz, acB) else toldR D g.1 (g.2 : Nat)
        | none => onR D cls m.name m.desc) else (gz, chB)) else (gz, nmB)
theorem ask_no {D : List TD} {cls fc : ByteArray} {fi : Int} (h : ¬ there D cls ∨ memO D fc fi = none) : ∃ m, askV D cls fc fi = .tuple #[memVal_ m, .bool false] := by
  unfold askV
  rcases h with h | h
  · exact ⟨_, by rw [decide_eq_false h]; rfl⟩
  · exact ⟨memZ0, by rw [h]; simp⟩
theorem ask_yes {D : List TD} {cls fc : ByteArray} {fi : Int} {m : MemberV} (h : there D cls) (hm : memO D fc fi = some m) : askV D cls fc fi = .tuple #[memVal_ m, .bool true] := by
  unfold askV
  rw [decide_eq_true h, hm]
  rfl

set_option maxHeartbeats 8000000 in
theorem ch_Virtual (D : List TD) (cls fc : ByteArray) (fi : Int) (v : Value) (w : World) (h : TyR w v D) (hcs : cls.size ≤ maxLen) :
    Calls Try.prog 11 #[v, .string cls, .agg #[.string fc, .int .i64 fi]] w fun e w' => e = .returned (resG (virtR D cls fc fi)) ∧ Kept w w' := by
  have H := Lib.hid h
  have HCS := Lib.hid hcs
  have hDl := h.len
  have k0 : Kept w ((w.alloc (.cells #[.string fc, .int .i64 fi] 24)).alloc (.cells #[.string ⟨#[]⟩, .int .i64 0] 24)) := ((Below.refl _ _).alloc (Nat.le_refl _) _).alloc (by simp) _
  have b0 : Blk ((w.alloc (.cells #[.string fc, .int .i64 fi] 24)).alloc (.cells #[.string ⟨#[]⟩, .int .i64 0] 24)) w.heap.size 24 #[.string fc, .int .i64 fi] := (Blk.new w _ _).alloc _
  have b1 : Blk ((w.alloc (.cells #[.string fc, .int .i64 fi] 24)).alloc (.cells #[.string ⟨#[]⟩, .int .i64 0] 24)) (w.heap.size + 1) 24 #[.string ⟨#[]⟩, .int .i64 0] := Blk.at_ (by simp)
  have q0 := b0.cell 0
  have q1 := b0.cell 1
  simp only [List.getElem?_toArray, List.getElem?_cons_succ, List.getElem?_cons_zero] at q0 q1
  have zq := b0.lt
  have K0 := Lib.hid k0
  have B0 := Lib.hid b0
  have B1 := Lib.hid b1
  clear h hcs k0 b0 b1
  go_enter Try.func11, Try.ntmps11
  go_upto_region 1 with fail
  generalize ((w.alloc (.cells #[.string fc, .int .i64 fi] 24)).alloc (.cells #[.string ⟨#[]⟩, .int .i64 0] 24)) = W at *
  go_wp2_with fail
  refine (ch_asked D cls fc fi _ W (H.out.kept K0.out)).mono ?_
  rintro e w1 ⟨rfl, k1⟩
  clear q0 q1 zq
  by_cases hno : ¬ there D cls ∨ memO D fc fi = none
  · obtain ⟨⟨acc, nm, ds, has, val⟩, hav⟩ := ask_no hno
    rw [hav]
    have HV := Lib.hid (show (virtR D cls fc fi) = (gz, nmB) by
      unfold virtR
      rcases hno with h | h
      · rw [if_neg h]
      · rw [h]; split <;> rfl)
    have kx : Kept w1 (w1.alloc (.cells #[.int .i64 acc, .string nm, .string ds, .bool has, .int .i64 val] 38)) := (Below.refl _ _).alloc (Nat.le_refl _) _
    have KX := Lib.hid (Kept.trans k1 kx)
    clear hno hav k1 kx
    unfold memVal_
    go_upto_region 2 with fail
    generalize (w1.alloc (.cells #[.int .i64 acc, .string nm, .string ds, .bool has, .int .i64 val] 38)) = WX at *
    have kp := KX.out
    have PF := fnd_put (B1.out.kept kp)
    have KP := Lib.hid (PF.keeps (Kept.trans K0.out kp) (by have := K0.out.size; omega))
    have g0 := PF.g0
    have g1 := PF.g1
    have h0 := PF.h0
    have h1 := PF.h1
    have zr := PF.lt
    have PF := Lib.hid PF
    clear kp
    have E0 := Lib.hid (PF.out.e0 (.string ⟨#[]⟩))
    have E1 := Lib.hid (PF.out.e1 (.string ⟨#[]⟩) (.int .i64 0))
    have PE := Lib.hid (fnd_put (PF.out.set (.string ⟨#[]⟩) (.int .i64 0)))
    have HF := Lib.hid (show resG (virtR D cls fc fi) = resG (gz, nmB) by rw [HV.out])
    go_wp2_with fail
    refine bodyPost_ret (v := resG (virtR D cls fc fi)) (by rw [HF.out]; simp [results, Try.results11, go_sem, E0.out, E1.out, PE.out.g0, PE.out.g1, resG, gz, nmB]) rfl ⟨rfl, ?_⟩
    exact KP.out _ _
  · have hth : there D cls := Decidable.of_not_not fun a => hno (.inl a)
    obtain ⟨m, hm⟩ : ∃ m, memO D fc fi = some m := by
      cases hm : memO D fc fi with
      | none => exact absurd (.inr hm) hno
      | some m => exact ⟨m, rfl⟩
    rw [ask_yes hth hm]
    have HTH := Lib.hid hth
    have HMO := Lib.hid hm
    obtain ⟨acc, nm, ds, has, val⟩ := m
    have kx : Kept w1 (w1.alloc (.cells #[.int .i64 acc, .string nm, .string ds, .bool has, .int .i64 val] 38)) := (Below.refl _ _).alloc (Nat.le_refl _) _
    have bm := Blk.new w1 38 #[.int .i64 acc, .string nm, .string ds, .bool has, .int .i64 val]
    have KW := Lib.hid (Kept.trans k1 kx)
    clear hno hth hm k1 kx
    unfold memVal_
    go_upto_region 2 with fail
    generalize (w1.alloc (.cells #[.int .i64 acc, .string nm, .string ds, .bool has, .int .i64 val] 38)) = WX at *
    have bq := B0.out.kept KW.out
    have q0 := bq.cell 0
    have q1 := bq.cell 1
    simp only [List.getElem?_toArray, List.getElem?_cons_succ, List.getElem?_cons_zero] at q0 q1
    have m0 := bm.cell 0
    have m1 := bm.cell 1
    have m2 := bm.cell 2
    simp only [List.getElem?_toArray, List.getElem?_cons_succ, List.getElem?_cons_zero] at m0 m1 m2
    have zq := bq.lt
    have zm := bm.lt
    clear bq bm
    by_cases hb : bits .and .i64 acc 2 = 0
    · have e1 : (bits .and .i64 acc 2 != 0) = false := by simp [hb]
      have HB2 := Lib.hid hb
      clear hb
      have ky : Kept WX (WX.alloc (.cells #[.string nm, .string ds] 54)) := (Below.refl _ _).alloc (Nat.le_refl _) _
      have BKY := Lib.hid (Blk.new WX 54 #[.string nm, .string ds])
      have KX := Lib.hid (Kept.trans KW.out ky)
      obtain ⟨kb, hkb⟩ : ∃ b, b = WX.heap.size := ⟨_, rfl⟩
      rw [← hkb] at BKY
      clear ky
      go_upto_region 7 with fail
      rw [← hkb]
      generalize (WX.alloc (.cells #[.string nm, .string ds] 54)) = X at *
      have bky := BKY.out
      have d0 := bky.cell 0
      have d1 := bky.cell 1
      simp only [List.getElem?_toArray, List.getElem?_cons_succ, List.getElem?_cons_zero] at d0 d1
      have zk := bky.lt
      have nk3 : ¬ (kb = X.heap.size) := by omega
      have nk4 : ¬ (X.heap.size = kb) := by omega
      clear bky hkb q0 q1 zq m0 m1 m2 zm
      cases hfr : frsL D (chainL D cls) nm ds tkS with
      | some g =>
        have HFR := Lib.hid hfr
        have cf : ∀ (w' : World) (vc : Value), TyR w' v D → Rd w' 1 vc (chainL D cls).length ((chainL D cls).flatMap encS) → Calls Try.prog 26 #[v, vc, .agg #[.string nm, .string ds], .func (.func 24) #[] #[]] w' (fun e w'' => e = .returned (foV (frsL D (chainL D cls) nm ds tkS)) ∧ Kept w' w'') := fun w' vc h1 h2 => ch_firstS D (chainL D cls) nm ds v vc _ w' h1 rfl h2 (by have := (chainL_nms D cls).le; omega)
        rw [hfr] at cf
        unfold foV at cf
        have CF := Lib.hid cf
        clear hfr cf
        go_wp2_with fail
        go_region_held2 (fun w' => w'.cell? ⟨kb, 0, none⟩ = some (.string nm) ∧ w'.cell? ⟨kb, 1, none⟩ = some (.string ds)) (go_keep)
          (first
            | (go_at_call 27; refine (kin_Chain D cls _ _ (H.out.kept (Kept.trans K0.out (Kept.trans KX.out (by first | exact (Below.refl _ _).drew | exact ((Below.refl _ _).alloc (Nat.le_refl _) _).drew)))) HCS.out).mono ?_; rintro e w6 ⟨vc, rfl, hvc, k6⟩; have HVC := Lib.hid hvc; have K6 : Hid (Kept X w6) := Lib.hid (Kept.trans (by first | exact (Below.refl _ _).drew | exact ((Below.refl _ _).alloc (Nat.le_refl _) _).drew) k6); have d06 := Kept.cell K6.out d0; have d16 := Kept.cell K6.out d1; have Z6 := K6.out.size; have nk1 : ¬ (kb = w6.heap.size) := Nat.ne_of_lt (Nat.lt_of_lt_of_le zk Z6); have nk2 : ¬ (w6.heap.size = kb) := fun e => nk1 e.symm; try (have b6 : Blk (X.alloc (.cells #[.string ⟨#[]⟩, .int .i64 0] 24)).drew X.heap.size 24 #[.string ⟨#[]⟩, .int .i64 0] := Blk.new X _ _; have P6 := Lib.hid (b6.kept k6); clear b6); clear hvc k6)
            | (go_at_call 26; refine (CF.out _ _ (H.out.kept (Kept.trans K0.out (Kept.trans KX.out (Kept.trans K6.out (by first | exact Below.refl _ _ | exact (Below.refl _ _).alloc (Nat.le_refl _) _))))) (HVC.out.kept (by first | exact Below.refl _ _ | exact (Below.refl _ _).alloc (Nat.le_refl _) _)).rd).mono ?_; rintro e w7 ⟨rfl, k7⟩; have K7 : Hid (Kept X w7) := Lib.hid (Kept.trans K6.out (Kept.trans (by first | exact Below.refl _ _ | exact (Below.refl _ _).alloc (Nat.le_refl _) _) k7)); have d07 := Kept.cell K7.out d0; have d17 := Kept.cell K7.out d1; have Z7 := K7.out.size; first | (have P7 := fnd_put ((P6.out).kept (show Kept w6 w7 from k7)); have e07 := P7.g0; have e17 := P7.g1; have i07 := P7.h0; have i17 := P7.h1; have l7 := P7.lt; have P7 := Lib.hid P7) | (have b7 : Blk (w6.alloc (.cells #[.string ⟨#[]⟩, .int .i64 0] 24)) w6.heap.size 24 #[.string ⟨#[]⟩, .int .i64 0] := Blk.new w6 _ _; have P7 := fnd_put (b7.kept k7); have e07 := P7.g0; have e17 := P7.g1; have i07 := P7.h0; have i17 := P7.h1; have l7 := P7.lt; have P7 := Lib.hid P7; clear b7) | skip; clear k7))
        all_goals
          clear d06 d16 d07 d17 d0 d1
          first
            | (obtain ⟨W8, b, hW, hb, b8, k8, zb⟩ : ∃ W8 b, W8 = (w7.setCell ⟨X.heap.size, 0, none⟩ (.string g.1)).setCell ⟨X.heap.size, 1, none⟩ (.int .i64 g.2) ∧ b = X.heap.size ∧ Blk W8 b 24 #[.string g.1, .int .i64 g.2] ∧ Kept X W8 ∧ X.heap.size ≤ b := ⟨_, _, rfl, rfl, P7.out.set _ _, P7.out.keeps K7.out (Nat.le_refl _) _ _, Nat.le_refl _⟩; rw [← hW, ← hb]; clear hW hb e07 e17 i07 i17 l7)
            | (obtain ⟨W8, b, hW, hb, b8, k8, zb⟩ : ∃ W8 b, W8 = (w7.setCell ⟨w6.heap.size, 0, none⟩ (.string g.1)).setCell ⟨w6.heap.size, 1, none⟩ (.int .i64 g.2) ∧ b = w6.heap.size ∧ Blk W8 b 24 #[.string g.1, .int .i64 g.2] ∧ Kept X W8 ∧ X.heap.size ≤ b := ⟨_, _, rfl, rfl, P7.out.set _ _, P7.out.keeps K7.out Z6 _ _, Z6⟩; rw [← hW, ← hb]; clear hW hb e07 e17 i07 i17 l7)
            | (obtain ⟨W8, b, hW, hb, b8, k8, zb⟩ : ∃ W8 b, W8 = w7.alloc (.cells #[.string g.1, .int .i64 g.2] 24) ∧ b = w7.heap.size ∧ Blk W8 b 24 #[.string g.1, .int .i64 g.2] ∧ Kept X W8 ∧ X.heap.size ≤ b := ⟨_, _, rfl, rfl, Blk.new _ _ _, K7.out.alloc Z7 _, Z7⟩; rw [← hW, ← hb]; clear hW hb)
          have K8 := Lib.hid (Kept.trans KX.out k8)
          have BK8 := BKY.out.kept k8
          have BQ8 := B0.out.kept K8.out
          have c0 := b8.cell 0
          have c1 := b8.cell 1
          simp only [List.getElem?_toArray, List.getElem?_cons_succ, List.getElem?_cons_zero] at c0 c1
          have d0 := BK8.cell 0
          have d1 := BK8.cell 1
          simp only [List.getElem?_toArray, List.getElem?_cons_succ, List.getElem?_cons_zero] at d0 d1
          have q0 := BQ8.cell 0
          have q1 := BQ8.cell 1
          simp only [List.getElem?_toArray, List.getElem?_cons_succ, List.getElem?_cons_zero] at q0 q1
          have l8 := b8.lt
          have lk8 := BK8.lt
          have lq8 := BQ8.lt
          clear b8 k8 BK8 BQ8
        all_goals
          go_wp2_with fail
          refine (ch_told D g.1 g.2 _ W8 (H.out.kept (Kept.trans K0.out K8.out))).mono ?_
          rintro e wZ ⟨rfl, kZ⟩
          obtain ⟨r, hr⟩ : ∃ r, r = toldR D g.1 (g.2 : Nat) := ⟨_, rfl⟩
          rw [← hr]
          have HRR := Lib.hid hr
          have KZ_ := Lib.hid (Kept.trans K8.out kZ)
          clear kZ hr
          unfold resG
          have kp := KZ_.out
          have PF := fnd_put (B1.out.kept kp)
          have KP := Lib.hid (PF.keeps (Kept.trans K0.out kp) (by have := K0.out.size; omega))
          have g0 := PF.g0
          have g1 := PF.g1
          have h0 := PF.h0
          have h1 := PF.h1
          have zr := PF.lt
          have PF := Lib.hid PF
          clear kp
          have E0 := Lib.hid (PF.out.e0 (.string r.1.1))
          have E1 := Lib.hid (PF.out.e1 (.string r.1.1) (.int .i64 r.1.2))
          have PE := Lib.hid (fnd_put (PF.out.set (.string r.1.1) (.int .i64 r.1.2)))
          have HF := Lib.hid (show resG (virtR D cls fc fi) = resG r by unfold virtR; rw [if_pos HTH.out, HMO.out]; simp only; rw [if_pos HB2.out]; rw [HFR.out, HRR.out])
          go_wp2_with fail
          refine bodyPost_ret (v := resG (virtR D cls fc fi)) (by rw [HF.out]; simp [results, Try.results11, go_sem, E0.out, E1.out, PE.out.g0, PE.out.g1, resG]) rfl ⟨rfl, ?_⟩
          exact KP.out _ _
      | none =>
        have HFR := Lib.hid hfr
        have cf : ∀ (w' : World) (vc : Value), TyR w' v D → Rd w' 1 vc (chainL D cls).length ((chainL D cls).flatMap encS) → Calls Try.prog 26 #[v, vc, .agg #[.string nm, .string ds], .func (.func 24) #[] #[]] w' (fun e w'' => e = .returned (foV (frsL D (chainL D cls) nm ds tkS)) ∧ Kept w' w'') := fun w' vc h1 h2 => ch_firstS D (chainL D cls) nm ds v vc _ w' h1 rfl h2 (by have := (chainL_nms D cls).le; omega)
        rw [hfr] at cf
        unfold foV at cf
        have CF := Lib.hid cf
        clear hfr cf
        go_wp2_with fail
        go_region_held2 (fun w' => w'.cell? ⟨kb, 0, none⟩ = some (.string nm) ∧ w'.cell? ⟨kb, 1, none⟩ = some (.string ds)) (go_keep)
          (first
            | (go_at_call 27; refine (kin_Chain D cls _ _ (H.out.kept (Kept.trans K0.out (Kept.trans KX.out (by first | exact (Below.refl _ _).drew | exact ((Below.refl _ _).alloc (Nat.le_refl _) _).drew)))) HCS.out).mono ?_; rintro e w6 ⟨vc, rfl, hvc, k6⟩; have HVC := Lib.hid hvc; have K6 : Hid (Kept X w6) := Lib.hid (Kept.trans (by first | exact (Below.refl _ _).drew | exact ((Below.refl _ _).alloc (Nat.le_refl _) _).drew) k6); have d06 := Kept.cell K6.out d0; have d16 := Kept.cell K6.out d1; have Z6 := K6.out.size; have nk1 : ¬ (kb = w6.heap.size) := Nat.ne_of_lt (Nat.lt_of_lt_of_le zk Z6); have nk2 : ¬ (w6.heap.size = kb) := fun e => nk1 e.symm; try (have b6 : Blk (X.alloc (.cells #[.string ⟨#[]⟩, .int .i64 0] 24)).drew X.heap.size 24 #[.string ⟨#[]⟩, .int .i64 0] := Blk.new X _ _; have P6 := Lib.hid (b6.kept k6); clear b6); clear hvc k6)
            | (go_at_call 26; refine (CF.out _ _ (H.out.kept (Kept.trans K0.out (Kept.trans KX.out (Kept.trans K6.out (by first | exact Below.refl _ _ | exact (Below.refl _ _).alloc (Nat.le_refl _) _))))) (HVC.out.kept (by first | exact Below.refl _ _ | exact (Below.refl _ _).alloc (Nat.le_refl _) _)).rd).mono ?_; rintro e w7 ⟨rfl, k7⟩; have K7 : Hid (Kept X w7) := Lib.hid (Kept.trans K6.out (Kept.trans (by first | exact Below.refl _ _ | exact (Below.refl _ _).alloc (Nat.le_refl _) _) k7)); have d07 := Kept.cell K7.out d0; have d17 := Kept.cell K7.out d1; have Z7 := K7.out.size; first | (have P7 := fnd_put ((P6.out).kept (show Kept w6 w7 from k7)); have e07 := P7.g0; have e17 := P7.g1; have i07 := P7.h0; have i17 := P7.h1; have l7 := P7.lt; have P7 := Lib.hid P7) | (have b7 : Blk (w6.alloc (.cells #[.string ⟨#[]⟩, .int .i64 0] 24)) w6.heap.size 24 #[.string ⟨#[]⟩, .int .i64 0] := Blk.new w6 _ _; have P7 := fnd_put (b7.kept k7); have e07 := P7.g0; have e17 := P7.g1; have i07 := P7.h0; have i17 := P7.h1; have l7 := P7.lt; have P7 := Lib.hid P7; clear b7) | skip; clear k7))
        all_goals
          clear d06 d16 d07 d17 d0 d1
          first
            | (obtain ⟨W8, b, hW, hb, b8, k8, zb⟩ : ∃ W8 b, W8 = (w7.setCell ⟨X.heap.size, 0, none⟩ (.string ⟨#[]⟩)).setCell ⟨X.heap.size, 1, none⟩ (.int .i64 0) ∧ b = X.heap.size ∧ Blk W8 b 24 #[.string ⟨#[]⟩, .int .i64 0] ∧ Kept X W8 ∧ X.heap.size ≤ b := ⟨_, _, rfl, rfl, P7.out.set _ _, P7.out.keeps K7.out (Nat.le_refl _) _ _, Nat.le_refl _⟩; rw [← hW, ← hb]; clear hW hb e07 e17 i07 i17 l7)
            | (obtain ⟨W8, b, hW, hb, b8, k8, zb⟩ : ∃ W8 b, W8 = (w7.setCell ⟨w6.heap.size, 0, none⟩ (.string ⟨#[]⟩)).setCell ⟨w6.heap.size, 1, none⟩ (.int .i64 0) ∧ b = w6.heap.size ∧ Blk W8 b 24 #[.string ⟨#[]⟩, .int .i64 0] ∧ Kept X W8 ∧ X.heap.size ≤ b := ⟨_, _, rfl, rfl, P7.out.set _ _, P7.out.keeps K7.out Z6 _ _, Z6⟩; rw [← hW, ← hb]; clear hW hb e07 e17 i07 i17 l7)
            | (obtain ⟨W8, b, hW, hb, b8, k8, zb⟩ : ∃ W8 b, W8 = w7.alloc (.cells #[.string ⟨#[]⟩, .int .i64 0] 24) ∧ b = w7.heap.size ∧ Blk W8 b 24 #[.string ⟨#[]⟩, .int .i64 0] ∧ Kept X W8 ∧ X.heap.size ≤ b := ⟨_, _, rfl, rfl, Blk.new _ _ _, K7.out.alloc Z7 _, Z7⟩; rw [← hW, ← hb]; clear hW hb)
          have K8 := Lib.hid (Kept.trans KX.out k8)
          have BK8 := BKY.out.kept k8
          have BQ8 := B0.out.kept K8.out
          have c0 := b8.cell 0
          have c1 := b8.cell 1
          simp only [List.getElem?_toArray, List.getElem?_cons_succ, List.getElem?_cons_zero] at c0 c1
          have d0 := BK8.cell 0
          have d1 := BK8.cell 1
          simp only [List.getElem?_toArray, List.getElem?_cons_succ, List.getElem?_cons_zero] at d0 d1
          have q0 := BQ8.cell 0
          have q1 := BQ8.cell 1
          simp only [List.getElem?_toArray, List.getElem?_cons_succ, List.getElem?_cons_zero] at q0 q1
          have l8 := b8.lt
          have lk8 := BK8.lt
          have lq8 := BQ8.lt
          clear b8 k8 BK8 BQ8
        all_goals
          go_wp2_with fail
          refine (ch_on D cls nm ds _ W8 (H.out.kept (Kept.trans K0.out K8.out)) HCS.out).mono ?_
          rintro e wZ ⟨rfl, kZ⟩
          obtain ⟨r, hr⟩ : ∃ r, r = onR D cls nm ds := ⟨_, rfl⟩
          rw [← hr]
          have HRR := Lib.hid hr
          have KZ_ := Lib.hid (Kept.trans K8.out kZ)
          clear kZ hr
          unfold resG
          have kp := KZ_.out
          have PF := fnd_put (B1.out.kept kp)
          have KP := Lib.hid (PF.keeps (Kept.trans K0.out kp) (by have := K0.out.size; omega))
          have g0 := PF.g0
          have g1 := PF.g1
          have h0 := PF.h0
          have h1 := PF.h1
          have zr := PF.lt
          have PF := Lib.hid PF
          clear kp
          have E0 := Lib.hid (PF.out.e0 (.string r.1.1))
          have E1 := Lib.hid (PF.out.e1 (.string r.1.1) (.int .i64 r.1.2))
          have PE := Lib.hid (fnd_put (PF.out.set (.string r.1.1) (.int .i64 r.1.2)))
          have HF := Lib.hid (show resG (virtR D cls fc fi) = resG r by unfold virtR; rw [if_pos HTH.out, HMO.out]; simp only; rw [if_pos HB2.out]; rw [HFR.out, HRR.out])
          go_wp2_with fail
          refine bodyPost_ret (v := resG (virtR D cls fc fi)) (by rw [HF.out]; simp [results, Try.results11, go_sem, E0.out, E1.out, PE.out.g0, PE.out.g1, resG]) rfl ⟨rfl, ?_⟩
          exact KP.out _ _
    · have e1 : (bits .and .i64 acc 2 != 0) = true := by simp [hb]
      have HB2 := Lib.hid hb
      clear hb
      go_wp2_with fail
      refine (ch_told D fc fi _ WX (H.out.kept (Kept.trans K0.out KW.out))).mono ?_
      rintro e wZ ⟨rfl, kZ⟩
      obtain ⟨r, hr⟩ : ∃ r, r = toldR D fc fi := ⟨_, rfl⟩
      rw [← hr]
      have HRR := Lib.hid hr
      have KZ_ := Lib.hid (Kept.trans KW.out kZ)
      clear kZ hr
      unfold resG
      have kp := KZ_.out
      have PF := fnd_put (B1.out.kept kp)
      have KP := Lib.hid (PF.keeps (Kept.trans K0.out kp) (by have := K0.out.size; omega))
      have g0 := PF.g0
      have g1 := PF.g1
      have h0 := PF.h0
      have h1 := PF.h1
      have zr := PF.lt
      have PF := Lib.hid PF
      clear kp
      have E0 := Lib.hid (PF.out.e0 (.string r.1.1))
      have E1 := Lib.hid (PF.out.e1 (.string r.1.1) (.int .i64 r.1.2))
      have PE := Lib.hid (fnd_put (PF.out.set (.string r.1.1) (.int .i64 r.1.2)))
      have HF := Lib.hid (show resG (virtR D cls fc fi) = resG r by unfold virtR; rw [if_pos HTH.out, HMO.out]; simp only; rw [if_neg HB2.out, HRR.out])
      go_wp2_with fail
      refine bodyPost_ret (v := resG (virtR D cls fc fi)) (by rw [HF.out]; simp [results, Try.results11, go_sem, E0.out, E1.out, PE.out.g0, PE.out.g1, resG]) rfl ⟨rfl, ?_⟩
      exact KP.out _ _

set_option maxHeartbeats 8000000 in
theorem ch_Face (D : List TD) (cls fc : ByteArray) (fi : Int) (v : Value) (w : World) (h : TyR w v D) (hcs : cls.size ≤ maxLen) :
    Calls Try.prog 12 #[v, .string cls, .agg #[.string fc, .int .i64 fi]] w fun e w' => e = .returned (resG (ifaceR D cls fc fi)) ∧ Kept w w' := by
  have H := Lib.hid h
  have HCS := Lib.hid hcs
  have hDl := h.len
  have k0 : Kept w ((w.alloc (.cells #[.string fc, .int .i64 fi] 24)).alloc (.cells #[.string ⟨#[]⟩, .int .i64 0] 24)) := ((Below.refl _ _).alloc (Nat.le_refl _) _).alloc (by simp) _
  have b0 : Blk ((w.alloc (.cells #[.string fc, .int .i64 fi] 24)).alloc (.cells #[.string ⟨#[]⟩, .int .i64 0] 24)) w.heap.size 24 #[.string fc, .int .i64 fi] := (Blk.new w _ _).alloc _
  have b1 : Blk ((w.alloc (.cells #[.string fc, .int .i64 fi] 24)).alloc (.cells #[.string ⟨#[]⟩, .int .i64 0] 24)) (w.heap.size + 1) 24 #[.string ⟨#[]⟩, .int .i64 0] := Blk.at_ (by simp)
  have q0 := b0.cell 0
  have q1 := b0.cell 1
  simp only [List.getElem?_toArray, List.getElem?_cons_succ, List.getElem?_cons_zero] at q0 q1
  have zq := b0.lt
  have K0 := Lib.hid k0
  have B0 := Lib.hid b0
  have B1 := Lib.hid b1
  clear h hcs k0 b0 b1
  go_enter Try.func12, Try.ntmps12
  go_upto_region 1 with fail
  generalize ((w.alloc (.cells #[.string fc, .int .i64 fi] 24)).alloc (.cells #[.string ⟨#[]⟩, .int .i64 0] 24)) = W at *
  go_wp2_with fail
  refine (ch_asked D cls fc fi _ W (H.out.kept K0.out)).mono ?_
  rintro e w1 ⟨rfl, k1⟩
  clear q0 q1 zq
  by_cases hno : ¬ there D cls ∨ memO D fc fi = none
  · obtain ⟨⟨acc, nm, ds, has, val⟩, hav⟩ := ask_no hno
    rw [hav]
    have HV := Lib.hid (show (ifaceR D cls fc fi) = (gz, nmB) by
      unfold ifaceR
      rcases hno with h | h
      · rw [if_neg h]
      · rw [h]; split <;> rfl)
    have kx : Kept w1 (w1.alloc (.cells #[.int .i64 acc, .string nm, .string ds, .bool has, .int .i64 val] 38)) := (Below.refl _ _).alloc (Nat.le_refl _) _
    have KX := Lib.hid (Kept.trans k1 kx)
    clear hno hav k1 kx
    unfold memVal_
    go_upto_region 2 with fail
    generalize (w1.alloc (.cells #[.int .i64 acc, .string nm, .string ds, .bool has, .int .i64 val] 38)) = WX at *
    have kp := KX.out
    have PF := fnd_put (B1.out.kept kp)
    have KP := Lib.hid (PF.keeps (Kept.trans K0.out kp) (by have := K0.out.size; omega))
    have g0 := PF.g0
    have g1 := PF.g1
    have h0 := PF.h0
    have h1 := PF.h1
    have zr := PF.lt
    have PF := Lib.hid PF
    clear kp
    have E0 := Lib.hid (PF.out.e0 (.string ⟨#[]⟩))
    have E1 := Lib.hid (PF.out.e1 (.string ⟨#[]⟩) (.int .i64 0))
    have PE := Lib.hid (fnd_put (PF.out.set (.string ⟨#[]⟩) (.int .i64 0)))
    have HF := Lib.hid (show resG (ifaceR D cls fc fi) = resG (gz, nmB) by rw [HV.out])
    go_wp2_with fail
    refine bodyPost_ret (v := resG (ifaceR D cls fc fi)) (by rw [HF.out]; simp [results, Try.results12, go_sem, E0.out, E1.out, PE.out.g0, PE.out.g1, resG, gz, nmB]) rfl ⟨rfl, ?_⟩
    exact KP.out _ _
  · have hth : there D cls := Decidable.of_not_not fun a => hno (.inl a)
    obtain ⟨m, hm⟩ : ∃ m, memO D fc fi = some m := by
      cases hm : memO D fc fi with
      | none => exact absurd (.inr hm) hno
      | some m => exact ⟨m, rfl⟩
    rw [ask_yes hth hm]
    have HTH := Lib.hid hth
    have HMO := Lib.hid hm
    obtain ⟨acc, nm, ds, has, val⟩ := m
    have kx : Kept w1 (w1.alloc (.cells #[.int .i64 acc, .string nm, .string ds, .bool has, .int .i64 val] 38)) := (Below.refl _ _).alloc (Nat.le_refl _) _
    have bm := Blk.new w1 38 #[.int .i64 acc, .string nm, .string ds, .bool has, .int .i64 val]
    have KW := Lib.hid (Kept.trans k1 kx)
    clear hno hth hm k1 kx
    unfold memVal_
    go_upto_region 2 with fail
    generalize (w1.alloc (.cells #[.int .i64 acc, .string nm, .string ds, .bool has, .int .i64 val] 38)) = WX at *
    have bq := B0.out.kept KW.out
    have q0 := bq.cell 0
    have q1 := bq.cell 1
    simp only [List.getElem?_toArray, List.getElem?_cons_succ, List.getElem?_cons_zero] at q0 q1
    have m0 := bm.cell 0
    have m1 := bm.cell 1
    have m2 := bm.cell 2
    simp only [List.getElem?_toArray, List.getElem?_cons_succ, List.getElem?_cons_zero] at m0 m1 m2
    have zq := bq.lt
    have zm := bm.lt
    clear bq bm
    have CS := kin_Sub D cls fc _ WX (H.out.kept (Kept.trans K0.out KW.out)) HCS.out
    cases hsb : decide (subB D cls fc) with
    | false =>
      rw [hsb] at CS
      have HSB := Lib.hid (of_decide_eq_false hsb)
      have CS := Lib.hid CS
      clear hsb
      go_wp2_with fail
      refine CS.out.mono ?_
      rintro e w3 ⟨rfl, k3⟩
      have K3 := Lib.hid (Kept.trans KW.out k3)
      clear k3 CS q0 q1 zq m0 m1 m2 zm
      have kp := K3.out
      have PF := fnd_put (B1.out.kept kp)
      have KP := Lib.hid (PF.keeps (Kept.trans K0.out kp) (by have := K0.out.size; omega))
      have g0 := PF.g0
      have g1 := PF.g1
      have h0 := PF.h0
      have h1 := PF.h1
      have zr := PF.lt
      have PF := Lib.hid PF
      clear kp
      have E0 := Lib.hid (PF.out.e0 (.string ⟨#[]⟩))
      have E1 := Lib.hid (PF.out.e1 (.string ⟨#[]⟩) (.int .i64 0))
      have PE := Lib.hid (fnd_put (PF.out.set (.string ⟨#[]⟩) (.int .i64 0)))
      have HF := Lib.hid (show resG (ifaceR D cls fc fi) = resG (gz, chB) by unfold ifaceR; rw [if_pos HTH.out, HMO.out]; simp only; rw [if_neg HSB.out])
      go_wp2_with fail
      refine bodyPost_ret (v := resG (ifaceR D cls fc fi)) (by rw [HF.out]; simp [results, Try.results12, go_sem, E0.out, E1.out, PE.out.g0, PE.out.g1, resG, gz, chB]) rfl ⟨rfl, ?_⟩
      exact KP.out _ _
    | true =>
      rw [hsb] at CS
      have HSB := Lib.hid (of_decide_eq_true hsb)
      have CS := Lib.hid CS
      clear hsb
      go_wp2_with fail
      refine CS.out.mono ?_
      rintro e w3 ⟨rfl, k3⟩
      have m0 := Kept.cell k3 m0
      have m1 := Kept.cell k3 m1
      have m2 := Kept.cell k3 m2
      have zm := Nat.lt_of_lt_of_le zm k3.size
      have K3 := Lib.hid (Kept.trans KW.out k3)
      have q0 := Kept.cell k3 q0
      have q1 := Kept.cell k3 q1
      have zq := Nat.lt_of_lt_of_le zq k3.size
      clear k3 CS
      have ky : Kept w3 (w3.alloc (.cells #[.string nm, .string ds] 54)) := (Below.refl _ _).alloc (Nat.le_refl _) _
      have BKY := Lib.hid (Blk.new w3 54 #[.string nm, .string ds])
      have KX := Lib.hid (Kept.trans K3.out ky)
      obtain ⟨kb, hkb⟩ : ∃ b, b = w3.heap.size := ⟨_, rfl⟩
      rw [← hkb] at BKY
      clear ky
      go_upto_region 7 with fail
      rw [← hkb]
      generalize (w3.alloc (.cells #[.string nm, .string ds] 54)) = X at *
      have bky := BKY.out
      have d0 := bky.cell 0
      have d1 := bky.cell 1
      simp only [List.getElem?_toArray, List.getElem?_cons_succ, List.getElem?_cons_zero] at d0 d1
      have zk := bky.lt
      have nk3 : ¬ (kb = X.heap.size) := by omega
      have nk4 : ¬ (X.heap.size = kb) := by omega
      clear bky hkb q0 q1 zq m0 m1 m2 zm
      cases hfr : frsL D (chainL D cls) nm ds tkI with
      | some g =>
        have HFR := Lib.hid hfr
        have cf : ∀ (w' : World) (vc : Value), TyR w' v D → Rd w' 1 vc (chainL D cls).length ((chainL D cls).flatMap encS) → Calls Try.prog 26 #[v, vc, .agg #[.string nm, .string ds], .func (.func 25) #[] #[]] w' (fun e w'' => e = .returned (foV (frsL D (chainL D cls) nm ds tkI)) ∧ Kept w' w'') := fun w' vc h1 h2 => ch_firstI D (chainL D cls) nm ds v vc _ w' h1 rfl h2 (by have := (chainL_nms D cls).le; omega)
        rw [hfr] at cf
        unfold foV at cf
        have CF := Lib.hid cf
        clear hfr cf
        go_wp2_with fail
        go_region_held2 (fun w' => w'.cell? ⟨kb, 0, none⟩ = some (.string nm) ∧ w'.cell? ⟨kb, 1, none⟩ = some (.string ds)) (go_keep)
          (first
            | (go_at_call 27; refine (kin_Chain D cls _ _ (H.out.kept (Kept.trans K0.out (Kept.trans KX.out (by first | exact (Below.refl _ _).drew | exact ((Below.refl _ _).alloc (Nat.le_refl _) _).drew)))) HCS.out).mono ?_; rintro e w6 ⟨vc, rfl, hvc, k6⟩; have HVC := Lib.hid hvc; have K6 : Hid (Kept X w6) := Lib.hid (Kept.trans (by first | exact (Below.refl _ _).drew | exact ((Below.refl _ _).alloc (Nat.le_refl _) _).drew) k6); have d06 := Kept.cell K6.out d0; have d16 := Kept.cell K6.out d1; have Z6 := K6.out.size; have nk1 : ¬ (kb = w6.heap.size) := Nat.ne_of_lt (Nat.lt_of_lt_of_le zk Z6); have nk2 : ¬ (w6.heap.size = kb) := fun e => nk1 e.symm; try (have b6 : Blk (X.alloc (.cells #[.string ⟨#[]⟩, .int .i64 0] 24)).drew X.heap.size 24 #[.string ⟨#[]⟩, .int .i64 0] := Blk.new X _ _; have P6 := Lib.hid (b6.kept k6); clear b6); clear hvc k6)
            | (go_at_call 26; refine (CF.out _ _ (H.out.kept (Kept.trans K0.out (Kept.trans KX.out (Kept.trans K6.out (by first | exact Below.refl _ _ | exact (Below.refl _ _).alloc (Nat.le_refl _) _))))) (HVC.out.kept (by first | exact Below.refl _ _ | exact (Below.refl _ _).alloc (Nat.le_refl _) _)).rd).mono ?_; rintro e w7 ⟨rfl, k7⟩; have K7 : Hid (Kept X w7) := Lib.hid (Kept.trans K6.out (Kept.trans (by first | exact Below.refl _ _ | exact (Below.refl _ _).alloc (Nat.le_refl _) _) k7)); have d07 := Kept.cell K7.out d0; have d17 := Kept.cell K7.out d1; have Z7 := K7.out.size; first | (have P7 := fnd_put ((P6.out).kept (show Kept w6 w7 from k7)); have e07 := P7.g0; have e17 := P7.g1; have i07 := P7.h0; have i17 := P7.h1; have l7 := P7.lt; have P7 := Lib.hid P7) | (have b7 : Blk (w6.alloc (.cells #[.string ⟨#[]⟩, .int .i64 0] 24)) w6.heap.size 24 #[.string ⟨#[]⟩, .int .i64 0] := Blk.new w6 _ _; have P7 := fnd_put (b7.kept k7); have e07 := P7.g0; have e17 := P7.g1; have i07 := P7.h0; have i17 := P7.h1; have l7 := P7.lt; have P7 := Lib.hid P7; clear b7) | skip; clear k7))
        all_goals
          clear d06 d16 d07 d17 d0 d1
          first
            | (obtain ⟨W8, b, hW, hb, b8, k8, zb⟩ : ∃ W8 b, W8 = (w7.setCell ⟨X.heap.size, 0, none⟩ (.string g.1)).setCell ⟨X.heap.size, 1, none⟩ (.int .i64 g.2) ∧ b = X.heap.size ∧ Blk W8 b 24 #[.string g.1, .int .i64 g.2] ∧ Kept X W8 ∧ X.heap.size ≤ b := ⟨_, _, rfl, rfl, P7.out.set _ _, P7.out.keeps K7.out (Nat.le_refl _) _ _, Nat.le_refl _⟩; rw [← hW, ← hb]; clear hW hb e07 e17 i07 i17 l7)
            | (obtain ⟨W8, b, hW, hb, b8, k8, zb⟩ : ∃ W8 b, W8 = (w7.setCell ⟨w6.heap.size, 0, none⟩ (.string g.1)).setCell ⟨w6.heap.size, 1, none⟩ (.int .i64 g.2) ∧ b = w6.heap.size ∧ Blk W8 b 24 #[.string g.1, .int .i64 g.2] ∧ Kept X W8 ∧ X.heap.size ≤ b := ⟨_, _, rfl, rfl, P7.out.set _ _, P7.out.keeps K7.out Z6 _ _, Z6⟩; rw [← hW, ← hb]; clear hW hb e07 e17 i07 i17 l7)
            | (obtain ⟨W8, b, hW, hb, b8, k8, zb⟩ : ∃ W8 b, W8 = w7.alloc (.cells #[.string g.1, .int .i64 g.2] 24) ∧ b = w7.heap.size ∧ Blk W8 b 24 #[.string g.1, .int .i64 g.2] ∧ Kept X W8 ∧ X.heap.size ≤ b := ⟨_, _, rfl, rfl, Blk.new _ _ _, K7.out.alloc Z7 _, Z7⟩; rw [← hW, ← hb]; clear hW hb)
          have K8 := Lib.hid (Kept.trans KX.out k8)
          have BK8 := BKY.out.kept k8
          have BQ8 := B0.out.kept K8.out
          have c0 := b8.cell 0
          have c1 := b8.cell 1
          simp only [List.getElem?_toArray, List.getElem?_cons_succ, List.getElem?_cons_zero] at c0 c1
          have d0 := BK8.cell 0
          have d1 := BK8.cell 1
          simp only [List.getElem?_toArray, List.getElem?_cons_succ, List.getElem?_cons_zero] at d0 d1
          have q0 := BQ8.cell 0
          have q1 := BQ8.cell 1
          simp only [List.getElem?_toArray, List.getElem?_cons_succ, List.getElem?_cons_zero] at q0 q1
          have l8 := b8.lt
          have lk8 := BK8.lt
          have lq8 := BQ8.lt
          clear b8 k8 BK8 BQ8
        all_goals
          go_wp2_with fail
          refine (ch_member D g.1 g.2 _ W8 (H.out.kept (Kept.trans K0.out K8.out))).mono ?_
          rintro e w9 ⟨rfl, k9⟩
          obtain ⟨m2, hm2⟩ : ∃ m, m = (memO D g.1 (g.2 : Nat)).getD memZ0 := ⟨_, rfl⟩
          unfold memOV memVal_
          rw [← hm2]
          have HACC := Lib.hid (show accO D g.1 (g.2 : Nat) = m2.access by unfold accO; rw [hm2])
          obtain ⟨bb, hbb⟩ : ∃ b, b = (memO D g.1 (g.2 : Nat)).isSome := ⟨_, rfl⟩
          rw [← hbb]
          obtain ⟨acc2, nm2, ds2, has2, val2⟩ := m2
          simp only at HACC ⊢
          have kb9 : Kept w9 (w9.alloc (.cells #[.int .i64 acc2, .string nm2, .string ds2, .bool has2, .int .i64 val2] 38)) := (Below.refl _ _).alloc (Nat.le_refl _) _
          have bm := Blk.new w9 38 #[.int .i64 acc2, .string nm2, .string ds2, .bool has2, .int .i64 val2]
          have KA := Lib.hid (Kept.trans K8.out (Kept.trans k9 kb9))
          have cA := Kept.cell (Kept.trans k9 kb9) c0
          have cB := Kept.cell (Kept.trans k9 kb9) c1
          have lA : b < (w9.alloc (.cells #[.int .i64 acc2, .string nm2, .string ds2, .bool has2, .int .i64 val2] 38)).heap.size := Nat.lt_of_lt_of_le l8 (Kept.trans k9 kb9).size
          clear hm2 hbb k9 kb9 c0 c1 l8 d0 d1 q0 q1 lk8 lq8
          go_upto_region 10 with fail
          generalize (w9.alloc (.cells #[.int .i64 acc2, .string nm2, .string ds2, .bool has2, .int .i64 val2] 38)) = WA at *
          have t0 := bm.cell 0
          simp only [List.getElem?_toArray, List.getElem?_cons_succ, List.getElem?_cons_zero] at t0
          have tl := bm.lt
          clear bm
          by_cases hpa : bits .and .i64 acc2 1 = 0
          · have e1 : (bits .and .i64 acc2 1 == 0) = true := by simp [hpa]
            have HPA := Lib.hid hpa
            clear hpa
            have kp := KA.out
            have PF := fnd_put (B1.out.kept kp)
            have KP := Lib.hid (PF.keeps (Kept.trans K0.out kp) (by have := K0.out.size; omega))
            have g0 := PF.g0
            have g1 := PF.g1
            have h0 := PF.h0
            have h1 := PF.h1
            have zr := PF.lt
            have PF := Lib.hid PF
            clear kp
            have E0 := Lib.hid (PF.out.e0 (.string ⟨#[]⟩))
            have E1 := Lib.hid (PF.out.e1 (.string ⟨#[]⟩) (.int .i64 0))
            have PE := Lib.hid (fnd_put (PF.out.set (.string ⟨#[]⟩) (.int .i64 0)))
            have HF := Lib.hid (show resG (ifaceR D cls fc fi) = resG (gz, acB) by unfold ifaceR; rw [if_pos HTH.out, HMO.out]; simp only; rw [if_pos HSB.out]; rw [HFR.out]; simp only; rw [HACC.out, if_pos HPA.out])
            go_wp2_with fail
            refine bodyPost_ret (v := resG (ifaceR D cls fc fi)) (by rw [HF.out]; simp [results, Try.results12, go_sem, E0.out, E1.out, PE.out.g0, PE.out.g1, resG, gz, acB]) rfl ⟨rfl, ?_⟩
            exact KP.out _ _
          · have e1 : (bits .and .i64 acc2 1 == 0) = false := by simp [hpa]
            have HPA := Lib.hid hpa
            clear hpa
            go_wp2_with fail
            refine (ch_told D g.1 g.2 _ WA (H.out.kept (Kept.trans K0.out KA.out))).mono ?_
            rintro e wZ ⟨rfl, kZ⟩
            obtain ⟨r, hr⟩ : ∃ r, r = toldR D g.1 (g.2 : Nat) := ⟨_, rfl⟩
            rw [← hr]
            have HRR := Lib.hid hr
            have KZ_ := Lib.hid (Kept.trans KA.out kZ)
            clear kZ hr
            unfold resG
            have kp := KZ_.out
            have PF := fnd_put (B1.out.kept kp)
            have KP := Lib.hid (PF.keeps (Kept.trans K0.out kp) (by have := K0.out.size; omega))
            have g0 := PF.g0
            have g1 := PF.g1
            have h0 := PF.h0
            have h1 := PF.h1
            have zr := PF.lt
            have PF := Lib.hid PF
            clear kp
            have E0 := Lib.hid (PF.out.e0 (.string r.1.1))
            have E1 := Lib.hid (PF.out.e1 (.string r.1.1) (.int .i64 r.1.2))
            have PE := Lib.hid (fnd_put (PF.out.set (.string r.1.1) (.int .i64 r.1.2)))
            have HF := Lib.hid (show resG (ifaceR D cls fc fi) = resG r by unfold ifaceR; rw [if_pos HTH.out, HMO.out]; simp only; rw [if_pos HSB.out]; rw [HFR.out]; simp only; rw [HACC.out, if_neg HPA.out, HRR.out])
            go_wp2_with fail
            refine bodyPost_ret (v := resG (ifaceR D cls fc fi)) (by rw [HF.out]; simp [results, Try.results12, go_sem, E0.out, E1.out, PE.out.g0, PE.out.g1, resG]) rfl ⟨rfl, ?_⟩
            exact KP.out _ _
      | none =>
        have HFR := Lib.hid hfr
        have cf : ∀ (w' : World) (vc : Value), TyR w' v D → Rd w' 1 vc (chainL D cls).length ((chainL D cls).flatMap encS) → Calls Try.prog 26 #[v, vc, .agg #[.string nm, .string ds], .func (.func 25) #[] #[]] w' (fun e w'' => e = .returned (foV (frsL D (chainL D cls) nm ds tkI)) ∧ Kept w' w'') := fun w' vc h1 h2 => ch_firstI D (chainL D cls) nm ds v vc _ w' h1 rfl h2 (by have := (chainL_nms D cls).le; omega)
        rw [hfr] at cf
        unfold foV at cf
        have CF := Lib.hid cf
        clear hfr cf
        go_wp2_with fail
        go_region_held2 (fun w' => w'.cell? ⟨kb, 0, none⟩ = some (.string nm) ∧ w'.cell? ⟨kb, 1, none⟩ = some (.string ds)) (go_keep)
          (first
            | (go_at_call 27; refine (kin_Chain D cls _ _ (H.out.kept (Kept.trans K0.out (Kept.trans KX.out (by first | exact (Below.refl _ _).drew | exact ((Below.refl _ _).alloc (Nat.le_refl _) _).drew)))) HCS.out).mono ?_; rintro e w6 ⟨vc, rfl, hvc, k6⟩; have HVC := Lib.hid hvc; have K6 : Hid (Kept X w6) := Lib.hid (Kept.trans (by first | exact (Below.refl _ _).drew | exact ((Below.refl _ _).alloc (Nat.le_refl _) _).drew) k6); have d06 := Kept.cell K6.out d0; have d16 := Kept.cell K6.out d1; have Z6 := K6.out.size; have nk1 : ¬ (kb = w6.heap.size) := Nat.ne_of_lt (Nat.lt_of_lt_of_le zk Z6); have nk2 : ¬ (w6.heap.size = kb) := fun e => nk1 e.symm; try (have b6 : Blk (X.alloc (.cells #[.string ⟨#[]⟩, .int .i64 0] 24)).drew X.heap.size 24 #[.string ⟨#[]⟩, .int .i64 0] := Blk.new X _ _; have P6 := Lib.hid (b6.kept k6); clear b6); clear hvc k6)
            | (go_at_call 26; refine (CF.out _ _ (H.out.kept (Kept.trans K0.out (Kept.trans KX.out (Kept.trans K6.out (by first | exact Below.refl _ _ | exact (Below.refl _ _).alloc (Nat.le_refl _) _))))) (HVC.out.kept (by first | exact Below.refl _ _ | exact (Below.refl _ _).alloc (Nat.le_refl _) _)).rd).mono ?_; rintro e w7 ⟨rfl, k7⟩; have K7 : Hid (Kept X w7) := Lib.hid (Kept.trans K6.out (Kept.trans (by first | exact Below.refl _ _ | exact (Below.refl _ _).alloc (Nat.le_refl _) _) k7)); have d07 := Kept.cell K7.out d0; have d17 := Kept.cell K7.out d1; have Z7 := K7.out.size; first | (have P7 := fnd_put ((P6.out).kept (show Kept w6 w7 from k7)); have e07 := P7.g0; have e17 := P7.g1; have i07 := P7.h0; have i17 := P7.h1; have l7 := P7.lt; have P7 := Lib.hid P7) | (have b7 : Blk (w6.alloc (.cells #[.string ⟨#[]⟩, .int .i64 0] 24)) w6.heap.size 24 #[.string ⟨#[]⟩, .int .i64 0] := Blk.new w6 _ _; have P7 := fnd_put (b7.kept k7); have e07 := P7.g0; have e17 := P7.g1; have i07 := P7.h0; have i17 := P7.h1; have l7 := P7.lt; have P7 := Lib.hid P7; clear b7) | skip; clear k7))
        all_goals
          clear d06 d16 d07 d17 d0 d1
          first
            | (obtain ⟨W8, b, hW, hb, b8, k8, zb⟩ : ∃ W8 b, W8 = (w7.setCell ⟨X.heap.size, 0, none⟩ (.string ⟨#[]⟩)).setCell ⟨X.heap.size, 1, none⟩ (.int .i64 0) ∧ b = X.heap.size ∧ Blk W8 b 24 #[.string ⟨#[]⟩, .int .i64 0] ∧ Kept X W8 ∧ X.heap.size ≤ b := ⟨_, _, rfl, rfl, P7.out.set _ _, P7.out.keeps K7.out (Nat.le_refl _) _ _, Nat.le_refl _⟩; rw [← hW, ← hb]; clear hW hb e07 e17 i07 i17 l7)
            | (obtain ⟨W8, b, hW, hb, b8, k8, zb⟩ : ∃ W8 b, W8 = (w7.setCell ⟨w6.heap.size, 0, none⟩ (.string ⟨#[]⟩)).setCell ⟨w6.heap.size, 1, none⟩ (.int .i64 0) ∧ b = w6.heap.size ∧ Blk W8 b 24 #[.string ⟨#[]⟩, .int .i64 0] ∧ Kept X W8 ∧ X.heap.size ≤ b := ⟨_, _, rfl, rfl, P7.out.set _ _, P7.out.keeps K7.out Z6 _ _, Z6⟩; rw [← hW, ← hb]; clear hW hb e07 e17 i07 i17 l7)
            | (obtain ⟨W8, b, hW, hb, b8, k8, zb⟩ : ∃ W8 b, W8 = w7.alloc (.cells #[.string ⟨#[]⟩, .int .i64 0] 24) ∧ b = w7.heap.size ∧ Blk W8 b 24 #[.string ⟨#[]⟩, .int .i64 0] ∧ Kept X W8 ∧ X.heap.size ≤ b := ⟨_, _, rfl, rfl, Blk.new _ _ _, K7.out.alloc Z7 _, Z7⟩; rw [← hW, ← hb]; clear hW hb)
          have K8 := Lib.hid (Kept.trans KX.out k8)
          have BK8 := BKY.out.kept k8
          have BQ8 := B0.out.kept K8.out
          have c0 := b8.cell 0
          have c1 := b8.cell 1
          simp only [List.getElem?_toArray, List.getElem?_cons_succ, List.getElem?_cons_zero] at c0 c1
          have d0 := BK8.cell 0
          have d1 := BK8.cell 1
          simp only [List.getElem?_toArray, List.getElem?_cons_succ, List.getElem?_cons_zero] at d0 d1
          have q0 := BQ8.cell 0
          have q1 := BQ8.cell 1
          simp only [List.getElem?_toArray, List.getElem?_cons_succ, List.getElem?_cons_zero] at q0 q1
          have l8 := b8.lt
          have lk8 := BK8.lt
          have lq8 := BQ8.lt
          clear b8 k8 BK8 BQ8
        all_goals
          go_wp2_with fail
          refine (ch_on D cls nm ds _ W8 (H.out.kept (Kept.trans K0.out K8.out)) HCS.out).mono ?_
          rintro e wZ ⟨rfl, kZ⟩
          obtain ⟨r, hr⟩ : ∃ r, r = onR D cls nm ds := ⟨_, rfl⟩
          rw [← hr]
          have HRR := Lib.hid hr
          have KZ_ := Lib.hid (Kept.trans K8.out kZ)
          clear kZ hr
          unfold resG
          have kp := KZ_.out
          have PF := fnd_put (B1.out.kept kp)
          have KP := Lib.hid (PF.keeps (Kept.trans K0.out kp) (by have := K0.out.size; omega))
          have g0 := PF.g0
          have g1 := PF.g1
          have h0 := PF.h0
          have h1 := PF.h1
          have zr := PF.lt
          have PF := Lib.hid PF
          clear kp
          have E0 := Lib.hid (PF.out.e0 (.string r.1.1))
          have E1 := Lib.hid (PF.out.e1 (.string r.1.1) (.int .i64 r.1.2))
          have PE := Lib.hid (fnd_put (PF.out.set (.string r.1.1) (.int .i64 r.1.2)))
          have HF := Lib.hid (show resG (ifaceR D cls fc fi) = resG r by unfold ifaceR; rw [if_pos HTH.out, HMO.out]; simp only; rw [if_pos HSB.out]; rw [HFR.out, HRR.out])
          go_wp2_with fail
          refine bodyPost_ret (v := resG (ifaceR D cls fc fi)) (by rw [HF.out]; simp [results, Try.results12, go_sem, E0.out, E1.out, PE.out.g0, PE.out.g1, resG]) rfl ⟨rfl, ?_⟩
          exact KP.out _ _
end Go.Proofs.Yteblpdcedlaedaa
