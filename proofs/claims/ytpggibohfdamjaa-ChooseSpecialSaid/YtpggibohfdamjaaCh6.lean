/-
  The document's own answer of chapter 13 by contract: told, on, first, name.
-/
import Derived.Test.YtpggibohfdamjaaCh4
import Derived.Deep.RegionHeld2
namespace Go.Proofs.Ytpggibohfdamjaa
open Go.RowKit
set_option maxRecDepth 100000

def notK (x : Int) (a : Int) : Bool := bits .and .i64 a x == 0
theorem notK_S : notK 10 = tkS := by
  funext a
  unfold notK tkS
  rw [Bool.eq_iff_iff, Bool.and_eq_true, beq_iff_eq, beq_iff_eq, beq_iff_eq]
  exact flags_10 a
theorem frs_fnd {D : List TD} {ts : List ByteArray} {n d : ByteArray} {tk : Int → Bool} {g : FV} (h : frsL D ts n d tk = some g) : Fnd D g := by
  unfold frsL at h
  obtain ⟨s, hs, ho⟩ := List.exists_of_findSome?_eq_some h
  unfold frsF at ho
  obtain ⟨x, hx, h3⟩ := Option.bind_eq_some_iff.1 ho
  split at h3
  · obtain rfl : (s, x.1) = g := by simpa using h3
    exact (mth_fnd hx).1
  · cases h3
theorem told_M {D : List TD} {f : FV} : toldR D f.1 (f.2 : Nat) = if bits .and .i64 (accM D f) 1024 = 0 then (gv f, ⟨#[]⟩) else (gz, abB) := by
  unfold toldR
  rw [accO_M]
  rfl

set_option maxHeartbeats 4000000 in
theorem ref13_told (D : List TD) (f : FV) (v : Value) (w : World) (h : TyR w v D) (hf : Fnd D f) :
    Calls Try.prog 30 #[v, .agg #[.string f.1, .int .i64 f.2]] w fun e w' => e = .returned (resG (toldR D f.1 (f.2 : Nat))) ∧ Kept w w' := by
  have H := Lib.hid h
  have HFN := Lib.hid hf
  have k0 : Kept w ((w.alloc (.cells #[.string f.1, .int .i64 f.2] 24)).alloc (.cells #[.string ⟨#[]⟩, .int .i64 0] 24)) := ((Below.refl _ _).alloc (Nat.le_refl _) _).alloc (by simp) _
  have b0 : Blk ((w.alloc (.cells #[.string f.1, .int .i64 f.2] 24)).alloc (.cells #[.string ⟨#[]⟩, .int .i64 0] 24)) w.heap.size 24 #[.string f.1, .int .i64 f.2] := (Blk.new w _ _).alloc _
  have b1 : Blk ((w.alloc (.cells #[.string f.1, .int .i64 f.2] 24)).alloc (.cells #[.string ⟨#[]⟩, .int .i64 0] 24)) (w.heap.size + 1) 24 #[.string ⟨#[]⟩, .int .i64 0] := Blk.at_ (by simp)
  have q0 := b0.cell 0
  have q1 := b0.cell 1
  simp only [List.getElem?_toArray, List.getElem?_cons_succ, List.getElem?_cons_zero] at q0 q1
  have zq := b0.lt
  have K0 := Lib.hid k0
  have B0 := Lib.hid b0
  have B1 := Lib.hid b1
  clear h hf k0 b0 b1
  go_enter Try.func30, Try.ntmps30
  go_upto_region 1 with fail
  generalize ((w.alloc (.cells #[.string f.1, .int .i64 f.2] 24)).alloc (.cells #[.string ⟨#[]⟩, .int .i64 0] 24)) = W at *
  go_wp2_with fail
  refine (ref12_Flags D f _ W (H.out.kept K0.out) HFN.out).mono ?_
  rintro e w1 ⟨rfl, k1⟩
  have KX := Lib.hid k1
  obtain ⟨acc, hacc⟩ : ∃ a, a = accM D f := ⟨_, rfl⟩
  rw [← hacc]
  have HT := Lib.hid (show toldR D f.1 (f.2 : Nat) = if bits .and .i64 acc 1024 = 0 then (gv f, ⟨#[]⟩) else (gz, abB) by rw [told_M, hacc])
  clear q0 q1 zq hacc k1
  have bq := B0.out.kept KX.out
  have q0 := bq.cell 0
  have q1 := bq.cell 1
  simp only [List.getElem?_toArray, List.getElem?_cons_succ, List.getElem?_cons_zero] at q0 q1
  have zq := bq.lt
  clear bq
  have kp := KX.out
  have PF := fnd_put (B1.out.kept kp)
  have KP := Lib.hid (PF.keeps (Kept.trans K0.out kp) (by have := K0.out.size; omega))
  have g0 := PF.g0
  have g1 := PF.g1
  have h0 := PF.h0
  have h1 := PF.h1
  have zr := PF.lt
  have PF := Lib.hid PF
  clear kp
  by_cases hb : bits .and .i64 acc 1024 = 0
  · have HB := Lib.hid hb
    have e1 : (bits .and .i64 acc 1024 != 0) = false := by simp [hb]
    clear hb
    have E0 := Lib.hid (PF.out.e0 (.string f.1))
    have E1 := Lib.hid (PF.out.e1 (.string f.1) (.int .i64 f.2))
    have PE := Lib.hid (fnd_put (PF.out.set (.string f.1) (.int .i64 f.2)))
    have HF := Lib.hid (show resG (toldR D f.1 (f.2 : Nat)) = resG (gv f, ⟨#[]⟩) by rw [HT.out, if_pos HB.out])
    go_wp2_with fail
    refine bodyPost_ret (v := resG (toldR D f.1 (f.2 : Nat))) (by rw [HF.out]; simp [results, Try.results30, go_sem, E0.out, E1.out, PE.out.g0, PE.out.g1, resG, gv]) rfl ⟨rfl, ?_⟩
    exact KP.out _ _
  · have HB := Lib.hid hb
    have e1 : (bits .and .i64 acc 1024 != 0) = true := by simp [hb]
    clear hb
    have E0 := Lib.hid (PF.out.e0 (.string ⟨#[]⟩))
    have E1 := Lib.hid (PF.out.e1 (.string ⟨#[]⟩) (.int .i64 0))
    have PE := Lib.hid (fnd_put (PF.out.set (.string ⟨#[]⟩) (.int .i64 0)))
    have HF := Lib.hid (show resG (toldR D f.1 (f.2 : Nat)) = resG (gz, abB) by rw [HT.out, if_neg HB.out])
    go_wp2_with fail
    refine bodyPost_ret (v := resG (toldR D f.1 (f.2 : Nat))) (by rw [HF.out]; simp [results, Try.results30, go_sem, E0.out, E1.out, PE.out.g0, PE.out.g1, resG, gz, abB]) rfl ⟨rfl, ?_⟩
    exact KP.out _ _

set_option maxHeartbeats 4000000 in
theorem ref13_on (D : List TD) (s c n d : ByteArray) (v : Value) (w : World) (h : TyR w v D) (hs : s.size ≤ maxLen) :
    Calls Try.prog 32 #[v, .string s, .agg #[.string c, .string n, .string d]] w fun e w' => e = .returned (resG (onR D s n d)) ∧ Kept w w' := by
  have H := Lib.hid h
  have HS := Lib.hid hs
  have k0 : Kept w ((w.alloc (.cells #[.string c, .string n, .string d] 39)).alloc (.cells #[.string ⟨#[]⟩, .int .i64 0] 24)) := ((Below.refl _ _).alloc (Nat.le_refl _) _).alloc (by simp) _
  have b0 : Blk ((w.alloc (.cells #[.string c, .string n, .string d] 39)).alloc (.cells #[.string ⟨#[]⟩, .int .i64 0] 24)) w.heap.size 39 #[.string c, .string n, .string d] := (Blk.new w _ _).alloc _
  have b1 : Blk ((w.alloc (.cells #[.string c, .string n, .string d] 39)).alloc (.cells #[.string ⟨#[]⟩, .int .i64 0] 24)) (w.heap.size + 1) 24 #[.string ⟨#[]⟩, .int .i64 0] := Blk.at_ (by simp)
  have q0 := b0.cell 0
  have q1 := b0.cell 1
  have q2 := b0.cell 2
  simp only [List.getElem?_toArray, List.getElem?_cons_succ, List.getElem?_cons_zero] at q0 q1 q2
  have zq := b0.lt
  have K0 := Lib.hid k0
  have B1 := Lib.hid b1
  have hal := all_len h s
  clear h hs k0 b0 b1
  go_enter Try.func32, Try.ntmps32
  go_upto_region 1 with fail
  generalize ((w.alloc (.cells #[.string c, .string n, .string d] 39)).alloc (.cells #[.string ⟨#[]⟩, .int .i64 0] 24)) = W at *
  go_wp2_with fail
  refine (ref12_Most D s c n d v W (H.out.kept K0.out) HS.out).mono ?_
  rintro e w2 ⟨vm, rfl, hm, k2⟩
  have hml : (mostL D s n d).length ≤ 100 := Nat.le_trans (mostL_len D s n d) hal
  have HM := Lib.hid hm
  have K2 := Lib.hid k2
  clear hm k2 q0 q1 q2 zq
  go_wp2_with fail
  refine (ref12_Real_row D (mostL D s n d) v vm _ w2 (H.out.kept (Kept.trans K0.out K2.out)) rfl HM.out.rd hml (fun f hf => (most_fnd hf).1)).mono ?_
  rintro e w3 ⟨vr, rfl, hr, k3⟩
  obtain ⟨L, hL⟩ : ∃ L, L = realM D (mostL D s n d) := ⟨_, rfl⟩
  have HF0 := Lib.hid (show onR D s n d = onL L by rw [hL]; rfl)
  rw [← hL] at hr
  have KX := Lib.hid (Kept.trans K2.out k3)
  obtain ⟨M, hM⟩ : ∃ M, M = L.length := ⟨_, rfl⟩
  have HM2 := Lib.hid hM
  unfold RowF at hr
  rw [← hM] at hr
  obtain ⟨ar, cr, rfl, hcr1, hcr2⟩ := hr.form
  have HO := Lib.hid hr
  have hMl : M ≤ 100 := by rw [hM, hL]; exact Nat.le_trans (List.length_filter_le _ _) hml
  clear hL hr k3 hM hml HM
  have kp := KX.out
  have PF := fnd_put (B1.out.kept kp)
  have KP := Lib.hid (PF.keeps (Kept.trans K0.out kp) (by have := K0.out.size; omega))
  have g0 := PF.g0
  have g1 := PF.g1
  have h0 := PF.h0
  have h1 := PF.h1
  have zr := PF.lt
  have PF := Lib.hid PF
  clear kp
  by_cases m1 : M = 1
  · obtain ⟨f, hf⟩ : ∃ f, L = [f] := List.length_eq_one_iff.1 (by rw [← HM2.out]; exact m1)
    obtain ⟨b, off, cc, hv, y0, y1⟩ := fnd_cell (l := L) (k := 0) HM2.out HO.out.rd (by rw [hf]; rfl)
    simp only [Value.slice.injEq] at hv
    obtain ⟨rfl, -, rfl⟩ := hv
    have yb : b < w3.heap.size := World.block_lt_of_cell? w3 _ y0
    have HL0 := Lib.hid hf
    subst m1
    simp only [Nat.zero_mul, Nat.add_zero, Nat.zero_add] at y0 y1
    clear hf
    have E0 := Lib.hid (PF.out.e0 (.string f.1))
    have E1 := Lib.hid (PF.out.e1 (.string f.1) (.int .i64 f.2))
    have PE := Lib.hid (fnd_put (PF.out.set (.string f.1) (.int .i64 f.2)))
    have HF := Lib.hid (show resG (onR D s n d) = resG (gv f, ⟨#[]⟩) by rw [HF0.out, HL0.out]; rfl)
    go_wp2_with fail
    refine bodyPost_ret (v := resG (onR D s n d)) (by rw [HF.out]; simp [results, Try.results32, go_sem, E0.out, E1.out, PE.out.g0, PE.out.g1, resG, gv]) rfl ⟨rfl, ?_⟩
    exact KP.out _ _
  · have e1 : ((M : Int) == 1) = false := by rw [beq_eq_false_iff_ne]; omega
    by_cases m0 : M = 0
    · have HL0 := Lib.hid (show L = [] from List.eq_nil_of_length_eq_zero (by rw [← HM2.out]; exact m0))
      subst m0
      have E0 := Lib.hid (PF.out.e0 (.string ⟨#[]⟩))
      have E1 := Lib.hid (PF.out.e1 (.string ⟨#[]⟩) (.int .i64 0))
      have PE := Lib.hid (fnd_put (PF.out.set (.string ⟨#[]⟩) (.int .i64 0)))
      have HF := Lib.hid (show resG (onR D s n d) = resG (gz, abB) by rw [HF0.out, HL0.out]; rfl)
      go_wp2_with fail
      refine bodyPost_ret (v := resG (onR D s n d)) (by rw [HF.out]; simp [results, Try.results32, go_sem, E0.out, E1.out, PE.out.g0, PE.out.g1, resG, gz, abB]) rfl ⟨rfl, ?_⟩
      exact KP.out _ _
    · have HL0 := Lib.hid (show onL L = (gz, chB) by
        match L, HM2.out with
        | [], h => exact absurd h m0
        | [_], h => exact absurd h m1
        | _ :: _ :: _, _ => rfl)
      have e2 : decide ((1 : Int) < (M : Int)) = true := by simp; omega
      have e3 : 1 < M := by omega
      have E0 := Lib.hid (PF.out.e0 (.string ⟨#[]⟩))
      have E1 := Lib.hid (PF.out.e1 (.string ⟨#[]⟩) (.int .i64 0))
      have PE := Lib.hid (fnd_put (PF.out.set (.string ⟨#[]⟩) (.int .i64 0)))
      have HF := Lib.hid (show resG (onR D s n d) = resG (gz, chB) by rw [HF0.out, HL0.out])
      go_wp2_with fail
      refine bodyPost_ret (v := resG (onR D s n d)) (by rw [HF.out]; simp [results, Try.results32, go_sem, E0.out, E1.out, PE.out.g0, PE.out.g1, resG, gz, chB]) rfl ⟨rfl, ?_⟩
      exact KP.out _ _

set_option maxHeartbeats 8000000 in
theorem ref13_first (D : List TD) (ts : List ByteArray) (c n d : ByteArray) (x : Int) (v vt : Value) (N : Nat) (w : World) (h : TyR w v D) (hN : N = ts.length) (hr : Rd w 1 vt N (ts.flatMap encS)) (hl : N ≤ 100) (hth : ∀ s ∈ ts, there D s) :
    Calls Try.prog 29 #[v, vt, .agg #[.string c, .string n, .string d], .int .i64 x] w fun e w' => e = .returned (foV (frsL D ts n d (notK x))) ∧ Kept w w' := by
  have H := Lib.hid h
  have HR := Lib.hid hr
  have HN := Lib.hid hN
  have HTH := Lib.hid hth
  obtain ⟨av, cv, rfl, -, -⟩ := h.slice
  obtain ⟨-, vta, vtc, rfl, hv1, hv2, -⟩ := hr
  have k0 : Kept w ((w.alloc (.cells #[.string c, .string n, .string d] 39)).alloc (.cells #[.string ⟨#[]⟩, .int .i64 0] 24)) := ((Below.refl _ _).alloc (Nat.le_refl _) _).alloc (by simp) _
  have b0 : Blk ((w.alloc (.cells #[.string c, .string n, .string d] 39)).alloc (.cells #[.string ⟨#[]⟩, .int .i64 0] 24)) w.heap.size 39 #[.string c, .string n, .string d] := (Blk.new w _ _).alloc _
  have b1 : Blk ((w.alloc (.cells #[.string c, .string n, .string d] 39)).alloc (.cells #[.string ⟨#[]⟩, .int .i64 0] 24)) (w.heap.size + 1) 24 #[.string ⟨#[]⟩, .int .i64 0] := Blk.at_ (by simp)
  have K0 := Lib.hid k0
  have B0 := Lib.hid b0
  have B1 := Lib.hid b1
  clear h hN hth k0 b0 b1
  go_enter Try.func29, Try.ntmps29
  go_upto_region 1 with fail
  generalize ((w.alloc (.cells #[.string c, .string n, .string d] 39)).alloc (.cells #[.string ⟨#[]⟩, .int .i64 0] 24)) = W at *
  go_wp2_with fail
  go_loopw [10] (fun s10 wr => ∃ k : Nat, k ≤ N ∧ s10 = .int .i64 k ∧ (∀ j z, j < k → ts[j]? = some z → frsF D n d (notK x) z = none) ∧ Kept W wr) (fun s10 _ => N - (intOf s10).toNat)
  case atStart => exact ⟨0, by omega, rfl, fun j z hj => (by omega), Below.refl _ _⟩
  case round =>
    obtain ⟨k, hk, rfl, hno, hK⟩ := hrel
    rename World => wr
    have HNO := Lib.hid hno
    have HK := Lib.hid hK
    clear hno
    by_cases hlt : k < N
    · obtain ⟨s, hs⟩ : ∃ m, ts[k]? = some m := ⟨_, List.getElem?_eq_getElem (by have := HN.out; omega)⟩
      obtain ⟨b, off, cc, hv, y0⟩ := str_cell HN.out (HR.out.kept (Kept.trans K0.out hK)) hs
      simp only [Value.slice.injEq] at hv
      obtain ⟨rfl, -, rfl⟩ := hv
      have hT := HTH.out s (List.mem_of_getElem? hs)
      unfold there at hT
      obtain ⟨kc, hkc⟩ := Option.isSome_iff_exists.1 hT
      obtain ⟨t, ht, -, hkl⟩ := atO_some hkc
      have CA := ref9_At D s _ wr (H.out.kept (Kept.trans K0.out HK.out))
      rw [atI_some hkc] at CA
      have CA := Lib.hid CA
      obtain ⟨tb, tof, tc, ia, ic, fa, fc, ma, mc, hv2, x0, x1, x2, x3, x4, x5, -, -, -, -, hm, hml⟩ := ty_row (H.out.kept (Kept.trans K0.out HK.out)) ht
      simp only [Value.slice.injEq] at hv2
      obtain ⟨rfl, -, rfl⟩ := hv2
      have hki : (kc : Int) < (D.length : Int) := by omega
      have hk0 : (0 : Int) ≤ (kc : Int) := by omega
      have hki' : (k : Int) < (N : Int) := by omega
      have hk0' : (0 : Int) ≤ (k : Int) := by omega
      have hmet := metL_at hkc ht
      have HMET := Lib.hid hmet
      have HSK := Lib.hid hs
      have kx : Kept wr (wr.alloc (.cells #[.string t.name, .string t.super, .int .i64 t.access, .slice ia t.interfaces.length ic, .slice fa t.fields.length fc, .slice ma t.methods.length mc] 31)) := (Below.refl _ _).alloc (Nat.le_refl _) _
      have HM := Lib.hid (hm.kept kx)
      have KX := Lib.hid (Kept.trans HK.out kx)
      have bt := Blk.new wr 31 #[.string t.name, .string t.super, .int .i64 t.access, .slice ia t.interfaces.length ic, .slice fa t.fields.length fc, .slice ma t.methods.length mc]
      have t5 := bt.cell 5
      simp only [List.getElem?_toArray, List.getElem?_cons_succ, List.getElem?_cons_zero] at t5
      have tl := bt.lt
      have y0x := Kept.cell kx y0
      clear hs hT hkc ht hkl hm hmet hK kx bt
      go_wp2_with fail
      refine CA.out.mono ?_
      rintro e w2 ⟨rfl, rfl⟩
      clear CA
      go_upto_region 5 with fail
      generalize (wr.alloc (.cells #[.string t.name, .string t.super, .int .i64 t.access, .slice ia t.interfaces.length ic, .slice fa t.fields.length fc, .slice ma t.methods.length mc] 31)) = WX at *
      clear x0 x1 x2 x3 x4 x5 y0
      have bk := B0.out.kept KX.out
      have q0 := bk.cell 0
      have q1 := bk.cell 1
      have q2 := bk.cell 2
      simp only [List.getElem?_toArray, List.getElem?_cons_succ, List.getElem?_cons_zero] at q0 q1 q2
      have zq := bk.lt
      clear bk
      have CI := Lib.hid (ref12_In t.methods n d _ WX _ rfl HM.out hml)
      cases hmm : memAt t.methods n d with
      | none =>
        have HX := Lib.hid (no_next HSK.out (frs_no (tk := notK x) (n := n) (d := d) (by rw [HMET.out]; exact hmm)) HNO.out)
        have CI2 := CI.out
        rw [memI_none hmm] at CI2
        have CI2 := Lib.hid CI2
        clear hmm CI
        go_wp2_with fail
        refine CI2.out.mono ?_
        rintro e w3 ⟨rfl, rfl⟩
        clear CI2
        go_wp2_with fail
        go_roundw
        case rel => exact ⟨k + 1, by omega, by go_num, HX.out, KX.out⟩
        case measure => simp [intOf]; omega
      | some i =>
        obtain ⟨m, hmi, -, -, -⟩ := memAt_some hmm
        obtain ⟨mb, mo, rfl, z0, zb, hi1, hi0⟩ := mem_place HM.out hmi
        have hfr := frs_at (tk := notK x) (n := n) (d := d) (s := s) (i := i) (m := m) (by rw [HMET.out]; exact hmm) (by rw [HMET.out]; exact hmi)
        have CI2 := CI.out
        rw [memI_some hmm] at CI2
        have CI2 := Lib.hid CI2
        have HFR := Lib.hid hfr
        clear hmm hmi CI hfr
        by_cases hb : bits .and .i64 m.access x = 0
        · have e1 : (bits .and .i64 m.access x == 0) = true := by simp [hb]
          have hfs : frsL D ts n d (notK x) = some (s, i) := some_at HSK.out (by rw [HFR.out]; unfold notK; rw [if_pos e1]) HNO.out
          have HFS := Lib.hid hfs
          clear hb hfs
          go_wp2_with fail
          refine CI2.out.mono ?_
          rintro e w3 ⟨rfl, rfl⟩
          clear CI2
          have kp := KX.out
          have PF := fnd_put (B1.out.kept kp)
          have KP := Lib.hid (PF.keeps (Kept.trans K0.out kp) (by have := K0.out.size; omega))
          have g0 := PF.g0
          have g1 := PF.g1
          have h0 := PF.h0
          have h1 := PF.h1
          have zr := PF.lt
          have PF := Lib.hid PF
          clear kp
          have E0 := Lib.hid (PF.out.e0 (.string s))
          have E1 := Lib.hid (PF.out.e1 (.string s) (.int .i64 i))
          have PE := Lib.hid (fnd_put (PF.out.set (.string s) (.int .i64 i)))
          have HF := Lib.hid (show foV (frsL D ts n d (notK x)) = foV (some (s, i)) by rw [HFS.out])
          go_wp2_with fail
          refine bodyPost_ret (v := foV (frsL D ts n d (notK x))) (by rw [HF.out]; simp [results, Try.results29, go_sem, E0.out, E1.out, PE.out.g0, PE.out.g1, foV]) rfl ⟨rfl, ?_⟩
          exact KP.out _ _
        · have e1 : (bits .and .i64 m.access x == 0) = false := by simp [hb]
          have HX := Lib.hid (no_next HSK.out (by rw [HFR.out]; unfold notK; rw [e1]; rfl) HNO.out)
          clear hb
          go_wp2_with fail
          refine CI2.out.mono ?_
          rintro e w3 ⟨rfl, rfl⟩
          clear CI2
          go_wp2_with fail
          go_roundw
          case rel => exact ⟨k + 1, by omega, by go_num, HX.out, KX.out⟩
          case measure => simp [intOf]; omega
    · have hfs : frsL D ts n d (notK x) = none := some_no fun j z hz => HNO.out j z (by have := (List.getElem?_eq_some_iff.1 hz).1; have := HN.out; omega) hz
      have HFS := Lib.hid hfs
      clear hfs hK
      have kp := HK.out
      have PF := fnd_put (B1.out.kept kp)
      have KP := Lib.hid (PF.keeps (Kept.trans K0.out kp) (by have := K0.out.size; omega))
      have g0 := PF.g0
      have g1 := PF.g1
      have h0 := PF.h0
      have h1 := PF.h1
      have zr := PF.lt
      have PF := Lib.hid PF
      clear kp
      have E0 := Lib.hid (PF.out.e0 (.string ⟨#[]⟩))
      have E1 := Lib.hid (PF.out.e1 (.string ⟨#[]⟩) (.int .i64 0))
      have PE := Lib.hid (fnd_put (PF.out.set (.string ⟨#[]⟩) (.int .i64 0)))
      have HF := Lib.hid (show foV (frsL D ts n d (notK x)) = foV none by rw [HFS.out])
      go_wp2_with fail
      refine bodyPost_ret (v := foV (frsL D ts n d (notK x))) (by rw [HF.out]; simp [results, Try.results29, go_sem, E0.out, E1.out, PE.out.g0, PE.out.g1, foV]) rfl ⟨rfl, ?_⟩
      exact KP.out _ _
end Go.Proofs.Ytpggibohfdamjaa
