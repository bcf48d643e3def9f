/-
  Chapter 12's law FindMost, walked.
-/
import Derived.Test.YtinkidclidoliaaFindA
import Derived.Test.YtinkidclidoliaaFindR2
import Derived.Test.YtinkidclidoliaaOpenRef
namespace Go.Proofs.Ytinkidclidoliaa
open Go.RowKit
set_option maxRecDepth 100000

theorem touch_new {B e sz n : Nat} {xs : List Value} {v : Value} {w0 w w' : World} (hk : Kept w0 w) (hb : w0.heap.size ≤ B) (h : Row w B e sz v n xs) (ht : Touch (fun k => v.ownBlock = some k) w w') : Kept w0 w' :=
  Below.trans hk (ht.below (fun b hb' => by have := (h.lt b hb').1; omega) hk.size)

set_option maxHeartbeats 2000000 in
theorem walk_FindMost (l : List TypeV) (v : Value) (a o : ByteArray) (r : RefV) (w : World) (hr : Rd w 6 v l.length (l.flatMap encTypeV)) (hok : ∀ y ∈ l, TypeV.Ok w y) (hlen : l.length ≤ 140737488351232) (ha : a.size ≤ maxLen) (ho : o.size ≤ maxLen) (hrk : RefV.Ok w r) :
    Calls Try.prog 3 #[v, .string a, .string o, .agg (encRefV r).toArray] w fun e w' => e = .returned (.bool true) ∧ Below w.heap.size w w' := by
  obtain ⟨rc, rn, rd⟩ := r
  show Calls Try.prog 3 #[v, .string a, .string o, .agg #[.string rc, .string rn, .string rd]] w _
  have HR := Lib.hid hr
  have HOK := Lib.hid hok
  have HA := Lib.hid ha
  have HO := Lib.hid ho
  have b0 := Blk.new w 24 #[.string rc, .string rn, .string rd]
  have k0 : Kept w (w.alloc (.cells #[.string rc, .string rn, .string rd] 24)) := (Below.refl _ _).alloc (Nat.le_refl _) _
  have K0 := Lib.hid k0
  have B0 := Lib.hid b0
  clear hr hok hrk ha ho b0 k0
  go_enter Try.func3, Try.ntmps3
  go_wp2_with fail
  generalize (w.alloc (.cells #[.string rc, .string rn, .string rd] 24)) = W at *
  refine (alive12 _).mono ?_
  rintro e w1 ⟨rfl, k1⟩
  have K1 := Lib.hid (Kept.trans K0.out k1)
  have B1 := Lib.hid (B0.out.kept k1)
  clear k1
  go_wp2_with fail
  refine (law9_Big l v w1 (HR.out.kept K1.out) (fun y hy => Ok.keep_ (HOK.out y hy) K1.out) hlen).mono ?_
  rintro e w2 ⟨h2, m2, hw2⟩
  have K12 := Lib.hid (show Kept w1 w2 by rw [hw2]; exact kept_drewN (Below.refl _ _) m2)
  have K2 := Lib.hid (Kept.trans K1.out K12.out)
  clear hw2
  rcases h2 with rfl | ⟨rfl, h60, hct⟩
  · go_wp2_with fail
    go_ret
    exact ⟨rfl, K2.out⟩
  · have hT := tyR_of (HR.out.kept K2.out) (fun y hy => Ok.keep_ (HOK.out y hy) K2.out) h60
    have HT := Lib.hid hT
    obtain ⟨D, hD⟩ : ∃ D, D = l.map TypeV.d := ⟨_, rfl⟩
    rw [← hD] at HT
    have hb2 := B1.out.kept K12.out
    have q0 := hb2.cell 0
    have q1 := hb2.cell 1
    have q2 := hb2.cell 2
    simp only [List.getElem?_toArray, List.getElem?_cons_succ, List.getElem?_cons_zero] at q0 q1 q2
    have B2 := Lib.hid hb2
    clear hT hct hD hb2
    go_wp2_with fail
    refine (find_Most D a rc rn rd v w2 HT.out HA.out).mono ?_
    rintro e w3 ⟨va, rfl, ra, k3⟩
    have RA3 : Hid (Row w3 _ _ _ va _ _) := Lib.hid ra
    have K3 := Lib.hid (Kept.trans K2.out k3)
    have K23 := Lib.hid k3
    have hb3 := B2.out.kept k3
    have q0 := hb3.cell 0
    have q1 := hb3.cell 1
    have q2 := hb3.cell 2
    simp only [List.getElem?_toArray, List.getElem?_cons_succ, List.getElem?_cons_zero] at q0 q1 q2
    have B3 := Lib.hid hb3
    clear ra k3 hb3
    go_wp2_with fail
    refine (find_Most D o rc rn rd v w3 (HT.out.kept K23.out) HO.out).mono ?_
    rintro e w4 ⟨vb, rfl, rb, k4⟩
    obtain ⟨xb, hxb⟩ : ∃ x, x = (mostL D o rn rd).flatMap encF := ⟨_, rfl⟩
    obtain ⟨nb, hnb⟩ : ∃ x, x = (mostL D o rn rd).length := ⟨_, rfl⟩
    have hnbl : nb ≤ 100 := by have h1 := mostL_len D o rn rd; have h2 := all_len HT.out o; omega
    unfold RowF at rb
    rw [← hxb, ← hnb] at rb
    have RB4 := Lib.hid rb
    have K34 := Lib.hid k4
    have B4 := Lib.hid (B3.out.kept k4)
    obtain ⟨ab, cb, rfl, hcb1, hcb2⟩ := rb.form
    clear rb k4 hxb hnb q0 q1 q2
    go_wp2_with fail
    go_loopw [13] (fun s13 wr => ∃ (k : Nat) (ys : List Value), k ≤ nb ∧ s13 = .int .i64 k ∧ Row wr w3.heap.size 30 2 (.slice ab nb cb) nb ys ∧ Touch (fun k => (Value.slice ab nb cb).ownBlock = some k) w4 wr) (fun s13 _ => nb - (intOf s13).toNat)
    case atStart => exact ⟨0, xb, by omega, rfl, RB4.out, Touch.refl _ _⟩
    case round =>
      obtain ⟨k, ys, hk, rfl, hR, hT⟩ := hrel
      rename World => wr
      by_cases hlt : k < nb
      · obtain ⟨g, c', hv, -, -⟩ := hR.addr (by omega)
        simp only [Value.slice.injEq] at hv
        obtain ⟨rfl, -, rfl⟩ := hv
        obtain ⟨hc, hf, -, -⟩ := hR.cells
        obtain ⟨u, hu⟩ : ∃ u, ys[k * 2]? = some u := ⟨_, List.getElem?_eq_getElem (by have := hR.1; omega)⟩
        obtain ⟨u', hu'⟩ : ∃ u, ys[k * 2 + 1]? = some u := ⟨_, List.getElem?_eq_getElem (by have := hR.1; omega)⟩
        have x0 := hc _ u hu
        have x1 := hc _ u' hu'
        have f0 := hf (k * 2)
        have f1 := hf (k * 2 + 1)
        have HRW := Lib.hid hR
        have HTT := Lib.hid hT
        clear hR hT hc hf hu hu'
        go_wp2_with fail
        go_roundw
        case rel => exact ⟨k + 1, _, by omega, by go_num, (HRW.out.store (k * 2) _).store (k * 2 + 1) _, (HTT.out.setCell (p := ⟨g, k * 2, none⟩) (.inl rfl) _).setCell (p := ⟨g, k * 2 + 1, none⟩) (.inl rfl) _⟩
        case measure => simp [intOf]; omega
      · have K3r := Lib.hid (touch_new K34.out (Nat.le_refl _) RB4.out hT)
        have hbr := B3.out.kept K3r.out
        have RAr := Lib.hid (RA3.out.kept K3r.out)
        have q0 := hbr.cell 0
        have q1 := hbr.cell 1
        have q2 := hbr.cell 2
        simp only [List.getElem?_toArray, List.getElem?_cons_succ, List.getElem?_cons_zero] at q0 q1 q2
        clear hR hT hbr
        go_wp2_with fail
        refine (ref12_Most D a rc rn rd v wr (HT.out.kept (Kept.trans K23.out K3r.out)) HA.out).mono ?_
        rintro e w5 ⟨vw, rfl, rw5, k5⟩
        have hra := (RAr.out.kept k5).rd
        have hrw : Rd w5 2 vw _ _ := rw5.rd
        have K5 := Lib.hid (Kept.trans (Kept.trans K3.out K3r.out) k5)
        have hnal : (mostL D a rn rd).length ≤ 100 := by have h1 := mostL_len D a rn rd; have h2 := all_len HT.out a; omega
        obtain ⟨A, hA⟩ : ∃ A, A = mostL D a rn rd := ⟨_, rfl⟩
        rw [← hA] at hra hrw hnal
        obtain ⟨N, hN⟩ : ∃ N, N = A.length := ⟨_, rfl⟩
        rw [← hN] at hra hrw hnal
        have HRA := Lib.hid hra
        have HRW := Lib.hid hrw
        have HN := Lib.hid hN
        obtain ⟨-, aa, ca, rfl, hca1, hca2, -⟩ := hra
        obtain ⟨-, aw, cw, rfl, hcw1, hcw2, -⟩ := hrw
        clear rw5 k5 hA hN q0 q1 q2
        go_wp2_with fail
        go_loopw [15] (fun s15 wi => ∃ k : Nat, k ≤ N ∧ s15 = .int .i64 k ∧ Kept w5 wi) (fun s15 _ => N - (intOf s15).toNat)
        case atStart => exact ⟨0, by omega, rfl, Below.refl _ _⟩
        case round =>
          obtain ⟨i, hi, rfl, hKi⟩ := hrel
          rename World => wi
          have HKI := Lib.hid hKi
          by_cases hil : i < N
          · obtain ⟨f, hf⟩ : ∃ m, A[i]? = some m := ⟨_, List.getElem?_eq_getElem (by have := HN.out; omega)⟩
            obtain ⟨ba, oa, cca, hva, x0, x1⟩ := fnd_cell HN.out (HRA.out.kept hKi) hf
            obtain ⟨bw, ow, ccw, hvw, y0, y1⟩ := fnd_cell HN.out (HRW.out.kept hKi) hf
            simp only [Value.slice.injEq] at hva hvw
            obtain ⟨rfl, -, rfl⟩ := hva
            obtain ⟨rfl, -, rfl⟩ := hvw
            have hii : (i : Int) < (N : Int) := by omega
            have hi0 : (0 : Int) ≤ (i : Int) := by omega
            clear hf hKi
            go_wp2_with fail
            go_region
            all_goals go_wp2_with fail
            all_goals go_roundw
            case rel => exact ⟨i + 1, by omega, by go_num, HKI.out.drew⟩
            case measure => simp [intOf]; omega
          · clear hKi
            go_wp2_with fail
            go_ret
            exact ⟨rfl, Kept.trans K5.out HKI.out⟩
end Go.Proofs.Ytinkidclidoliaa
