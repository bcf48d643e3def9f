/-
  Chapter 11's law SlotsRows, walked.
-/
import Derived.Test.YtjljfadfepidjaaSlotsR5
import Derived.Test.YtjljfadfepidjaaSlots3
import Derived.Test.YtjljfadfepidjaaSlotsLaw
import Derived.Test.YtjljfadfepidjaaStay
import Derived.Test.YtjljfadfepidjaaOpenRef
import Derived.Test.YtjljfadfepidjaaKinLaw3
namespace Go.Proofs.Ytjljfadfepidjaa
open Go.RowKit
set_option maxRecDepth 100000

theorem count_fields {l : List TypeV} (h : ∀ y ∈ l, y.count ≤ 3000) : ∀ t ∈ l.map TypeV.d, t.fields.length ≤ 3000 := by
  intro t ht
  obtain ⟨y, hy, rfl⟩ := List.mem_map.1 ht
  have := h y hy
  unfold TypeV.count at this
  simp only [TypeV.d]
  omega
theorem frV_map (l : List SV) : l.flatMap frV = (l.map fun x => zeroOf x.2.2).flatMap encVal := by rw [List.flatMap_map]; rfl
/-- A row of the call's own that is written over: nothing else is. -/
theorem touch_own {w0 w w' : World} {B e sz n : Nat} {v : Value} {xs : List Value} (hk : Kept w0 w) (hb : w0.heap.size ≤ B) (h : w.ownsRow B e sz v n xs) (ht : Touch (fun k => v.ownBlock = some k) w w') : Kept w0 w' :=
  Below.trans hk (ht.below (fun b hb' => by have := (h.lt b hb').1; omega) hk.size)
theorem plcI_in {l : List SV} {x : SV} (h : x ∈ l) : 0 ≤ plcI l (x.1, (x.2.1 : Int)) := by
  have : plcO l (x.1, (x.2.1 : Int)) ≠ none := by
    induction l with
    | nil => simp at h
    | cons y l ih =>
      unfold plcO
      split
      · simp
      · rename_i hne
        rcases List.mem_cons.1 h with rfl | h
        · exact absurd rfl hne
        · intro e
          exact ih h (by simpa using e)
  unfold plcI
  cases hp : plcO l (x.1, (x.2.1 : Int)) with
  | some i => simp
  | none => exact absurd hp this

set_option maxHeartbeats 8000000 in
theorem walk_SlotsRows (l : List TypeV) (v : Value) (a o : ByteArray) (f : FoundV) (w : World) (hr : Rd w 6 v l.length (l.flatMap encTypeV)) (hok : ∀ y ∈ l, TypeV.Ok w y) (hlen : l.length ≤ 140737488351232) (ha : a.size ≤ maxLen) (ho : o.size ≤ maxLen) (hf : FoundV.Ok w f) :
    Calls Try.prog 3 #[v, .string a, .string o, .agg (encFoundV f).toArray] w fun e w' => e = .returned (.bool true) ∧ Below w.heap.size w w' := by
  obtain ⟨fc, fi⟩ := f
  show Calls Try.prog 3 #[v, .string a, .string o, .agg #[.string fc, .int .i64 fi]] w _
  have HR := Lib.hid hr
  have HOK := Lib.hid hok
  have HFC := Lib.hid (show fc.size ≤ maxLen from hf.cls_)
  have HFI := Lib.hid (show -9223372036854775808 ≤ fi ∧ fi ≤ 9223372036854775807 from hf.at__)
  have b0 := Blk.new w 24 #[.string fc, .int .i64 fi]
  have k0 : Kept w (w.alloc (.cells #[.string fc, .int .i64 fi] 24)) := (Below.refl _ _).alloc (Nat.le_refl _) _
  have K0 := Lib.hid k0
  have B0 := Lib.hid b0
  clear hr hok hf b0 k0
  go_enter Try.func3, Try.ntmps3
  go_wp2_with fail
  generalize (w.alloc (.cells #[.string fc, .int .i64 fi] 24)) = W at *
  refine (alive11 _).mono ?_
  rintro e w1 ⟨rfl, k1⟩
  have K1 := Lib.hid (Kept.trans K0.out k1)
  have B1 := Lib.hid (B0.out.kept k1)
  clear k1
  go_wp2_with fail
  refine (law9_Big l v w1 (HR.out.kept K1.out) (fun y hy => Ok.keep_ (HOK.out y hy) K1.out) hlen).mono ?_
  rintro e w2 ⟨h2, m2, hw2⟩
  have K12 := Lib.hid (show Kept w1 w2 by rw [hw2]; exact kept_drewN (Below.refl _ _) m2)
  have K2 := Lib.hid (Kept.trans K1.out K12.out)
  clear hw2
  rcases h2 with rfl | ⟨rfl, h60, hct⟩
  · go_wp2_with fail
    go_ret
    exact ⟨rfl, K2.out⟩
  · have hT := tyR_of (HR.out.kept K2.out) (fun y hy => Ok.keep_ (HOK.out y hy) K2.out) h60
    have HT := Lib.hid hT
    have HCT := Lib.hid hct
    clear hT hct
    go_wp2_with fail
    refine (law9_Lent l v w2 (HR.out.kept K2.out) (fun y hy => Ok.keep_ (HOK.out y hy) K2.out) h60 HCT.out).mono ?_
    rintro e w3 ⟨L', g, c, rfl, hF, k3⟩
    have F3 := Lib.hid hF
    have K3 := Lib.hid (Kept.trans K2.out k3)
    have K23 := Lib.hid k3
    have T3 := Lib.hid (hF.tyR (fun y hy => Ok.keep_ (HOK.out y hy) (Kept.trans K2.out k3)) (by omega))
    have B3 := Lib.hid (B1.out.kept (Kept.trans K12.out k3))
    clear hF k3
    obtain ⟨vf, hvf⟩ : ∃ vf, vf = Value.slice (some ⟨g, 0, none⟩) l.length c := ⟨_, rfl⟩
    rw [← hvf] at T3 ⊢
    have HVF := Lib.hid hvf
    clear hvf
    have hcf := count_fields HCT.out
    obtain ⟨D, hD⟩ : ∃ D, D = l.map TypeV.d := ⟨_, rfl⟩
    rw [← hD] at T3 HT hcf
    have hsl := slot_len hcf HT.out.len a
    have hso := slot_len hcf HT.out.len o
    have HCF := Lib.hid hcf
    clear hD hcf
    obtain ⟨xs, hxs⟩ : ∃ xs, xs = slotL D a := ⟨_, rfl⟩
    obtain ⟨ys, hys⟩ : ∃ ys, ys = slotL D o := ⟨_, rfl⟩
    have HXS := Lib.hid hxs
    have HYS := Lib.hid hys
    rw [← hxs] at hsl
    rw [← hys] at hso
    clear hxs hys
    go_wp2_with fail
    refine (slots_Layout D a vf w3 T3.out ha HCF.out).mono ?_
    rintro e w4 ⟨va, rfl, ra, k4⟩
    rw [← HXS.out] at ra
    have RA := Lib.hid ra
    have K34 := Lib.hid k4
    clear ra k4
    go_wp2_with fail
    refine (slots_Fresh D a vf w4 (T3.out.kept K34.out) ha HCF.out).mono ?_
    rintro e w5 ⟨vb, rfl, rb, k5⟩
    rw [← HXS.out] at rb
    have RB := Lib.hid rb
    have K35 := Lib.hid (Kept.trans K34.out k5)
    have K45 := Lib.hid k5
    have B5 := Lib.hid (B3.out.kept K35.out)
    have q0 := B5.out.cell 0
    have q1 := B5.out.cell 1
    simp only [List.getElem?_toArray, List.getElem?_cons_succ, List.getElem?_cons_zero] at q0 q1
    have zq := B5.out.lt
    clear rb k5
    go_wp2_with fail
    refine (slots_Place D a fc fi vf w5 (T3.out.kept K35.out) ha HCF.out HFC.out HFI.out).mono ?_
    rintro e w6 ⟨rfl, k6⟩
    rw [← HXS.out]
    obtain ⟨p, hp⟩ : ∃ p, p = plcI xs (fc, fi) := ⟨_, rfl⟩
    rw [← hp]
    have HP := Lib.hid hp
    have K36 := Lib.hid (Kept.trans K35.out k6)
    have K56 := Lib.hid k6
    have B6 := Lib.hid (B5.out.kept k6)
    clear k6 hp q0 q1 zq
    go_wp2_with fail
    refine (slots_Layout D o v w6 (HT.out.kept (Kept.trans K23.out K36.out)) ho HCF.out).mono ?_
    rintro e w7 ⟨vc, rfl, rc, k7⟩
    rw [← HYS.out] at rc
    have RC := Lib.hid rc
    have K67 := Lib.hid k7
    obtain ⟨ac, cc, rfl, hcc1, hcc2⟩ := own_slice rc
    obtain ⟨M, hM⟩ : ∃ M, M = ys.length := ⟨_, rfl⟩
    rw [← hM] at RC hso hcc1 ⊢
    have HM := Lib.hid hM
    obtain ⟨zs0, hz0⟩ : ∃ zs, zs = ys.flatMap encSl := ⟨_, rfl⟩
    rw [← hz0] at RC
    clear rc k7 hM hz0
    go_wp2_with fail
    go_loopw [16] (fun s16 wr => ∃ (k : Nat) (zs : List Value), k ≤ M ∧ s16 = .int .i64 k ∧ wr.ownsRow w6.heap.size 33 2 (.slice ac M cc) M zs ∧ Touch (fun k => (Value.slice ac M cc).ownBlock = some k) w7 wr) (fun s16 _ => M - (intOf s16).toNat)
    case atStart => exact ⟨0, zs0, by omega, rfl, RC.out, Touch.refl _ _⟩
    case round =>
      obtain ⟨k, zs, hk, rfl, hR, hT⟩ := hrel
      rename World => wr
      by_cases hlt : k < M
      · obtain ⟨gg, c', hv, -, -, -, hgl, hcell, hfroz⟩ := own_form hR (by omega)
        simp only [Value.slice.injEq] at hv
        obtain ⟨rfl, -, rfl⟩ := hv
        obtain ⟨u, hu⟩ : ∃ u, zs[k * 2]? = some u := ⟨_, List.getElem?_eq_getElem (by have := hR.1; omega)⟩
        obtain ⟨u', hu'⟩ : ∃ u, zs[k * 2 + 1]? = some u := ⟨_, List.getElem?_eq_getElem (by have := hR.1; omega)⟩
        have x0 := hcell _ u hu
        have x1 := hcell _ u' hu'
        have f0 := hfroz (k * 2)
        have f1 := hfroz (k * 2 + 1)
        have HRW := Lib.hid hR
        have HTT := Lib.hid hT
        clear hR hT hcell hfroz hu hu'
        go_wp2_with fail
        go_roundw
        case rel => exact ⟨k + 1, _, by omega, by go_num, own_store (own_store HRW.out (k * 2) _) (k * 2 + 1) _, (HTT.out.setCell (p := ⟨gg, k * 2, none⟩) (.inl rfl) _).setCell (p := ⟨gg, k * 2 + 1, none⟩) (.inl rfl) _⟩
        case measure => simp [intOf]; omega
      · have K6r := Lib.hid (touch_own K67.out (Nat.le_refl _) RC.out hT)
        clear hR hT
        go_wp2_with fail
        refine (slots_Fresh D o v wr (HT.out.kept (Kept.trans (Kept.trans K23.out K36.out) K6r.out)) ho HCF.out).mono ?_
        rintro e w8 ⟨vd, rfl, rd, k8⟩
        rw [← HYS.out] at rd
        rw [← HM.out] at rd
        have RD := Lib.hid rd
        have K8 := Lib.hid k8
        obtain ⟨ad, cd, rfl, hcd1, hcd2⟩ := own_slice rd
        obtain ⟨zs1, hz1⟩ : ∃ zs, zs = ys.flatMap frV := ⟨_, rfl⟩
        rw [← hz1] at RD
        clear rd k8 hz1
        go_wp2_with fail
        obtain ⟨wq, hwq⟩ : ∃ x, x = wr := ⟨_, rfl⟩
        rw [← hwq] at K6r RD K8
        clear hwq
        go_loopw [18] (fun s18 wr => ∃ (k : Nat) (zs : List Value), k ≤ M ∧ s18 = .int .i64 k ∧ wr.ownsRow wq.heap.size 35 2 (.slice ad M cd) M zs ∧ Touch (fun k => (Value.slice ad M cd).ownBlock = some k) w8 wr) (fun s18 _ => M - (intOf s18).toNat)
        case atStart => exact ⟨0, zs1, by omega, rfl, RD.out, Touch.refl _ _⟩
        case round =>
          obtain ⟨k, zs, hk, rfl, hR, hT⟩ := hrel
          rename World => wr
          by_cases hlt : k < M
          · obtain ⟨gg, c', hv, -, -, -, hgl, hcell, hfroz⟩ := own_form hR (by omega)
            simp only [Value.slice.injEq] at hv
            obtain ⟨rfl, -, rfl⟩ := hv
            obtain ⟨u, hu⟩ : ∃ u, zs[k * 2]? = some u := ⟨_, List.getElem?_eq_getElem (by have := hR.1; omega)⟩
            obtain ⟨u', hu'⟩ : ∃ u, zs[k * 2 + 1]? = some u := ⟨_, List.getElem?_eq_getElem (by have := hR.1; omega)⟩
            have x0 := hcell _ u hu
            have x1 := hcell _ u' hu'
            have f0 := hfroz (k * 2)
            have f1 := hfroz (k * 2 + 1)
            have HRW := Lib.hid hR
            have HTT := Lib.hid hT
            clear hR hT hcell hfroz hu hu'
            go_wp2_with fail
            go_roundw
            case rel => exact ⟨k + 1, _, by omega, by go_num, own_store (own_store HRW.out (k * 2) _) (k * 2 + 1) _, (HTT.out.setCell (p := ⟨gg, k * 2, none⟩) (.inl rfl) _).setCell (p := ⟨gg, k * 2 + 1, none⟩) (.inl rfl) _⟩
            case measure => simp [intOf]; omega
          · have Kqr := Lib.hid (touch_own K8.out (Nat.le_refl _) RD.out hT)
            have K6b := Lib.hid (Kept.trans K6r.out Kqr.out)
            have K3b := Lib.hid (Kept.trans K36.out K6b.out)
            clear hR hT
            have hst := law9_Stay l L' w2.heap.size l.length g c v wr (F3.out.kept K3b.out) (HR.out.kept (Kept.trans K3.out K3b.out)) (fun y hy => Ok.keep_ (HOK.out y hy) (Kept.trans K3.out K3b.out)) h60 HCT.out
            rw [← HVF.out] at hst
            have HST := Lib.hid hst
            clear hst
            go_wp2_with fail
            refine HST.out.mono ?_
            rintro e w9 ⟨rfl, k9⟩
            have K39 := Lib.hid (Kept.trans K3b.out k9)
            have K69 := Lib.hid (Kept.trans K6b.out k9)
            clear k9
            go_wp2_with fail
            refine (ref11_Layout D a v w9 (HT.out.kept (Kept.trans K23.out K39.out)) ha HCF.out).mono ?_
            rintro e wA ⟨vw, rfl, rw_, kA⟩
            rw [← HXS.out] at rw_
            have RW_ := Lib.hid rw_
            have K3A := Lib.hid (Kept.trans K39.out kA)
            have K6A := Lib.hid (Kept.trans K69.out kA)
            obtain ⟨aw, cw, rfl, hcw1, hcw2⟩ := own_slice rw_
            obtain ⟨aa, ca, rfl, hca1, hca2⟩ := own_slice RA.out
            clear rw_ kA
            go_wp2_with fail
            refine (ref11_Fresh D a v wA (HT.out.kept (Kept.trans K23.out K3A.out)) ha HCF.out).mono ?_
            rintro e wB ⟨vf2, rfl, rf, kB⟩
            rw [← HXS.out] at rf
            have RF := Lib.hid rf
            have K3B := Lib.hid (Kept.trans K3A.out kB)
            have K6B := Lib.hid (Kept.trans K6A.out kB)
            have KAB := Lib.hid kB
            clear rf kB
            go_wp2_with fail
            refine (law11_sameValues (xs.map fun x => zeroOf x.2.2) xs.length vb vf2 wB (by simp) (by rw [← frV_map]; exact Rd.of_own (Touch.own (S := fun _ => False) (Touch.of_kept (Kept.trans K56.out K6B.out)) RB.out (fun _ _ => id))) (by rw [← frV_map]; exact Rd.of_own RF.out)).mono ?_
            rintro e wC ⟨rfl, m3, hwC⟩
            have KBC := Lib.hid (show Kept wB wC by rw [hwC]; exact kept_drewN (Below.refl _ _) m3)
            have K3C := Lib.hid (Kept.trans K3B.out KBC.out)
            have K6C := Lib.hid (Kept.trans K6B.out KBC.out)
            have hbC := B6.out.kept K6C.out
            have q0 := hbC.cell 0
            have q1 := hbC.cell 1
            simp only [List.getElem?_toArray, List.getElem?_cons_succ, List.getElem?_cons_zero] at q0 q1
            have zq := hbC.lt
            clear hwC hbC
            go_wp2_with fail
            refine (ref11_Place D a fc fi v wC (HT.out.kept (Kept.trans K23.out K3C.out)) ha HCF.out).mono ?_
            rintro e wD ⟨rfl, kD⟩
            rw [← HXS.out, ← HP.out]
            have K3D := Lib.hid (Kept.trans K3C.out kD)
            have KAD := Lib.hid (Kept.trans (Kept.trans KAB.out KBC.out) kD)
            clear kD q0 q1 zq
            obtain ⟨N, hN⟩ : ∃ N, N = xs.length := ⟨_, rfl⟩
            have HN := Lib.hid hN
            rw [← hN] at hsl RA RW_ hcw1 hca1 ⊢
            have RAD := Lib.hid (Rd.of_own (Touch.own (S := fun _ => False) (Touch.of_kept (Kept.trans K45.out (Kept.trans K56.out (Kept.trans K6A.out KAD.out)))) RA.out (fun _ _ => id)))
            have RWD := Lib.hid (Rd.of_own (Touch.own (S := fun _ => False) (Touch.of_kept KAD.out) RW_.out (fun _ _ => id)))
            clear hN
            go_wp2_with fail
            obtain ⟨wp, hwp⟩ : ∃ x, x = wr := ⟨_, rfl⟩
            clear hwp
            go_loopw [21] (fun s21 wr => ∃ k : Nat, k ≤ N ∧ s21 = .int .i64 k ∧ Kept wD wr) (fun s21 _ => N - (intOf s21).toNat)
            case atStart => exact ⟨0, by omega, rfl, Below.refl _ _⟩
            case round =>
              obtain ⟨k, hk, rfl, hK⟩ := hrel
              rename World => wi
              have HK := Lib.hid hK
              by_cases hlt : k < N
              · obtain ⟨x, hx⟩ : ∃ x, xs[k]? = some x := ⟨_, List.getElem?_eq_getElem (by have := HN.out; omega)⟩
                obtain ⟨xb, xo, xc, hv, x0, x1⟩ := sl_cell HN.out (RAD.out.kept hK) hx
                simp only [Value.slice.injEq] at hv
                obtain ⟨rfl, -, rfl⟩ := hv
                obtain ⟨yb, yo, yc, hv, y0, y1⟩ := sl_cell HN.out (RWD.out.kept hK) hx
                simp only [Value.slice.injEq] at hv
                obtain ⟨rfl, -, rfl⟩ := hv
                have hi1 : (k : Int) < (N : Int) := by omega
                have hi0 : (0 : Int) ≤ (k : Int) := by omega
                have hmm := List.mem_of_getElem? hx
                obtain ⟨hm1, hm2⟩ := slot_mem (by rw [← HXS.out]; exact hmm : x ∈ slotL D a)
                have hm3 := flds_len HCF.out x.1
                have hm4 := HT.out.size_of hm1
                have hpos := plcI_in hmm
                rw [HXS.out] at hpos
                obtain ⟨pi, hpi⟩ : ∃ pi, pi = plcI (slotL D a) (x.1, (x.2.1 : Int)) := ⟨_, rfl⟩
                have CP := fun w' h => slots_Place D a x.1 x.2.1 v w' h ha HCF.out hm4 ⟨by omega, by omega⟩
                rw [← hpi] at hpos CP
                have hneg : decide (pi < 0) = false := by simpa using hpos
                have CP := Lib.hid CP
                clear hK hx hmm hm1 hm2 hm3 hm4 hpi
                go_wp2_with fail
                go_region_held2 (fun w' => w'.cell? ⟨xb, xo + k * 2, none⟩ = some (.string x.1) ∧ w'.cell? ⟨xb, xo + k * 2 + 1, none⟩ = some (.int .i64 x.2.1) ∧ w'.cell? ⟨yb, yo + k * 2, none⟩ = some (.string x.1) ∧ w'.cell? ⟨yb, yo + k * 2 + 1, none⟩ = some (.int .i64 x.2.1)) (go_keep)
                  ((go_at_call 13; refine (CP.out _ (HT.out.kept (Kept.trans K23.out (Kept.trans K3D.out (Kept.trans HK.out (Below.refl _ _).drew))))).mono ?_; rintro e w5 ⟨rfl, k5⟩; have x05 := Kept.cell k5 x0; have x15 := Kept.cell k5 x1; have y05 := Kept.cell k5 y0; have y15 := Kept.cell k5 y1; have K5 := Lib.hid (Kept.trans HK.out (Kept.trans (Below.refl _ _).drew k5)); clear k5))
                go_wp2_with fail
                go_roundw
                case rel => exact ⟨k + 1, by omega, by go_num, K5.out⟩
                case measure => simp [intOf]; omega
              · clear hK
                go_wp2_with fail
                go_ret
                exact ⟨rfl, Kept.trans (Kept.trans K3.out K3D.out) HK.out⟩
end Go.Proofs.Ytjljfadfepidjaa
