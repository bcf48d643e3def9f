/-
  The document's own answer for chapter 9, by contract: Above, All, Sub.
-/
import Derived.Test.YteblpdcedlaedaaRef9
namespace Go.Proofs.Yteblpdcedlaedaa
open Go.RowKit Go.Maps Go.WideMaps
set_option maxRecDepth 100000

theorem rd_far {w w' : World} {S : Nat → Prop} {sz n : Nat} {v : Value} {xs : List Value} (h : Rd w sz v n xs) (ht : Touch S w w') (hn : ∀ k, v.ownBlock = some k → ¬ S k) : Rd w' sz v n xs := by
  obtain ⟨hl, a, c, rfl, h1, h2, h3⟩ := h
  refine ⟨hl, a, c, rfl, h1, h2, fun h0 => ?_⟩
  obtain ⟨b, off, rfl, hc⟩ := h3 h0
  exact ⟨b, off, rfl, fun j u hu => ht.cell (hc j u hu) (hn b rfl)⟩

theorem ref9_Above (D : List TD) (s : ByteArray) (v : Value) (w : World) (h : TyR w v D) (hs : s.size ≤ maxLen) :
    Calls Try.prog 53 #[v, .string s] w fun e w' => ∃ v', e = .returned v' ∧ RowS w.heap.size (aboveL D s) w' v' ∧ Kept w w' := by
  have k0 : Kept w (w.alloc (.cells #[.string s] 9)) := (Below.refl _ _).alloc (Nat.le_refl _) _
  have C := ref9_over D v w h D.length s [s] [] (.slice (some ⟨w.heap.size, 0, none⟩) 1 1) (.slice none 0 0) (w.alloc (.cells #[.string s] 9)) hs k0 ((Row.of_own (own_new w [.string s] 1 (Nat.le_refl _) rfl)).base (Nat.zero_le _)) (World.ownsRow_nil _ _ _ _) (fun k hk e => by cases e) (fun hth => ⟨good_root hth, rfl⟩)
  obtain ⟨a, c, rfl, -, -⟩ := h.slice
  have K0 := Lib.hid k0
  clear h k0
  go_enter Try.func53, Try.ntmps53
  go_wp2_with fail
  refine C.mono ?_
  rintro e w1 ⟨v1, rfl, ho, ht, -⟩
  obtain ⟨a1, c1, rfl, -, -⟩ := own_slice ho
  have HO := Lib.hid ho
  have KK := Lib.hid (Kept.trans K0.out (ht.below (fun b hb => by cases hb) (Nat.le_refl _)))
  clear C ho ht
  go_wp2_with fail
  go_ret
  exact ⟨_, rfl, Row.of_own HO.out, KK.out⟩

set_option maxHeartbeats 2000000 in
theorem ref9_All (D : List TD) (s : ByteArray) (v : Value) (w : World) (h : TyR w v D) (hs : s.size ≤ maxLen) :
    Calls Try.prog 48 #[v, .string s] w fun e w' => ∃ v', e = .returned v' ∧ RowS w.heap.size (allL D s) w' v' ∧ Kept w w' := by
  have H := Lib.hid h
  obtain ⟨a, c, rfl, hc1, hc2⟩ := h.slice
  have hl := h.len
  have C := ref9_Chain D s _ w h hs
  clear h
  go_enter Try.func48, Try.ntmps48
  go_wp2_with fail
  refine C.mono ?_
  rintro e w3 ⟨vc, rfl, hR, k3⟩
  clear C
  obtain ⟨ac, cc, rfl, hcc, hcc2⟩ := hR.form
  obtain ⟨N, hN⟩ : ∃ N, N = (chainL D s).length := ⟨_, rfl⟩
  have hND : N ≤ D.length := by rw [hN]; exact (chainL_nms D s).le
  have hrl := hR.lt
  have HR := Lib.hid hR
  have HN := Lib.hid hN
  rw [← hN] at hcc hrl ⊢
  have HRL := Lib.hid hrl
  have K3 := Lib.hid k3
  have z3 := k3.size
  clear hR hrl k3 hN
  go_wp2_with fail
  go_loopw [5, 7] (fun s5 s7 wr => ∃ (i : Nat) (o : List ByteArray), i ≤ N ∧ s7 = .int .i64 i ∧ o = ((chainL D s).take i).foldl (fun out c => addL out (aboveL D c)) [] ∧ wr.ownsRow w3.heap.size 9 1 s5 o.length (o.flatMap encS) ∧ Below w3.heap.size w3 wr) (fun _ s7 _ => N - (intOf s7).toNat)
  case atStart => exact ⟨0, [], by omega, rfl, by simp, World.ownsRow_nil _ _ _ _, Below.refl _ _⟩
  case round =>
    obtain ⟨i, o, hi, rfl, ho, hO, hB⟩ := hrel
    have hnms : Nms D o := by rw [ho]; exact foldl_keep (I := fun o => Nms D o) (fun o c ho => addL_nms ho (aboveL_nms D c).th) _ _ (Nms.nil D)
    obtain ⟨ao, co, rfl, hco, hco2⟩ := own_slice hO
    have hol := hnms.le
    have HNM := Lib.hid hnms
    have HOUT := Lib.hid ho
    have HO := Lib.hid hO
    have HB := Lib.hid hB
    have KR := Lib.hid (Kept.trans K3.out hB)
    have zr := hB.size
    have hrd := (HR.out.kept hB).rd
    rw [← HN.out] at hrd
    have HRD := Lib.hid hrd
    clear hnms ho hO hB hrd
    by_cases hlt : i < N
    · obtain ⟨x, hx⟩ : ∃ x, (chainL D s)[i]? = some x := ⟨_, List.getElem?_eq_getElem (by have := HN.out; omega)⟩
      obtain ⟨rb, ro, rc, hv, xs⟩ := str_cell HN.out HRD.out hx
      simp only [Value.slice.injEq] at hv
      obtain ⟨rfl, -, rfl⟩ := hv
      have hth : there D x := (chainL_nms D s).th x (List.mem_of_getElem? hx)
      have C := Lib.hid (ref9_Above D x _ wr (H.out.kept KR.out) (H.out.size_of hth))
      have HX := Lib.hid hx
      have hnI : (i : Int) < (N : Int) := by omega
      clear hth hx
      go_wp2_with fail
      refine C.out.mono ?_
      rintro e w4 ⟨va, rfl, hA, k4⟩
      obtain ⟨aa, ca, rfl, hca, hca2⟩ := hA.form
      obtain ⟨M, hM⟩ : ∃ M, M = (aboveL D x).length := ⟨_, rfl⟩
      have hMD : M ≤ D.length := by rw [hM]; exact (aboveL_nms D x).le
      have hal := hA.lt
      have HA := Lib.hid hA
      have HM := Lib.hid hM
      rw [← hM] at hca hal ⊢
      have HAL := Lib.hid hal
      have HO4 := Lib.hid (Touch.own (S := fun _ => False) (Touch.of_kept k4) HO.out (fun _ _ => id))
      have HB4 := Lib.hid (Below.trans HB.out (k4.mono zr))
      have hap : ∀ k, (Value.slice aa M ca).ownBlock = some k → (Value.slice ao o.length co).ownBlock ≠ some k := fun k hk e => by
        have := (hal k hk).1
        have := (HO.out.lt k e).2
        omega
      have HAP := Lib.hid hap
      clear hA k4 hM hal hap C HRD
      go_wp2_with fail
      obtain ⟨wq, rfl⟩ : ∃ wq : World, wq = wr := ⟨_, rfl⟩
      go_loopw [5, 9] (fun s5 s9 wy => ∃ (j : Nat) (o2 : List ByteArray), j ≤ M ∧ s9 = .int .i64 j ∧ o2 = addL o ((aboveL D x).take j) ∧ wy.ownsRow w3.heap.size 9 1 s5 o2.length (o2.flatMap encS) ∧ Below w3.heap.size w3 wy ∧ Rd wy 1 (.slice aa M ca) M ((aboveL D x).flatMap encS) ∧ (∀ k, (Value.slice aa M ca).ownBlock = some k → k < wy.heap.size ∧ s5.ownBlock ≠ some k)) (fun _ s9 _ => M - (intOf s9).toNat)
      case atStart => exact ⟨0, o, by omega, rfl, by simp [addL], HO4.out, HB4.out, by have := HA.out.rd; rwa [← HM.out] at this, fun k hk => ⟨(HAL.out k hk).2, HAP.out k hk⟩⟩
      case round =>
        obtain ⟨j, o2, hj, rfl, ho2, hO2, hB2, hrd2, hap2⟩ := hrel
        obtain ⟨ap, cp, rfl, hcp, hcp2⟩ := own_slice hO2
        have hnms2 : Nms D o2 := by rw [ho2]; exact addL_nms HNM.out (fun z hz => (aboveL_nms D x).th z (List.mem_of_mem_take hz))
        have hol2 := hnms2.le
        have HNM2 := Lib.hid hnms2
        have HOUT2 := Lib.hid ho2
        have HO2 := Lib.hid hO2
        have HB2 := Lib.hid hB2
        have HRD2 := Lib.hid hrd2
        have HAP2 := Lib.hid hap2
        have zr2 := hB2.size
        clear hnms2 ho2 hO2 hB2 hrd2 hap2
        by_cases hlt2 : j < M
        · obtain ⟨y, hy⟩ : ∃ y, (aboveL D x)[j]? = some y := ⟨_, List.getElem?_eq_getElem (by have := HM.out; omega)⟩
          obtain ⟨yb, yo, yc, hv, ys⟩ := str_cell HM.out HRD2.out hy
          simp only [Value.slice.injEq] at hv
          obtain ⟨rfl, -, rfl⟩ := hv
          have CH := Lib.hid (ref9_Has o2 y _ o2.length wr rfl (Rd.of_own HO2.out) (by omega))
          have hnx : addL o ((aboveL D x).take (j + 1)) = if y ∈ o2 then o2 else o2 ++ [y] := by rw [List.take_add_one, hy, Option.toList_some, addL_snoc, ← HOUT2.out]
          have hnJ : (j : Int) < (M : Int) := by omega
          have hthy : there D y := (aboveL_nms D x).th y (List.mem_of_getElem? hy)
          have HTY := Lib.hid hthy
          clear hy hthy
          by_cases hin : y ∈ o2
          · have ch := CH.out
            rw [decide_eq_true hin] at ch
            rw [if_pos hin] at hnx
            have HNX := Lib.hid hnx
            clear hnx hin
            go_wp2_with fail
            refine ch.mono ?_
            rintro e w5 ⟨rfl, rfl⟩
            clear ch
            go_wp2_with fail
            go_roundw
            case rel => exact ⟨j + 1, o2, by omega, by go_num, HNX.out.symm, HO2.out, HB2.out, HRD2.out, HAP2.out⟩
            case measure => simp [intOf]; omega
          · have ch := CH.out
            rw [decide_eq_false hin] at ch
            rw [if_neg hin] at hnx
            have HNX := Lib.hid hnx
            have hn3 := (HNM2.out.snoc HTY.out hin).le
            simp only [List.length_append, List.length_singleton] at hn3
            clear hnx hin
            go_wp2_with fail
            refine ch.mono ?_
            rintro e w5 ⟨rfl, rfl⟩
            clear ch
            go_wp2_with (at_builtin; refine wpl_pushH _ elem_str rfl (.tmp 40) (.tmp 45) rfl w3.heap.size _ o2.length _ rfl HO2.out [.string y] _ wr.heap.size rfl rfl rfl (one_S y) (by omega) (by omega) zr2 ?_; intro v7 w7 ho7 hg7 hk7 hb7; have HO7 := Lib.hid ho7; have HG7 := Lib.hid hg7; have HK7 := Lib.hid hk7; have HB7 := Lib.hid hb7; clear ho7 hg7 hk7 hb7)
            have t7 : Touch (fun k => (Value.slice ap o2.length cp).ownBlock = some k) wr w7 := Touch.of_grown HG7.out (fun k hk => hk)
            have T7 := Lib.hid t7
            clear t7
            go_roundw
            case rel =>
              refine ⟨j + 1, o2 ++ [y], by omega, by go_num, HNX.out.symm, by simpa [encS] using HO7.out, Below.trans HB2.out HB7.out, ?_, fun k hk => ⟨Nat.lt_of_lt_of_le (HAP2.out k hk).1 T7.out.size, fun e => ?_⟩⟩
              · exact rd_far HRD2.out T7.out (fun k hk e => (HAP2.out k hk).2 e)
              · rcases HK7.out k e with h7 | h7
                · exact (HAP2.out k hk).2 h7
                · have := (HAP2.out k hk).1
                  omega
            case measure => simp [intOf]; omega
        · obtain rfl : j = M := by omega
          have hfin : o2 = addL o (aboveL D x) := by rw [HOUT2.out, HM.out, List.take_length]
          have HFI := Lib.hid hfin
          clear hfin
          go_wp2_with fail
          go_roundw
          case rel => exact ⟨i + 1, o2, by omega, by go_num, by rw [List.take_add_one, HX.out, HFI.out, HOUT.out]; simp, HO2.out, HB2.out⟩
          case measure => simp [intOf]; omega
    · obtain rfl : i = N := by omega
      have hfin : o = allL D s := by rw [HOUT.out, HN.out, List.take_length, allL_eq]
      have HFI := Lib.hid hfin
      clear hfin
      go_wp2_with fail
      go_ret
      exact ⟨_, rfl, by rw [← HFI.out]; exact (Row.of_own HO.out).base z3, KR.out⟩
end Go.Proofs.Yteblpdcedlaedaa
