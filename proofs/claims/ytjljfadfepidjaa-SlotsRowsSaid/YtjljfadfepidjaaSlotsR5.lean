/-
  The document's own answer of chapter 11 by contract: Fresh, Place.
-/
import Derived.Test.YtjljfadfepidjaaSlotsR4
import Derived.Deep.RegionHeld3
namespace Go.Proofs.Ytjljfadfepidjaa
open Go.RowKit
set_option maxRecDepth 100000

theorem instF_at {c : ByteArray} : ∀ {l : List MemberV} {k : Nat} {x : SV}, x ∈ instF c l k → k ≤ x.2.1 ∧ ∃ m, l[x.2.1 - k]? = some m ∧ m.desc = x.2.2
  | [], _, _, h => by simp [instF] at h
  | m :: l, k, x, h => by
    unfold instF at h
    rcases List.mem_append.1 h with h | h
    · split at h
      · obtain rfl : x = (c, k, m.desc) := by simpa using h
        exact ⟨Nat.le_refl _, m, by simp, rfl⟩
      · simp at h
    · obtain ⟨h1, m', h2, h3⟩ := instF_at h
      refine ⟨by omega, m', ?_, h3⟩
      rw [show x.2.1 - k = (x.2.1 - (k + 1)) + 1 by omega, List.getElem?_cons_succ]
      exact h2
theorem slot_at {D : List TD} {s : ByteArray} {x : SV} (h : x ∈ slotL D s) : ∃ k t m, atO D x.1 = some k ∧ D[k]? = some t ∧ k < D.length ∧ t.fields[x.2.1]? = some m ∧ m.desc = x.2.2 := by
  obtain ⟨h1, h2⟩ := slot_mem h
  unfold there at h1
  obtain ⟨k, hk⟩ := Option.isSome_iff_exists.1 h1
  obtain ⟨t, ht, -, hl⟩ := atO_some hk
  unfold slotL at h
  obtain ⟨c, hc, hx⟩ := List.mem_flatMap.1 h
  obtain ⟨e1, -⟩ := instF_mem hx
  obtain ⟨-, m, hm, hd⟩ := instF_at hx
  refine ⟨k, t, m, hk, ht, hl, ?_, hd⟩
  rw [← e1, flds_at hk ht] at hm
  simpa using hm

set_option maxHeartbeats 4000000 in
theorem ref11_Fresh (D : List TD) (s : ByteArray) (v : Value) (w : World) (h : TyR w v D) (hs : s.size ≤ maxLen) (hct : ∀ t ∈ D, t.fields.length ≤ 3000) :
    Calls Try.prog 17 #[v, .string s] w fun e w' => ∃ v', e = .returned v' ∧ w'.ownsRow w.heap.size 35 2 v' (slotL D s).length ((slotL D s).flatMap frV) ∧ Kept w w' := by
  have H := Lib.hid h
  have HCT := Lib.hid hct
  have hlen := slot_len hct h.len s
  have hat := fun x (hx : x ∈ slotL D s) => slot_at hx
  obtain ⟨xs, hxs⟩ : ∃ xs, xs = slotL D s := ⟨_, rfl⟩
  have HXS := Lib.hid hxs
  rw [← hxs] at hlen hat ⊢
  have HAT := Lib.hid hat
  obtain ⟨av, cv, rfl, -, -⟩ := h.slice
  clear h hct hxs hat
  go_enter Try.func17, Try.ntmps17
  go_wp2_with fail
  refine (ref11_Layout D s _ w H.out hs HCT.out).mono ?_
  rintro e w1 ⟨vl, rfl, ho, k1⟩
  rw [← HXS.out] at ho
  obtain ⟨al, cl, rfl, hcl1, hcl2⟩ := own_slice ho
  obtain ⟨N, hN⟩ : ∃ N, N = xs.length := ⟨_, rfl⟩
  rw [← hN] at ho hcl1 hlen ⊢
  have HN := Lib.hid hN
  have HO := Lib.hid (Rd.of_own ho)
  have K1 := Lib.hid k1
  clear ho k1 hN
  go_wp2_with fail
  go_loopw [5, 7] (fun s5 s7 wr => ∃ k : Nat, k ≤ N ∧ s7 = .int .i64 k ∧ wr.ownsRow w1.heap.size 35 2 s5 k ((xs.take k).flatMap frV) ∧ Kept w1 wr) (fun _ s7 _ => N - (intOf s7).toNat)
  case atStart => exact ⟨0, by omega, rfl, World.ownsRow_nil _ _ _ _, Below.refl _ _⟩
  case round =>
    obtain ⟨k, hk, rfl, hO, hK⟩ := hrel
    rename World => wr
    obtain ⟨ao, co, rfl, hco1, hco2⟩ := own_slice hO
    have HR := Lib.hid hO
    have HK := Lib.hid hK
    have HB := Lib.hid (Kept.trans K1.out hK)
    have zr := hK.size
    clear hO hK
    by_cases hlt : k < N
    · obtain ⟨x, hx⟩ : ∃ x, xs[k]? = some x := ⟨_, List.getElem?_eq_getElem (by have := HN.out; omega)⟩
      obtain ⟨xb, xo, xc, hv, x0, x1⟩ := sl_cell HN.out (HO.out.kept HK.out) hx
      simp only [Value.slice.injEq] at hv
      obtain ⟨rfl, -, rfl⟩ := hv
      obtain ⟨ka, t, m, hka, ht, hkl, hm, hmd⟩ := HAT.out x (List.mem_of_getElem? hx)
      have hnx := flat_take frV hx
      have CA := ref9_At D x.1 _ wr (H.out.kept HB.out)
      rw [atI_some hka] at CA
      have CA := Lib.hid CA
      obtain ⟨tb, tof, tc, iv, fv, mv, hv, y0, y1, y2, y3, y4, y5, hri, -, hfr, -, hrm, -⟩ := H.out.cells ht
      simp only [Value.slice.injEq] at hv
      obtain ⟨rfl, -, rfl⟩ := hv
      obtain ⟨-, ai, ci, rfl, -⟩ := hri
      obtain ⟨-, am, cm, rfl, -⟩ := hrm
      obtain ⟨fb, fo, fcp, hv, z0, z1, z2, z3, z4⟩ := mem_row rfl hfr hm
      subst hv
      have hml := (List.getElem?_eq_some_iff.1 hm).1
      have y0 := Kept.cell HB.out y0
      have y1 := Kept.cell HB.out y1
      have y2 := Kept.cell HB.out y2
      have y3 := Kept.cell HB.out y3
      have y4 := Kept.cell HB.out y4
      have y5 := Kept.cell HB.out y5
      have z2 := Kept.cell HB.out z2
      rw [hmd] at z2
      obtain ⟨⟨zr', zn⟩, hz⟩ : ∃ z, zeroOf x.2.2 = z := ⟨_, rfl⟩
      have CZ := ref11_Zero x.2.2
      rw [hz] at CZ
      have CZ := Lib.hid CZ
      have HNX := Lib.hid (show (xs.take (k + 1)).flatMap frV = (xs.take k).flatMap frV ++ [.bool zr', .int .i64 zn] by rw [hnx]; congr 1; unfold frV; rw [hz]; rfl)
      have hki : (ka : Int) < (D.length : Int) := by omega
      have hk0 : (0 : Int) ≤ (ka : Int) := by omega
      have hi1 : (k : Int) < (N : Int) := by omega
      have hi0 : (0 : Int) ≤ (k : Int) := by omega
      have hj1 : (x.2.1 : Int) < (t.fields.length : Int) := by omega
      have hj0 : (0 : Int) ≤ (x.2.1 : Int) := by omega
      have BT := Lib.hid (Blk.new wr 43 #[.string t.name, .string t.super, .int .i64 t.access, .slice ai t.interfaces.length ci, .slice (some ⟨fb, fo, none⟩) t.fields.length fcp, .slice am t.methods.length cm])
      have k2 : Kept wr (wr.alloc (.cells #[.string t.name, .string t.super, .int .i64 t.access, .slice ai t.interfaces.length ci, .slice (some ⟨fb, fo, none⟩) t.fields.length fcp, .slice am t.methods.length cm] 43)) := (Below.refl _ _).alloc (Nat.le_refl _) _
      have K2 := Lib.hid k2
      have x1' := Kept.cell k2 x1
      have z2' := Kept.cell k2 z2
      have b4 := BT.out.cell 4
      simp only [List.getElem?_toArray, List.getElem?_cons_succ, List.getElem?_cons_zero] at b4
      have OA := Lib.hid (Touch.own (S := fun _ => False) (Touch.of_kept k2) HR.out (fun _ _ => id))
      have z3s := k2.size
      have hxb : xb < w1.heap.size := by
        obtain ⟨b', o', c', hv', q0, -⟩ := sl_cell HN.out HO.out hx
        simp only [Value.slice.injEq, Option.some.injEq, Addr.mk.injEq] at hv'
        obtain ⟨⟨rfl, rfl, -⟩, -, rfl⟩ := hv'
        exact World.block_lt_of_cell? w1 _ q0
      have hfb : fb < w1.heap.size := Nat.lt_of_lt_of_le (World.block_lt_of_cell? w _ z0) K1.out.size
      have hne : ∀ b, (Value.slice ao k co).ownBlock = some b → b ≠ wr.heap.size ∧ b ≠ xb ∧ b ≠ fb := by
        intro b hb
        have := HR.out.lt b hb
        refine ⟨?_, ?_, ?_⟩ <;> omega
      have HNE := Lib.hid hne
      clear hx hka ht hkl hm hmd hnx hz hfr k2 hne
      go_wp2_with fail
      refine CA.out.mono ?_
      rintro e w2 ⟨rfl, rfl⟩
      clear CA
      go_wp2_with fail
      clear y0 y1 y2 y3 y4 y5 x0 x1 z2 z0 z1 z3 z4
      generalize (wr.alloc (.cells #[.string t.name, .string t.super, .int .i64 t.access, .slice ai t.interfaces.length ci, .slice (some ⟨fb, fo, none⟩) t.fields.length fcp, .slice am t.methods.length cm] 43)) = WT at *
      go_region_held3 (fun w' => w'.cell? ⟨wr.heap.size, 4, none⟩ = some (.slice (some ⟨fb, fo, none⟩) t.fields.length fcp) ∧ w'.cell? ⟨xb, xo + k * 2 + 1, none⟩ = some (.int .i64 x.2.1) ∧ w'.cell? ⟨fb, fo + x.2.1 * 5 + 2, none⟩ = some (.string x.2.2)) (go_keep)
        (first
          | (go_at_call 39; refine (CZ.out _).mono ?_; rintro e w5 ⟨rfl, k5⟩; have c5 := Kept.cell k5 b4; have d5 := Kept.cell k5 x1'; have e5 := Kept.cell k5 z2'; have K5 := Lib.hid (show Kept WT w5 from Kept.trans (Below.refl _ _).drew k5); clear k5)
          | (refine step_append (P := Try.prog) elem_val rfl (.tmp 28) (.tmp 40) rfl w1.heap.size (.slice ao k co) k ((xs.take k).flatMap frV) (by rfl) ((Touch.own (S := fun _ => False) (Touch.of_kept K5.out) OA.out (fun _ _ => id)).alloc _) (.slice (some ⟨w5.heap.size, 0, none⟩) 1 1) 1 [.bool zr', .int .i64 zn] (by rfl) (Rd.one w5 [.bool zr', .int .i64 zn] 35 rfl) (encVal_one ⟨zr', zn⟩) (by omega) (by omega) (by rw [World.size_alloc]; exact Nat.le_succ_of_le (Nat.le_trans zr (Nat.le_trans z3s K5.out.size))) ?_; intro v6 w6 ho6 hg6 hq6; have HO6 := Lib.hid ho6; have t6 : Touch (fun b => (Value.slice ao k co).ownBlock = some b) (w5.alloc (.cells #[.bool zr', .int .i64 zn] 35)) w6 := Touch.of_grown hg6 (fun _ h => h); have c6 := t6.cell (Kept.cell ((Below.refl _ w5).alloc (Nat.le_refl _) _) c5) (fun e => (HNE.out _ e).1 rfl); have d6 := t6.cell (Kept.cell ((Below.refl _ w5).alloc (Nat.le_refl _) _) d5) (fun e => (HNE.out _ e).2.1 rfl); have e6 := t6.cell (Kept.cell ((Below.refl _ w5).alloc (Nat.le_refl _) _) e5) (fun e => (HNE.out _ e).2.2 rfl); have T6 := Lib.hid t6; clear ho6 hg6 hq6 t6))
      go_wp2_with fail
      go_roundw
      case rel => exact ⟨k + 1, by omega, by go_num, by rw [HNX.out]; exact HO6.out, (by have kk : Kept w1 (w5.alloc (.cells #[.bool zr', .int .i64 zn] 35)) := (Kept.trans (Kept.trans HK.out K2.out) K5.out).alloc (Kept.trans (Kept.trans HK.out K2.out) K5.out).size _; exact Below.trans kk (T6.out.below (fun b hb => (HR.out.lt b hb).1) kk.size))⟩
      case measure => simp [intOf]; omega
    · have e1 : xs.take k = xs := List.take_of_length_le (by have := HN.out; omega)
      have hkN : k = N := by omega
      subst hkN
      have HF := HR.out
      rw [e1] at HF
      have HF := Lib.hid (HF.base_ K1.out.size)
      clear e1
      go_wp2_with fail
      go_ret
      exact ⟨_, rfl, by rw [← HN.out]; exact HF.out, HB.out⟩

set_option maxHeartbeats 2000000 in
theorem ref11_Place (D : List TD) (s fc : ByteArray) (fi : Int) (v : Value) (w : World) (h : TyR w v D) (hs : s.size ≤ maxLen) (hct : ∀ t ∈ D, t.fields.length ≤ 3000) :
    Calls Try.prog 18 #[v, .string s, .agg #[.string fc, .int .i64 fi]] w fun e w' => e = .returned (.int .i64 (plcI (slotL D s) (fc, fi))) ∧ Kept w w' := by
  have H := Lib.hid h
  have HCT := Lib.hid hct
  have hlen := slot_len hct h.len s
  obtain ⟨xs, hxs⟩ : ∃ xs, xs = slotL D s := ⟨_, rfl⟩
  have HXS := Lib.hid hxs
  rw [← hxs] at hlen ⊢
  obtain ⟨av, cv, rfl, -, -⟩ := h.slice
  have B0 := Lib.hid (Blk.new w 24 #[.string fc, .int .i64 fi])
  have K0 := Lib.hid (show Kept w (w.alloc (.cells #[.string fc, .int .i64 fi] 24)) from (Below.refl _ _).alloc (Nat.le_refl _) _)
  clear h hct hxs
  go_enter Try.func18, Try.ntmps18
  go_wp2_with fail
  generalize (w.alloc (.cells #[.string fc, .int .i64 fi] 24)) = W at *
  refine (ref11_Layout D s _ W (H.out.kept K0.out) hs HCT.out).mono ?_
  rintro e w1 ⟨vl, rfl, ho, k1⟩
  rw [← HXS.out] at ho
  obtain ⟨al, cl, rfl, hcl1, hcl2⟩ := own_slice ho
  obtain ⟨N, hN⟩ : ∃ N, N = xs.length := ⟨_, rfl⟩
  rw [← hN] at ho hcl1 hlen ⊢
  have HN := Lib.hid hN
  have HO := Lib.hid (Rd.of_own ho)
  have K1 := Lib.hid (Kept.trans K0.out k1)
  have B1 := Lib.hid (B0.out.kept k1)
  clear ho k1 hN
  go_wp2_with fail
  go_loopw [8] (fun s8 wr => ∃ k : Nat, k ≤ N ∧ s8 = .int .i64 k ∧ (∀ j x, j < k → xs[j]? = some x → (x.1, (x.2.1 : Int)) ≠ (fc, fi)) ∧ Kept w1 wr) (fun s8 _ => N - (intOf s8).toNat)
  case atStart => exact ⟨0, by omega, rfl, fun j x hj => (by omega), Below.refl _ _⟩
  case round =>
    obtain ⟨k, hk, rfl, hno, hK⟩ := hrel
    rename World => wr
    have HNO := Lib.hid hno
    have HK := Lib.hid hK
    have KF := Lib.hid (Kept.trans K1.out hK)
    have bf := B1.out.kept hK
    have f0 := bf.cell 0
    have f1 := bf.cell 1
    simp only [List.getElem?_toArray, List.getElem?_cons_succ, List.getElem?_cons_zero] at f0 f1
    clear hno hK bf
    by_cases hlt : k < N
    · obtain ⟨x, hx⟩ : ∃ x, xs[k]? = some x := ⟨_, List.getElem?_eq_getElem (by have := HN.out; omega)⟩
      obtain ⟨xb, xo, xc, hv, x0, x1⟩ := sl_cell HN.out (HO.out.kept HK.out) hx
      simp only [Value.slice.injEq] at hv
      obtain ⟨rfl, -, rfl⟩ := hv
      have hi1 : (k : Int) < (N : Int) := by omega
      have hi0 : (0 : Int) ≤ (k : Int) := by omega
      have HX := Lib.hid hx
      have hstep : (x.1, (x.2.1 : Int)) ≠ (fc, fi) → ∀ j y, j < k + 1 → xs[j]? = some y → (y.1, (y.2.1 : Int)) ≠ (fc, fi) := by
        intro hne j y hj hy
        by_cases e : j = k
        · subst e
          rw [HX.out] at hy
          obtain rfl : x = y := by simpa using hy
          exact hne
        · exact HNO.out j y (by omega) hy
      have HST := Lib.hid hstep
      clear hx hstep
      by_cases h1 : x.1 = fc
      · by_cases h2 : (x.2.1 : Int) = fi
        · have hp : plcI xs (fc, fi) = k := by
            have : plcO xs (fc, fi) = some k := by
              have key : ∀ (l : List SV) (k : Nat) (x : SV), l[k]? = some x → (x.1, (x.2.1 : Int)) = (fc, fi) → (∀ j y, j < k → l[j]? = some y → (y.1, (y.2.1 : Int)) ≠ (fc, fi)) → plcO l (fc, fi) = some k := by
                intro l
                induction l with
                | nil => intro k x h; simp at h
                | cons z l ih =>
                  intro k x h he hn
                  cases k with
                  | zero =>
                    obtain rfl : z = x := by simpa using h
                    simp [plcO, he]
                  | succ k =>
                    have hz := hn 0 z (by omega) rfl
                    rw [plcO, if_neg hz, ih k x (by simpa using h) he (fun j y hj hy => hn (j + 1) y (by omega) (by simpa using hy))]
                    rfl
              exact key xs k x HX.out (by rw [h1, h2]) HNO.out
            unfold plcI; rw [this]
          have HP := Lib.hid hp
          have b1 : (x.1.toList == fc.toList) = true := by rw [h1]; simp
          have b2 : ((x.2.1 : Int) == fi) = true := by simp [h2]
          clear hp h1
          subst h2
          go_wp2_with fail
          go_quiet (fail)
          go_wp2_with fail
          go_ret
          exact ⟨ret_int HP.out.symm, by first | exact KF.out.drew | exact kept_drewN KF.out _ | exact KF.out⟩
        · have b1 : (x.1.toList == fc.toList) = true := by rw [h1]; simp
          have b2 : ((x.2.1 : Int) == fi) = false := by simp [h2]
          have HX2 := Lib.hid (HST.out fun e => h2 (by simpa using (Prod.mk.injEq _ _ _ _ ▸ e : _ ∧ _).2))
          clear h1 h2
          go_wp2_with fail
          go_quiet (fail)
          go_wp2_with fail
          go_roundw
          case rel => exact ⟨k + 1, by omega, by go_num, HX2.out, by first | exact HK.out.drew | exact kept_drewN HK.out _ | exact HK.out⟩
          case measure => simp [intOf]; omega
      · have b1 := str_ne_ h1
        have HX2 := Lib.hid (HST.out fun e => h1 (by simpa using (Prod.mk.injEq _ _ _ _ ▸ e : _ ∧ _).1))
        clear h1
        go_wp2_with fail
        go_quiet (fail)
        go_wp2_with fail
        go_roundw
        case rel => exact ⟨k + 1, by omega, by go_num, HX2.out, by first | exact HK.out.drew | exact kept_drewN HK.out _ | exact HK.out⟩
        case measure => simp [intOf]; omega
    · have hp : plcI xs (fc, fi) = -1 := by
        have key : ∀ (l : List SV), (∀ (j : Nat) y, l[j]? = some y → (y.1, (y.2.1 : Int)) ≠ (fc, fi)) → plcO l (fc, fi) = none := by
          intro l
          induction l with
          | nil => intro _; rfl
          | cons z l ih =>
            intro hn
            rw [plcO, if_neg (hn 0 z rfl), ih (fun j y hy => hn (j + 1) y (by simpa using hy))]
            rfl
        unfold plcI
        rw [key xs fun j y hy => HNO.out j y (by have := (List.getElem?_eq_some_iff.1 hy).1; have := HN.out; omega) hy]
      have HP := Lib.hid hp
      clear hp
      go_wp2_with fail
      go_ret
      exact ⟨ret_int HP.out.symm, KF.out⟩
end Go.Proofs.Ytjljfadfepidjaa
