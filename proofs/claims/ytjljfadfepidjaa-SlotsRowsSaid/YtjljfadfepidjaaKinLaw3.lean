/-
  Chapter 9's law KinLaws, walked; the lists' helpers.
-/
import Derived.Test.YtjljfadfepidjaaKinLaw
import Derived.Deep.RegionHeld2
import Derived.Deep.CutBlock
namespace Go.Proofs.Ytjljfadfepidjaa
open Go.RowKit
set_option maxRecDepth 100000

theorem law9_same (l : List ByteArray) (va vb : Value) (n : Nat) (w : World) (hn : n = l.length) (ha : Rd w 1 va n (l.flatMap encS)) (hb : Rd w 1 vb n (l.flatMap encS)) (hl : n ≤ 1000000) :
    Calls Try.prog 28 #[va, vb] w fun e w' => e = .returned (.bool true) ∧ ∃ m, w' = w.drewN m := by
  have HA := Lib.hid ha
  have HB := Lib.hid hb
  have HN := Lib.hid hn
  obtain ⟨_, a, c, rfl, h1, h2, _⟩ := ha
  obtain ⟨_, a', c', rfl, h1', h2', _⟩ := hb
  clear hn
  go_enter Try.func28, Try.ntmps28
  go_wp2_with fail
  go_loopw [5] (fun s5 wr => ∃ k : Nat, k ≤ n ∧ s5 = .int .i64 k ∧ ∃ m, wr = w.drewN m) (fun s5 _ => n - (intOf s5).toNat)
  case atStart => exact ⟨0, by omega, rfl, 0, rfl⟩
  case round =>
    obtain ⟨k, hk, rfl, mm, rfl⟩ := hrel
    by_cases hlt : k < n
    · obtain ⟨x, hx⟩ : ∃ x, l[k]? = some x := ⟨_, List.getElem?_eq_getElem (by have := HN.out; omega)⟩
      obtain ⟨b, o, cc, hv, x0⟩ := str_cell HN.out HA.out hx
      obtain ⟨b', o', cc', hv', x0'⟩ := str_cell HN.out HB.out hx
      simp only [Value.slice.injEq] at hv hv'
      obtain ⟨rfl, -, rfl⟩ := hv
      obtain ⟨rfl, -, rfl⟩ := hv'
      have hkI : (k : Int) < (n : Int) := by omega
      have h0I : (0 : Int) ≤ (k : Int) := by omega
      clear hx
      go_wp2_with fail
      go_quiet (fail)
      go_wp2_with fail
      go_roundw
      case rel => exact ⟨k + 1, by omega, by go_num, _, rfl⟩
      case measure => simp [intOf]; omega
    · go_wp2_with fail
      go_ret
      exact ⟨rfl, _, rfl⟩

def timesL (l : List ByteArray) (s : ByteArray) : Nat := (l.filter fun x => decide (x = s)).length
theorem timesL_none {l : List ByteArray} {s : ByteArray} (h : s ∉ l) : timesL l s = 0 := by
  unfold timesL
  rw [List.filter_eq_nil_iff.2 (fun a ha => by simp; intro e; exact h (e ▸ ha))]
  rfl
theorem timesL_one : ∀ {l : List ByteArray} {s : ByteArray}, l.Nodup → s ∈ l → timesL l s = 1
  | [], s, _, h => by simp at h
  | a :: l, s, hn, h => by
    obtain ⟨h1, h2⟩ := List.nodup_cons.1 hn
    by_cases e : a = s
    · subst e
      have := timesL_none h1
      unfold timesL at this ⊢
      simp [this]
    · have hm : s ∈ l := by
        rcases List.mem_cons.1 h with h | h
        · exact absurd h.symm e
        · exact h
      have := timesL_one h2 hm
      unfold timesL at this ⊢
      simp [e, this]
theorem timesL_snoc (l : List ByteArray) (s x : ByteArray) : timesL (l ++ [x]) s = timesL l s + if x = s then 1 else 0 := by
  unfold timesL
  by_cases e : x = s <;> simp [e]

theorem law9_times (l : List ByteArray) (s : ByteArray) (v : Value) (n : Nat) (w : World) (hn : n = l.length) (h : Rd w 1 v n (l.flatMap encS)) (hl : n ≤ 1000000) :
    Calls Try.prog 32 #[v, .string s] w fun e w' => e = .returned (.int .i64 (timesL l s)) ∧ w = w' := by
  have H := Lib.hid h
  have HN := Lib.hid hn
  obtain ⟨_, a, c, rfl, h1, h2, _⟩ := h
  clear hn
  go_enter Try.func32, Try.ntmps32
  go_wp2_with fail
  go_loop [5, 6] (fun s5 s6 => ∃ (k t : Nat), k ≤ n ∧ t ≤ k ∧ s6 = .int .i64 k ∧ s5 = .int .i64 t ∧ t = timesL (l.take k) s) (fun _ s6 => n - (intOf s6).toNat)
  case atStart => exact ⟨0, 0, by omega, by omega, rfl, rfl, by simp [timesL]⟩
  case round =>
    obtain ⟨k, t, hk, htk, rfl, rfl, ht⟩ := hrel
    have HT := Lib.hid ht
    clear ht
    by_cases hlt : k < n
    · obtain ⟨x, hx⟩ : ∃ x, l[k]? = some x := ⟨_, List.getElem?_eq_getElem (by have := HN.out; omega)⟩
      obtain ⟨b, o, cc, hv, x0⟩ := str_cell HN.out H.out hx
      simp only [Value.slice.injEq] at hv
      obtain ⟨rfl, -, rfl⟩ := hv
      have hts := timesL_snoc (l.take k) s x
      have htk2 : l.take (k + 1) = l.take k ++ [x] := by rw [List.take_add_one, hx]; rfl
      rw [← htk2, ← HT.out] at hts
      have HTS := Lib.hid hts
      clear hx hts htk2
      by_cases he : x = s
      · have ht2 := HTS.out
        rw [if_pos he] at ht2
        have HT2 := Lib.hid ht2
        subst he
        clear ht2 HTS
        go_wp2_with fail
        go_round
        case rel => exact ⟨k + 1, t + 1, by omega, by omega, by go_num, by go_num, HT2.out.symm⟩
        case measure => simp [intOf]; omega
      · have ht2 := HTS.out
        rw [if_neg he] at ht2
        have HT2 := Lib.hid ht2
        have hb := str_ne_ he
        clear ht2 he HTS
        go_wp2_with fail
        go_round
        case rel => exact ⟨k + 1, t, by omega, by omega, by go_num, rfl, HT2.out.symm⟩
        case measure => simp [intOf]; omega
    · obtain rfl : k = n := by omega
      have hf : t = timesL l s := by rw [HT.out, HN.out, List.take_length]
      have HF := Lib.hid hf
      clear hf
      go_wp2_with fail
      go_ret
      exact ⟨by rw [HF.out]; rfl, rfl⟩

theorem law9_wipe (B : Nat) (xs : List Value) (v : Value) (n : Nat) (w : World) (h : Row w B 9 1 v n xs) (hl : n ≤ 1000000) :
    Calls Try.prog 26 #[v] w fun e w' => (∃ r, e = .returned r) ∧ Touch (fun k => v.ownBlock = some k) w w' := by
  have H := Lib.hid h
  obtain ⟨a, c, rfl, h1, h2⟩ := h.form
  clear h
  go_enter Try.func26, Try.ntmps26
  go_wp2_with fail
  go_loopw [2] (fun s2 wr => ∃ (k : Nat) (ys : List Value), k ≤ n ∧ s2 = .int .i64 k ∧ Row wr B 9 1 (.slice a n c) n ys ∧ Touch (fun k => (Value.slice a n c).ownBlock = some k) w wr) (fun s2 _ => n - (intOf s2).toNat)
  case atStart => exact ⟨0, xs, by omega, rfl, H.out, Touch.refl _ _⟩
  case round =>
    obtain ⟨k, ys, hk, rfl, hR, hT⟩ := hrel
    by_cases hlt : k < n
    · obtain ⟨g, c', hv, -, -⟩ := hR.addr (by omega)
      simp only [Value.slice.injEq] at hv
      obtain ⟨rfl, -, rfl⟩ := hv
      obtain ⟨hc, hf, -, -⟩ := hR.cells
      obtain ⟨u, hu⟩ : ∃ u, ys[k]? = some u := ⟨_, List.getElem?_eq_getElem (by have := hR.1; omega)⟩
      have x0 := hc k u hu
      have f0 := hf k
      have HRW := Lib.hid hR
      have HT := Lib.hid hT
      clear hR hT hc hf hu
      go_wp2_with fail
      go_roundw
      case rel => exact ⟨k + 1, _, by omega, by go_num, HRW.out.store k _, HT.out.setCell (p := ⟨g, k, none⟩) (.inl rfl) _⟩
      case measure => simp [intOf]; omega
    · have HT := Lib.hid hT
      clear hT hR
      go_wp2_with fail
      go_end0
      exact ⟨⟨_, rfl⟩, HT.out⟩

theorem above_not_self (D : List TD) (c : ByteArray) : c ∉ aboveL D c := by
  cases h : atO D c with
  | none => rw [aboveL_no h]; simp
  | some k => exact (ovr_good (f := D.length) (s := c) (good_root (by unfold there; rw [h]; rfl))).dis c (by simp)
theorem chain_head {D : List TD} {s : ByteArray} (h : there D s) : s ∈ chainL D s := by
  unfold there at h
  obtain ⟨k, hk⟩ := Option.isSome_iff_exists.1 h
  obtain ⟨t, ht, -, -⟩ := atO_some hk
  unfold chainL
  rw [chainR_step (f := D.length) hk ht (by simp)]
  exact chainR_pre.subset (by simp)
theorem sub_self (D : List TD) (s : ByteArray) : decide (subB D s s) = decide (there D s) := by
  by_cases h : there D s
  · rw [decide_eq_true h]
    exact subB_chain (chain_head h)
  · rw [decide_eq_false h]
    exact decide_eq_false (subB_no h)
theorem at_ge (D : List TD) (s : ByteArray) : decide ((0 : Int) ≤ atI D s) = decide (there D s) := by
  cases h : atO D s with
  | none => simp [atI, there, h]
  | some k => simp [atI, there, h]
theorem chain_pos (D : List TD) (s : ByteArray) : decide (0 < (chainL D s).length) = decide (there D s) := by
  by_cases h : there D s
  · rw [decide_eq_true h]
    exact decide_eq_true (List.length_pos_of_mem (chain_head h))
  · rw [decide_eq_false h, chainL_no h]
    rfl

set_option maxHeartbeats 8000000 in
theorem walk_KinLaws (l : List TypeV) (v : Value) (s : ByteArray) (w : World) (hr : Rd w 6 v l.length (l.flatMap encTypeV)) (hok : ∀ y ∈ l, TypeV.Ok w y) (hlen : l.length ≤ 140737488351232) (hs : s.size ≤ maxLen) :
    Calls Try.prog 6 #[v, .string s] w fun e w' => e = .returned (.bool true) ∧ Below w.heap.size w w' := by
  have HR := Lib.hid hr
  have HOK := Lib.hid hok
  clear hr hok
  go_enter Try.func6, Try.ntmps6
  go_wp2_with fail
  refine (alive9 _).mono ?_
  rintro e w1 ⟨rfl, k1⟩
  have K1 := Lib.hid k1
  clear k1
  go_wp2_with fail
  refine (law9_Big l v w1 (HR.out.kept K1.out) (fun y hy => Ok.keep_ (HOK.out y hy) K1.out) hlen).mono ?_
  rintro e w2 ⟨h2, m2, hw2⟩
  have K2 := Lib.hid (show Kept w w2 by rw [hw2]; exact kept_drewN K1.out m2)
  clear hw2
  rcases h2 with rfl | ⟨rfl, h60, -⟩
  · go_wp2_with fail
    go_ret
    exact ⟨rfl, K2.out⟩
  · have hT := tyR_of (HR.out.kept K2.out) (fun y hy => Ok.keep_ (HOK.out y hy) K2.out) h60
    obtain ⟨D, hD⟩ : ∃ D, D = l.map TypeV.d := ⟨_, rfl⟩
    rw [← hD] at hT
    have hDl := hT.len
    have HT := Lib.hid hT
    clear hT hD
    go_wp2_with fail
    refine (kin_At D s v w2 HT.out).mono ?_
    rintro e w3 ⟨rfl, rfl⟩
    obtain ⟨q, hq⟩ : ∃ q, q = decide (there D s) := ⟨_, rfl⟩
    have hge : decide ((0 : Int) ≤ atI D s) = q := by rw [hq]; exact at_ge D s
    have C4 := kin_Sub D s s v w2 HT.out hs
    rw [sub_self, ← hq] at C4
    have HQ := Lib.hid hq
    clear hq
    go_wp2_with fail
    refine C4.mono ?_
    rintro e w4 ⟨rfl, k4⟩
    have K4 := Lib.hid (Kept.trans K2.out k4)
    have T4 := Lib.hid (HT.out.kept k4)
    clear C4 k4 hge
    go_wp2_with fail
    refine (kin_Chain D s v w4 T4.out hs).mono ?_
    rintro e w5 ⟨vc, rfl, hc5, k5⟩
    have K5 := Lib.hid (Kept.trans K4.out k5)
    have T5 := Lib.hid (T4.out.kept k5)
    have hcr := hc5.has
    clear hc5 k5
    go_wp2_with fail
    refine (kin_All D s v w5 T5.out hs).mono ?_
    rintro e w6 ⟨va, rfl, ha6, k6⟩
    have K6 := Lib.hid (Kept.trans K5.out k6)
    have T6 := Lib.hid (T5.out.kept k6)
    have har := ha6.has
    have hcr6 := hcr.kept k6
    obtain ⟨N, hN⟩ : ∃ N, N = (chainL D s).length := ⟨_, rfl⟩
    obtain ⟨M, hM⟩ : ∃ M, M = (allL D s).length := ⟨_, rfl⟩
    have hND : N ≤ 100 := by rw [hN]; have := (chainL_nms D s).le; omega
    have hMD : M ≤ 100 := by rw [hM]; have := (allL_nms D s).le; omega
    rw [← hN] at hcr6
    rw [← hM] at har
    have HCR := Lib.hid hcr6
    have HAR := Lib.hid har
    have HN := Lib.hid hN
    have HM := Lib.hid hM
    obtain ⟨_, ac, cc, rfl, hcc, hcc2, _⟩ := hcr6
    obtain ⟨_, aa, ca, rfl, hca, hca2, _⟩ := har
    clear hcr ha6 k6 hN hM
    go_wp2_with fail
    go_loopw [10] (fun s10 wr => ∃ i : Nat, i ≤ N ∧ s10 = .int .i64 i ∧ Kept w6 wr) (fun s10 _ => N - (intOf s10).toNat)
    case atStart => exact ⟨0, by omega, rfl, Below.refl _ _⟩
    case round =>
      obtain ⟨i, hi, rfl, hK⟩ := hrel
      have HK := Lib.hid hK
      have TR := Lib.hid (T6.out.kept hK)
      have HCRr := Lib.hid (HCR.out.kept hK)
      have HARr := Lib.hid (HAR.out.kept hK)
      clear hK
      by_cases hlt : i < N
      · obtain ⟨x, hx⟩ : ∃ x, (chainL D s)[i]? = some x := ⟨_, List.getElem?_eq_getElem (by have := HN.out; omega)⟩
        obtain ⟨b, o, c2, hv, xs⟩ := str_cell HN.out HCRr.out hx
        simp only [Value.slice.injEq] at hv
        obtain ⟨rfl, -, rfl⟩ := hv
        have hxm := List.mem_of_getElem? hx
        have hxt := (chainL_nms D s).th x hxm
        have hxz := T6.out.size_of hxt
        have CS : ∀ W, Kept wr W → Calls Try.prog 23 #[v, .string s, .string x] W fun e W' => e = .returned (.bool true) ∧ Kept W W' := fun W hW => by
          have := kin_Sub D s x v W (TR.out.kept hW) hs
          rwa [subB_chain hxm] at this
        have CT : ∀ W, Kept wr W → Calls Try.prog 32 #[.slice (some ⟨b, o, none⟩) N cc, .string x] W fun e W' => e = .returned (.int .i64 1) ∧ W = W' := fun W hW => by
          have := law9_times (chainL D s) x _ N W HN.out (HCRr.out.kept hW) (by omega)
          rwa [timesL_one (chainL_nms D s).nd hxm] at this
        have CA : ∀ W, Kept wr W → Calls Try.prog 25 #[v, .string x] W fun e W' => ∃ v', e = .returned v' ∧ Rd W' 1 v' (aboveL D x).length ((aboveL D x).flatMap encS) ∧ Kept W W' := fun W hW => (kin_Above D x v W (TR.out.kept hW) hxz).mono fun _ _ ⟨v', h1, h2, h3⟩ => ⟨v', h1, h2.has, h3⟩
        have CZ : ∀ W v', Rd W 1 v' (aboveL D x).length ((aboveL D x).flatMap encS) → Calls Try.prog 32 #[v', .string x] W fun e W' => e = .returned (.int .i64 0) ∧ W = W' := fun W v' hW => by
          have := law9_times (aboveL D x) x v' _ W rfl hW (by have := (aboveL_nms D x).le; omega)
          rwa [timesL_none (above_not_self D x)] at this
        have HCS := Lib.hid CS
        have HCT := Lib.hid CT
        have HCA := Lib.hid CA
        have HCZ := Lib.hid CZ
        have HXM := Lib.hid hxm
        have hiI : (i : Int) < (N : Int) := by omega
        have h0I : (0 : Int) ≤ (i : Int) := by omega
        clear hx hxm hxt CS CT CA CZ
        go_wp2_with fail
        go_region_held2 (fun w' => w'.cell? ⟨b, o + i, none⟩ = some (.string x)) (go_keep)
          (first
          | (go_at_call 23; refine (HCS.out _ (Below.refl _ _).drew).mono ?_; rintro e wa ⟨rfl, ka⟩; have KA := Lib.hid (show Kept wr wa from Kept.trans (Below.refl _ _).drew ka); have xa := Kept.cell KA.out xs; clear ka)
          | (go_at_call_of 32 (Value.slice (some ⟨b, o, none⟩) N cc); refine (HCT.out _ KA.out).mono ?_; rintro e wz ⟨rfl, rfl⟩)
          | (go_at_call 25; refine (HCA.out _ KA.out).mono ?_; rintro e wb ⟨vb, rfl, hb1, kb⟩; have RB := Lib.hid hb1; have KB := Lib.hid (Kept.trans KA.out kb); have xb := Kept.cell KB.out xs; clear hb1 kb)
          | (go_at_call_of 32 vb; refine (HCZ.out _ _ RB.out).mono ?_; rintro e wz ⟨rfl, rfl⟩))
        go_wp2_with fail
        refine (HCA.out _ KB.out).mono ?_
        rintro e wc ⟨vx, rfl, hcx, kc⟩
        obtain ⟨P, hP⟩ : ∃ P, P = (aboveL D x).length := ⟨_, rfl⟩
        have hPD : P ≤ 100 := by rw [hP]; have := (aboveL_nms D x).le; omega
        rw [← hP] at hcx
        have KC := Lib.hid (Kept.trans KB.out kc)
        have HP := Lib.hid hP
        have HCX := Lib.hid hcx
        obtain ⟨_, ax, cx, rfl, hcx1, hcx2, _⟩ := hcx
        clear kc hP xs xb
        go_wp2_with fail
        obtain ⟨wo, rfl⟩ : ∃ wo : World, wo = wr := ⟨_, rfl⟩
        go_loop [12] (fun s12 => ∃ j : Nat, j ≤ P ∧ s12 = .int .i64 j) (fun s12 => P - (intOf s12).toNat)
        case atStart => exact ⟨0, by omega, rfl⟩
        case round =>
          obtain ⟨j, hj, rfl⟩ := hrel
          by_cases hlt2 : j < P
          · obtain ⟨y, hy⟩ : ∃ y, (aboveL D x)[j]? = some y := ⟨_, List.getElem?_eq_getElem (by have := HP.out; omega)⟩
            obtain ⟨b2, o2, c3, hv, ys⟩ := str_cell HP.out HCX.out hy
            simp only [Value.slice.injEq] at hv
            obtain ⟨rfl, -, rfl⟩ := hv
            have hym := List.mem_of_getElem? hy
            have c1 := law9_times (aboveL D x) y _ P wc HP.out HCX.out (by omega)
            rw [timesL_one (aboveL_nms D x).nd hym] at c1
            have c4 := law9_times (allL D s) y _ M wc HM.out (HARr.out.kept KC.out) (by omega)
            rw [timesL_one (allL_nms D s).nd (allL_mem.2 ⟨x, HXM.out, hym⟩)] at c4
            have C1 := Lib.hid c1
            have C4 := Lib.hid c4
            have hjI : (j : Int) < (P : Int) := by omega
            clear hy hym c1 c4
            go_wp2_with fail
            refine C1.out.mono ?_
            rintro e wd ⟨rfl, rfl⟩
            go_wp2_with fail
            refine C4.out.mono ?_
            rintro e wd ⟨rfl, rfl⟩
            go_wp2_with fail
            go_round
            case rel => exact ⟨j + 1, by omega, by go_num⟩
            case measure => simp [intOf]; omega
          · go_wp2_with fail
            go_roundw
            case rel => exact ⟨i + 1, by omega, by go_num, Kept.trans HK.out KC.out⟩
            case measure => simp [intOf]; omega
      · obtain rfl : i = N := by omega
        go_wp2_with fail
        obtain ⟨wo, rfl⟩ : ∃ wo : World, wo = wr := ⟨_, rfl⟩
        go_loopw [13] (fun s13 wy => ∃ j : Nat, j ≤ M ∧ s13 = .int .i64 j ∧ Kept wo wy) (fun s13 _ => M - (intOf s13).toNat)
        case atStart => exact ⟨0, by omega, rfl, Below.refl _ _⟩
        case round =>
          obtain ⟨j, hj, rfl, hK2⟩ := hrel
          have HK2 := Lib.hid hK2
          clear hK2
          by_cases hlt2 : j < M
          · obtain ⟨y, hy⟩ : ∃ y, (allL D s)[j]? = some y := ⟨_, List.getElem?_eq_getElem (by have := HM.out; omega)⟩
            obtain ⟨b2, o2, c3, hv, ys⟩ := str_cell HM.out (HARr.out.kept HK2.out) hy
            simp only [Value.slice.injEq] at hv
            obtain ⟨rfl, -, rfl⟩ := hv
            have hym := List.mem_of_getElem? hy
            have hyt := (allL_nms D s).th y hym
            have cs := kin_Sub D s y v wr (TR.out.kept HK2.out) hs
            rw [show decide (subB D s y) = true from decide_eq_true (.inr hym)] at cs
            have CS := Lib.hid cs
            have hyp : ∃ k : Nat, atO D y = some k := Option.isSome_iff_exists.1 hyt
            obtain ⟨ky, hky⟩ := hyp
            have hai := atI_some hky
            have HAI := Lib.hid hai
            clear hy hym hyt cs hky hai
            go_wp2_with fail
            refine CS.out.mono ?_
            rintro e wd ⟨rfl, kd⟩
            have KD := Lib.hid (Kept.trans HK2.out kd)
            have c6 := kin_At D y v wd (TR.out.kept KD.out)
            rw [HAI.out] at c6
            have C6 := Lib.hid c6
            have yd := Kept.cell kd ys
            clear kd c6 CS
            go_wp2_with fail
            refine C6.out.mono ?_
            rintro e we ⟨rfl, rfl⟩
            go_wp2_with fail
            go_roundw
            case rel => exact ⟨j + 1, by omega, by go_num, KD.out⟩
            case measure => simp [intOf]; omega
          · obtain rfl : j = M := by omega
            have hq2 : decide (0 < i) = q := by rw [HN.out, HQ.out]; exact chain_pos D s
            go_wp2_with fail
            go_ret
            exact ⟨rfl, Kept.trans K6.out (Kept.trans HK.out HK2.out)⟩
end Go.Proofs.Ytjljfadfepidjaa
