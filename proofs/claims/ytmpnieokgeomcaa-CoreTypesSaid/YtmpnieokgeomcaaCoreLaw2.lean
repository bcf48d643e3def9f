/-
  Chapter 7's law CoreTypes, walked.
-/
import Derived.Test.YtmpnieokgeomcaaCoreS
import Derived.Test.YtmpnieokgeomcaaCoreLaw
namespace Go.Proofs.Ytmpnieokgeomcaa
open Go.RowKit
set_option maxRecDepth 100000

/-- A list of types that is written over, but for its K-th. -/
structure Over (B : Nat) (w : World) (g c K : Nat) (its : List (TyC × Value)) : Prop where
  own : ∃ xs, w.ownsRow B 29 6 (.slice (some ⟨g, 0, none⟩) 26 c) 26 xs ∧ (∀ (i : Nat) (x : TyC × Value), its[i]? = some x → xs[i * 6 + 5]? = some x.2) ∧ ∀ f, f < 6 → xs[K * 6 + f]? = (its.flatMap encT)[K * 6 + f]?
  mem : ∀ (i : Nat) (x : TyC × Value), its[i]? = some x → ∃ ys, w.ownsRow B 31 5 x.2 x.1.ms.length ys ∧ (i = K → ys = x.1.ms.flatMap encM)

theorem Over.start {B : Nat} {w : World} {g c K : Nat} {its : List (TyC × Value)} (h : IsTypes B w (.slice (some ⟨g, 0, none⟩) 26 c) its) (hl : its.length = 26) : Over B w g c K its := by
  refine ⟨⟨_, by rw [← hl]; have := h.own; rw [hl] at this ⊢; exact this, fun i x hx => ?_, fun _ _ => rfl⟩, fun i x hx => ⟨_, h.mem x (List.mem_of_getElem? hx), fun _ => rfl⟩⟩
  exact flat_get encT 6 (fun _ => rfl) its i 5 x hx (by omega)
theorem Over.kept {B : Nat} {w w' : World} {g c K : Nat} {its : List (TyC × Value)} (h : Over B w g c K its) (hk : Kept w w') : Over B w' g c K its := by
  obtain ⟨⟨xs, h1, h2⟩, h3⟩ := h
  refine ⟨⟨xs, Touch.own (S := fun _ => False) (Touch.of_kept hk) h1 fun _ _ => id, h2⟩, fun i x hx => ?_⟩
  obtain ⟨ys, h4, h5⟩ := h3 i x hx
  exact ⟨ys, Touch.own (S := fun _ => False) (Touch.of_kept hk) h4 fun _ _ => id, h5⟩
/-- A store of a name. -/
theorem Over.name {B : Nat} {w : World} {g c K i : Nat} {its : List (TyC × Value)} (h : Over B w g c K its) (hi : i ≠ K) (u : Value) : Over B (w.setCell ⟨g, i * 6, none⟩ u) g c K its := by
  obtain ⟨⟨xs, h1, h2, h2'⟩, h3⟩ := h
  refine ⟨⟨xs.set (i * 6) u, own_store h1 _ u, fun j x hx => ?_, fun f hf => ?_⟩, fun j x hx => ?_⟩
  · rw [List.getElem?_set_ne (by omega)]
    exact h2 j x hx
  · rw [List.getElem?_set_ne (by omega)]
    exact h2' f hf
  · obtain ⟨ys, h4, h5⟩ := h3 j x hx
    exact ⟨ys, Touch.own (S := fun b => b = g) ((Touch.refl (fun b => b = g) w).setCell (p := ⟨g, i * 6, none⟩) (.inl rfl) u) h4 (fun q hq e => TyAt.ne (own_ty h4 q hq) (own_ty h1 g rfl) (by decide) e), h5⟩
/-- A store into a member. -/
theorem Over.cell {B : Nat} {w : World} {g c K i m b q : Nat} {its : List (TyC × Value)} {x : TyC × Value} {cc : Nat} (h : Over B w g c K its) (hF : its.Pairwise FarM) (hi : i ≠ K) (hx : its[i]? = some x) (hb : x.2 = .slice (some ⟨b, 0, none⟩) m cc) (hm : m = x.1.ms.length) (u : Value) : Over B (w.setCell ⟨b, q, none⟩ u) g c K its := by
  obtain ⟨⟨xs, h1, h2, h2'⟩, h3⟩ := h
  obtain ⟨zs, z1, z2⟩ := h3 i x hx
  have tb := own_ty z1 b (by rw [hb]; rfl)
  have ht : Touch (fun k => k = b) w (w.setCell ⟨b, q, none⟩ u) := (Touch.refl (fun k => k = b) w).setCell (p := ⟨b, q, none⟩) (.inl rfl) u
  refine ⟨⟨xs, ht.own h1 (fun k hk e => TyAt.ne (own_ty h1 k hk) tb (by decide) e), h2, h2'⟩, fun j y hy => ?_⟩
  by_cases hj : j = i
  · subst hj
    obtain rfl : y = x := by rw [hx] at hy; exact (Option.some.inj hy).symm
    rw [hb, ← hm] at z1
    refine ⟨zs.set q u, ?_, fun e => absurd e hi⟩
    rw [hb, ← hm]
    exact own_store z1 q u
  · obtain ⟨ys, h4, h5⟩ := h3 j y hy
    refine ⟨ys, ht.own h4 (fun k hk e => ?_), h5⟩
    subst e
    obtain ⟨l1, e1⟩ := List.getElem?_eq_some_iff.1 hx
    obtain ⟨l2, e2⟩ := List.getElem?_eq_some_iff.1 hy
    rcases Nat.lt_or_ge j i with hlt | hge
    · have := List.pairwise_iff_getElem.1 hF j i l2 l1 hlt
      rw [e1, e2] at this
      exact this k hk (by rw [hb]; rfl)
    · have := List.pairwise_iff_getElem.1 hF i j l1 l2 (by omega)
      rw [e1, e2] at this
      exact this k (by rw [hb]; rfl) hk

theorem its_ty {its : List (TyC × Value)} (h : its.map (·.1) = types26) {k : Nat} (hk : k < 26) : ∃ t mv, types26[k]? = some t ∧ its[k]? = some (t, mv) := by
  obtain ⟨x, hx⟩ : ∃ x, its[k]? = some x := ⟨_, List.getElem?_eq_getElem (by rw [its_len h]; exact hk)⟩
  exact ⟨x.1, x.2, by rw [← h, List.getElem?_map, hx]; rfl, hx⟩
theorem types26_ms : ∀ t ∈ types26, t.ms.length ≤ 10 := by
  intro t ht
  unfold types26 at ht
  rcases List.mem_append.1 ht with ht | ht
  · obtain ⟨k, _, rfl⟩ := List.mem_map.1 ht
    simp [tyR]
  · simp at ht
    rcases ht with rfl | rfl
    · simp [taskT]
    · simp [sysT]
theorem Over.mlen {its : List (TyC × Value)} (h : its.map (·.1) = types26) {i : Nat} {x : TyC × Value} (hx : its[i]? = some x) : x.1.ms.length ≤ 10 := types26_ms _ (by rw [← h]; exact List.mem_map.2 ⟨x, List.mem_of_getElem? hx, rfl⟩)

theorem Over.at_ {B : Nat} {w : World} {g c K : Nat} {its : List (TyC × Value)} {t : TyC} {mv : Value} (h : Over B w g c K its) (hx : its[K]? = some (t, mv)) :
    (w.cell? ⟨g, K * 6, none⟩ = some (.string t.name) ∧ w.cell? ⟨g, K * 6 + 1, none⟩ = some (.string t.super) ∧ w.cell? ⟨g, K * 6 + 2, none⟩ = some (.int .i64 t.acc) ∧ w.cell? ⟨g, K * 6 + 3, none⟩ = some (.slice none 0 0) ∧ w.cell? ⟨g, K * 6 + 4, none⟩ = some (.slice none 0 0) ∧ w.cell? ⟨g, K * 6 + 5, none⟩ = some mv) ∧ w.ownsRow B 31 5 mv t.ms.length (t.ms.flatMap encM) := by
  obtain ⟨⟨xs, h1, h2, h2'⟩, h3⟩ := h
  obtain ⟨ys, h4, h5⟩ := h3 K _ hx
  have h6 := h5 rfl
  subst h6
  obtain ⟨_, _, hv, _, _, _, _, hcell, _⟩ := own_form h1 (by omega)
  simp only [Value.slice.injEq, Option.some.injEq, Addr.mk.injEq] at hv
  obtain ⟨⟨rfl, -, -⟩, -, rfl⟩ := hv
  have hg : ∀ f u, (encT (t, mv))[f]? = some u → f < 6 → w.cell? ⟨g, K * 6 + f, none⟩ = some u := fun f u hu hf => hcell _ _ (by rw [h2' f hf, flat_get encT 6 (fun _ => rfl) its K f _ hx hf]; exact hu)
  exact ⟨⟨hg 0 _ rfl (by omega), hg 1 _ rfl (by omega), hg 2 _ rfl (by omega), hg 3 _ rfl (by omega), hg 4 _ rfl (by omega), hg 5 _ rfl (by omega)⟩, h4⟩
theorem IsTypes.at_ {B n : Nat} {w : World} {g c K : Nat} {its : List (TyC × Value)} {t : TyC} {mv : Value} (h : IsTypes B w (.slice (some ⟨g, 0, none⟩) n c) its) (hx : its[K]? = some (t, mv)) :
    (w.cell? ⟨g, K * 6, none⟩ = some (.string t.name) ∧ w.cell? ⟨g, K * 6 + 1, none⟩ = some (.string t.super) ∧ w.cell? ⟨g, K * 6 + 2, none⟩ = some (.int .i64 t.acc) ∧ w.cell? ⟨g, K * 6 + 3, none⟩ = some (.slice none 0 0) ∧ w.cell? ⟨g, K * 6 + 4, none⟩ = some (.slice none 0 0) ∧ w.cell? ⟨g, K * 6 + 5, none⟩ = some mv) ∧ w.ownsRow B 31 5 mv t.ms.length (t.ms.flatMap encM) := by
  obtain ⟨h1, h3⟩ := h
  have h4 := h3 _ (List.mem_of_getElem? hx)
  have hlt := (List.getElem?_eq_some_iff.1 hx).1
  obtain ⟨_, _, hv, _, _, _, _, hcell, _⟩ := own_form h1 (by omega)
  simp only [Value.slice.injEq, Option.some.injEq, Addr.mk.injEq] at hv
  obtain ⟨⟨rfl, -, -⟩, -, rfl⟩ := hv
  have hg : ∀ f u, (encT (t, mv))[f]? = some u → f < 6 → w.cell? ⟨g, K * 6 + f, none⟩ = some u := fun f u hu hf => hcell _ _ (by rw [flat_get encT 6 (fun _ => rfl) its K f _ hx hf]; exact hu)
  exact ⟨⟨hg 0 _ rfl (by omega), hg 1 _ rfl (by omega), hg 2 _ rfl (by omega), hg 3 _ rfl (by omega), hg 4 _ rfl (by omega), hg 5 _ rfl (by omega)⟩, h4⟩
theorem IsTypes.touch {B : Nat} {w w' : World} {S : Nat → Prop} {v : Value} {its : List (TyC × Value)} (h : IsTypes B w v its) (ht : Touch S w w') (hS : ∀ b, S b → b < B) : IsTypes B w' v its :=
  ⟨ht.own h.own fun k hk hs => by have := (h.own.lt k hk).1; have := hS k hs; omega, fun x hx => ht.own (h.mem x hx) fun k hk hs => by have := ((h.mem x hx).lt k hk).1; have := hS k hs; omega⟩

set_option maxHeartbeats 4000000 in
theorem walk_CoreTypes (n : Int) (w : World) (_ : (Lit.int .i64 n).wf = true) :
    Calls Try.prog 4 #[.int .i64 n] w fun e w' => e = .returned (.bool true) ∧ Below w.heap.size w w' := by
  by_cases hn : n < 0
  · go_enter Try.func4, Try.ntmps4
    go_wp2_with fail
    refine (alive7 _).mono ?_
    rintro e w1 ⟨rfl, k1⟩
    have K1 := Lib.hid k1
    clear k1
    go_wp2
    go_ret
    exact ⟨rfl, K1.out⟩
  · obtain ⟨K, hK⟩ : ∃ K : Nat, n.tmod 26 = (K : Int) := ⟨(n.tmod 26).toNat, by have := Int.tmod_nonneg 26 (by omega : 0 ≤ n); omega⟩
    have hK26 : K < 26 := by have := Int.tmod_lt_of_pos n (by decide : (0 : Int) < 26); omega
    have hKe : n % 26 = (K : Int) := by rw [← hK, Int.tmod_eq_emod_of_nonneg (by omega)]
    have hn0 : 0 ≤ n := by omega
    go_enter Try.func4, Try.ntmps4
    go_wp2_with fail
    refine (alive7 _).mono ?_
    rintro e w1 ⟨rfl, k1⟩
    have K1 := Lib.hid k1
    clear k1
    go_wp2_with fail
    refine (core_Types w1).mono ?_
    rintro e w2 ⟨v, its, rfl, hT, hm, k2, hF⟩
    have hl := its_len hm
    have ho := hT.own
    rw [hl] at ho
    obtain ⟨g, c, rfl, hc1, hc2, -, -, -, -⟩ := own_form ho (by omega)
    have OV := Lib.hid (Over.start (K := K) hT hl)
    have HM := Lib.hid hm
    have HF := Lib.hid hF
    have K2 := Lib.hid (Kept.trans K1.out k2)
    have hz2 := k2.size
    clear hT hm hF k2 hl ho
    go_wp2_with fail
    refine (ref7_Types w2).mono ?_
    rintro e w3 ⟨v2, its2, rfl, hT2, hm2, k3⟩
    have hl2 := its_len hm2
    have ho2 := hT2.own
    rw [hl2] at ho2
    obtain ⟨g2, c2, rfl, hd1, hd2, -, -, -, -⟩ := own_form ho2 (by omega)
    have OV3 := Lib.hid (OV.out.kept k3)
    have T2 := Lib.hid hT2
    have HM2 := Lib.hid hm2
    have K3 := Lib.hid (Kept.trans K2.out k3)
    have hz3 := k3.size
    have hz1 := K1.out.size
    clear hT2 hm2 k3 hl2 ho2
    go_wp2_with fail
    go_loopw [7] (fun s7 wr => ∃ i : Nat, i ≤ 26 ∧ s7 = .int .i64 i ∧ Over w1.heap.size wr g c K its ∧ Touch (fun b => w1.heap.size ≤ b ∧ b < w2.heap.size) w3 wr) (fun s7 _ => 26 - (intOf s7).toNat)
    case atStart => exact ⟨0, by omega, rfl, OV3.out, Touch.refl _ _⟩
    case round =>
      obtain ⟨i, hi, rfl, hO, hT⟩ := hrel
      have HO := Lib.hid hO
      have HT := Lib.hid hT
      clear hO hT
      by_cases hlt : i < 26
      · by_cases hiK : i = K
        · subst hiK
          go_wp2_with fail
          exact ⟨⟨i + 1, by omega, by go_num, HO.out, HT.out⟩, by simp [intOf]; omega⟩
        · obtain ⟨t, mv, ht, hx⟩ := its_ty HM.out hlt
          have hml := Over.mlen HM.out hx
          dsimp only at hml
          obtain ⟨xs, hxs, hx5, -⟩ := HO.out.own
          obtain ⟨_, _, hv, _, _, _, _, hcell, hfz⟩ := own_form hxs (by omega)
          simp only [Value.slice.injEq, Option.some.injEq, Addr.mk.injEq] at hv
          obtain ⟨⟨rfl, -, -⟩, -, rfl⟩ := hv
          have hq5 := hx5 i _ hx
          have c0 : ∃ u, wr.cell? ⟨g, i * 6, none⟩ = some u := by
            obtain ⟨u, hu⟩ : ∃ u, xs[i * 6]? = some u := ⟨_, List.getElem?_eq_getElem (by have := hxs.1; omega)⟩
            exact ⟨u, hcell _ _ hu⟩
          obtain ⟨u0, c0⟩ := c0
          have f0 := hfz (i * 6)
          have hgb : w1.heap.size ≤ g ∧ g < w2.heap.size := by
            obtain ⟨ys, h1, -⟩ := OV.out.own
            have := h1.lt g rfl
            exact this
          have HX := Lib.hid hx
          have HGB := Lib.hid hgb
          have O2 := Lib.hid (HO.out.name hiK (.string ⟨#[63]⟩))
          have T3 := Lib.hid (HT.out.setCell (p := ⟨g, i * 6, none⟩) (.inl hgb) (.string ⟨#[63]⟩))
          have HIK := Lib.hid hiK
          have hne1 : ¬ (i : Int) = (K : Int) := by omega
          clear hxs hx5 hcell hfz hq5 ht hx hgb hiK
          go_wp2_with fail
          generalize wr.setCell ⟨g, i * 6, none⟩ (.string ⟨#[63]⟩) = wq at *
          go_loopw [8] (fun s8 wy => ∃ j : Nat, j ≤ t.ms.length ∧ s8 = .int .i64 j ∧ Over w1.heap.size wy g c K its ∧ Touch (fun b => w1.heap.size ≤ b ∧ b < w2.heap.size) w3 wy) (fun s8 _ => t.ms.length - (intOf s8).toNat)
          case atStart => exact ⟨0, by omega, rfl, O2.out, T3.out⟩
          case round =>
            obtain ⟨j, hj, rfl, hO, hT⟩ := hrel
            have HOj := Lib.hid hO
            have HTj := Lib.hid hT
            obtain ⟨xs, hxs, hx5, -⟩ := hO.own
            obtain ⟨_, _, hv, _, _, _, _, hcell, _⟩ := own_form hxs (by omega)
            simp only [Value.slice.injEq, Option.some.injEq, Addr.mk.injEq] at hv
            obtain ⟨⟨rfl, -, -⟩, -, rfl⟩ := hv
            have z5 := hcell _ _ (hx5 i _ HX.out)
            dsimp only at z5
            obtain ⟨ys, hys, -⟩ := hO.mem i _ HX.out
            dsimp only at hys
            obtain ⟨am, cm, hmv, hcm, hcm2⟩ := own_slice hys
            rw [hmv] at z5
            have HMV := Lib.hid hmv
            have HYS := Lib.hid hys
            clear hO hT hxs hx5 hcell hys hmv
            by_cases hjm : j < t.ms.length
            · obtain ⟨b, cb, hb, _, _, _, _, hbc, hbf⟩ := own_form HYS.out (by omega)
              rw [HMV.out] at hb
              simp only [Value.slice.injEq] at hb
              obtain ⟨rfl, -, rfl⟩ := hb
              have hyl := HYS.out.1
              have cx : ∀ q, q < 5 → ∃ u, wr.cell? ⟨b, j * 5 + q, none⟩ = some u := by
                intro q hq
                obtain ⟨u, hu⟩ : ∃ u, ys[j * 5 + q]? = some u := ⟨_, List.getElem?_eq_getElem (by omega)⟩
                exact ⟨u, hbc _ _ hu⟩
              obtain ⟨u0, d0⟩ := cx 0 (by omega)
              rw [Nat.add_zero] at d0
              obtain ⟨u1, d1⟩ := cx 1 (by omega)
              obtain ⟨u2, d2⟩ := cx 2 (by omega)
              obtain ⟨u3, d3⟩ := cx 3 (by omega)
              obtain ⟨u4, d4⟩ := cx 4 (by omega)
              have e0 := hbf (j * 5)
              have e1 := hbf (j * 5 + 1)
              have e2 := hbf (j * 5 + 2)
              have e3 := hbf (j * 5 + 3)
              have e4 := hbf (j * 5 + 4)
              have hbb : w1.heap.size ≤ b ∧ b < w2.heap.size := by
                obtain ⟨ys', h1, -⟩ := OV.out.mem i _ HX.out
                exact h1.lt b (by dsimp only; rw [HMV.out]; rfl)
              have HBB := Lib.hid hbb
              clear cx hbc hbf hyl hbb
              go_wp2_with fail
              go_roundw
              case rel =>
                refine ⟨j + 1, by omega, by go_num, ?_, ?_⟩
                · have hh : ∀ {wx : World} (q : Nat) (u : Value), Over w1.heap.size wx g c K its → Over w1.heap.size (wx.setCell ⟨b, q, none⟩ u) g c K its := fun q u ho => ho.cell (x := (t, mv)) (m := t.ms.length) (cc := cm) HF.out HIK.out HX.out HMV.out rfl u
                  exact hh _ _ (hh _ _ (hh _ _ (hh _ _ (hh _ _ HOj.out))))
                · exact ((((HTj.out.setCell (p := ⟨b, j * 5, none⟩) (.inl HBB.out) _).setCell (p := ⟨b, j * 5 + 1, none⟩) (.inl HBB.out) _).setCell (p := ⟨b, j * 5 + 2, none⟩) (.inl HBB.out) _).setCell (p := ⟨b, j * 5 + 3, none⟩) (.inl HBB.out) _).setCell (p := ⟨b, j * 5 + 4, none⟩) (.inl HBB.out) _
              case measure => simp [intOf]; omega
            · go_wp2_with fail
              go_roundw
              case rel => exact ⟨i + 1, by omega, by go_num, HOj.out, HTj.out⟩
              case measure => simp [intOf]; omega
      · obtain rfl : i = 26 := by omega
        have KR := Lib.hid (show Kept w wr from Below.trans K3.out (HT.out.below (fun b hb => by omega) K3.out.size))
        go_wp2_with fail
        refine (core_Types wr).mono ?_
        rintro e w5 ⟨v3, its3, rfl, hT3, hm3, k5, -⟩
        have hl3 := its_len hm3
        have ho3 := hT3.own
        rw [hl3] at ho3
        obtain ⟨g3, c3, rfl, he1, he2, -, -, -, -⟩ := own_form ho3 (by omega)
        obtain ⟨L, hL⟩ : ∃ L : Nat, ((K : Int) + 1).tmod 26 = (L : Int) := ⟨(((K : Int) + 1).tmod 26).toNat, by have := Int.tmod_nonneg 26 (by omega : 0 ≤ (K : Int) + 1); omega⟩
        have hL26 : L < 26 := by have := Int.tmod_lt_of_pos ((K : Int) + 1) (by decide : (0 : Int) < 26); omega
        have hLe : ((K : Int) + 1) % 26 = (L : Int) := by rw [← hL, Int.tmod_eq_emod_of_nonneg (by omega)]
        have hW1 : IntKind.i64.wrap ((K : Int) + 1) = (K : Int) + 1 := IntWalk.i64_in _ (by omega)
        obtain ⟨t0, m0, ht0, hx0⟩ := its_ty HM.out hK26
        obtain ⟨t0', m2, ht0', hx2⟩ := its_ty HM2.out hK26
        obtain rfl : t0 = t0' := by rw [ht0] at ht0'; exact Option.some.inj ht0'
        obtain ⟨t1, m3, ht1, hx3⟩ := its_ty hm3 hL26
        obtain ⟨t1', m4, ht1', hx4⟩ := its_ty HM2.out hL26
        obtain rfl : t1 = t1' := by rw [ht1] at ht1'; exact Option.some.inj ht1'
        have hl0 := Over.mlen HM.out hx0
        have hl1 := Over.mlen hm3 hx3
        dsimp only at hl0 hl1
        have i1 : (K : Int) < 26 := by omega
        have i2 : 0 ≤ (K : Int) := by omega
        have i3 : (L : Int) < 26 := by omega
        have i4 : 0 ≤ (L : Int) := by omega
        have hTw := T2.out.touch HT.out fun b hb => by omega
        have CC := Lib.hid (show ∀ W, Kept w5 W → (fun w9 => (w9.cell? ⟨g, K * 6, none⟩ = some (.string t0.name) ∧ w9.cell? ⟨g, K * 6 + 1, none⟩ = some (.string t0.super) ∧ w9.cell? ⟨g, K * 6 + 2, none⟩ = some (.int .i64 t0.acc) ∧ w9.cell? ⟨g, K * 6 + 3, none⟩ = some (.slice none 0 0) ∧ w9.cell? ⟨g, K * 6 + 4, none⟩ = some (.slice none 0 0) ∧ w9.cell? ⟨g, K * 6 + 5, none⟩ = some m0) ∧ (w9.cell? ⟨g2, K * 6, none⟩ = some (.string t0.name) ∧ w9.cell? ⟨g2, K * 6 + 1, none⟩ = some (.string t0.super) ∧ w9.cell? ⟨g2, K * 6 + 2, none⟩ = some (.int .i64 t0.acc) ∧ w9.cell? ⟨g2, K * 6 + 3, none⟩ = some (.slice none 0 0) ∧ w9.cell? ⟨g2, K * 6 + 4, none⟩ = some (.slice none 0 0) ∧ w9.cell? ⟨g2, K * 6 + 5, none⟩ = some m2) ∧ (w9.cell? ⟨g3, L * 6, none⟩ = some (.string t1.name) ∧ w9.cell? ⟨g3, L * 6 + 1, none⟩ = some (.string t1.super) ∧ w9.cell? ⟨g3, L * 6 + 2, none⟩ = some (.int .i64 t1.acc) ∧ w9.cell? ⟨g3, L * 6 + 3, none⟩ = some (.slice none 0 0) ∧ w9.cell? ⟨g3, L * 6 + 4, none⟩ = some (.slice none 0 0) ∧ w9.cell? ⟨g3, L * 6 + 5, none⟩ = some m3) ∧ (w9.cell? ⟨g2, L * 6, none⟩ = some (.string t1.name) ∧ w9.cell? ⟨g2, L * 6 + 1, none⟩ = some (.string t1.super) ∧ w9.cell? ⟨g2, L * 6 + 2, none⟩ = some (.int .i64 t1.acc) ∧ w9.cell? ⟨g2, L * 6 + 3, none⟩ = some (.slice none 0 0) ∧ w9.cell? ⟨g2, L * 6 + 4, none⟩ = some (.slice none 0 0) ∧ w9.cell? ⟨g2, L * 6 + 5, none⟩ = some m4)) W from fun W hW => ⟨((HO.out.kept k5).kept hW |>.at_ hx0).1, ((hTw.kept k5).kept hW |>.at_ hx2).1, (hT3.kept hW |>.at_ hx3).1, ((hTw.kept k5).kept hW |>.at_ hx4).1⟩)
        have C1 := Lib.hid (show ∀ W, Kept w5 W → Calls Try.prog 12 #[.agg #[.string t0.name, .string t0.super, .int .i64 t0.acc, .slice none 0 0, .slice none 0 0, m0], .agg #[.string t0.name, .string t0.super, .int .i64 t0.acc, .slice none 0 0, .slice none 0 0, m2]] W fun e w' => e = .returned (.bool true) ∧ Kept W w' from fun W hW => same_type W t0 m0 m2 (Rd.of_own ((HO.out.kept k5).kept hW |>.at_ hx0).2) (Rd.of_own ((hTw.kept k5).kept hW |>.at_ hx2).2) hl0)
        have C2 := Lib.hid (show ∀ W, Kept w5 W → Calls Try.prog 12 #[.agg #[.string t1.name, .string t1.super, .int .i64 t1.acc, .slice none 0 0, .slice none 0 0, m3], .agg #[.string t1.name, .string t1.super, .int .i64 t1.acc, .slice none 0 0, .slice none 0 0, m4]] W fun e w' => e = .returned (.bool true) ∧ Kept W w' from fun W hW => same_type W t1 m3 m4 (Rd.of_own (hT3.kept hW |>.at_ hx3).2) (Rd.of_own ((hTw.kept k5).kept hW |>.at_ hx4).2) hl1)
        have K5 := Lib.hid (Kept.trans KR.out k5)
        clear hT3 hm3 k5 hl3 ho3 hx0 hx2 hx3 hx4 ht0 ht0' ht1 ht1' hTw
        go_wp2_with fail
        refine wp_region_held_drew (S := (fun w9 => (w9.cell? ⟨g, K * 6, none⟩ = some (.string t0.name) ∧ w9.cell? ⟨g, K * 6 + 1, none⟩ = some (.string t0.super) ∧ w9.cell? ⟨g, K * 6 + 2, none⟩ = some (.int .i64 t0.acc) ∧ w9.cell? ⟨g, K * 6 + 3, none⟩ = some (.slice none 0 0) ∧ w9.cell? ⟨g, K * 6 + 4, none⟩ = some (.slice none 0 0) ∧ w9.cell? ⟨g, K * 6 + 5, none⟩ = some m0) ∧ (w9.cell? ⟨g2, K * 6, none⟩ = some (.string t0.name) ∧ w9.cell? ⟨g2, K * 6 + 1, none⟩ = some (.string t0.super) ∧ w9.cell? ⟨g2, K * 6 + 2, none⟩ = some (.int .i64 t0.acc) ∧ w9.cell? ⟨g2, K * 6 + 3, none⟩ = some (.slice none 0 0) ∧ w9.cell? ⟨g2, K * 6 + 4, none⟩ = some (.slice none 0 0) ∧ w9.cell? ⟨g2, K * 6 + 5, none⟩ = some m2) ∧ (w9.cell? ⟨g3, L * 6, none⟩ = some (.string t1.name) ∧ w9.cell? ⟨g3, L * 6 + 1, none⟩ = some (.string t1.super) ∧ w9.cell? ⟨g3, L * 6 + 2, none⟩ = some (.int .i64 t1.acc) ∧ w9.cell? ⟨g3, L * 6 + 3, none⟩ = some (.slice none 0 0) ∧ w9.cell? ⟨g3, L * 6 + 4, none⟩ = some (.slice none 0 0) ∧ w9.cell? ⟨g3, L * 6 + 5, none⟩ = some m3) ∧ (w9.cell? ⟨g2, L * 6, none⟩ = some (.string t1.name) ∧ w9.cell? ⟨g2, L * 6 + 1, none⟩ = some (.string t1.super) ∧ w9.cell? ⟨g2, L * 6 + 2, none⟩ = some (.int .i64 t1.acc) ∧ w9.cell? ⟨g2, L * 6 + 3, none⟩ = some (.slice none 0 0) ∧ w9.cell? ⟨g2, L * 6 + 4, none⟩ = some (.slice none 0 0) ∧ w9.cell? ⟨g2, L * 6 + 5, none⟩ = some m4))) (by kernel_rfl) (CC.out _ (Below.refl _ _).drew) (fun hHeld => ?_)
        refine wpAnyH_take (i := 0) (oi := { dst := some 64, op := Op.move (Operand.tmp 4), type := 24, pos := "law.go:35", after := #[], guard := none }) (v := ?va0) rfl (by kernel_rfl) (by kernel_rfl) (by kernel_rfl) (fun _ _ _ h => h) (Or.inl ⟨by rfl, ?ya0⟩) (by assumption) ?ra0
        case ya0 => (intro w hSw; (try dsimp only at hSw); go_simp <;> with_reducible rfl)
        (try simp only [Act.put, List.setIfInBounds_toArray, List.set_cons_zero, List.set_cons_succ])
        refine wpAnyH_take (i := 1) (oi := { dst := some 65, op := Op.move (Operand.tmp 6), type := 3, pos := "law.go:35", after := #[], guard := none }) (v := ?va1) rfl (by kernel_rfl) (by kernel_rfl) (by kernel_rfl) (fun _ _ _ h => h) (Or.inl ⟨by rfl, ?ya1⟩) (by assumption) ?ra1
        case ya1 => (intro w hSw; (try dsimp only at hSw); go_simp <;> with_reducible rfl)
        (try simp only [Act.put, List.setIfInBounds_toArray, List.set_cons_zero, List.set_cons_succ])
        refine wpAnyH_take (i := 2) (oi := { dst := some 66, op := Op.indexAddr 24 (Operand.tmp 64) (Operand.tmp 65), type := 0, pos := "law.go:35", after := #[{ on := 0, ground := Ground.data }, { on := 1, ground := Ground.data }], guard := none }) (v := ?va2) rfl (by kernel_rfl) (by kernel_rfl) (by kernel_rfl) (fun _ _ _ h => h) (Or.inl ⟨by rfl, ?ya2⟩) (by assumption) ?ra2
        case ya2 => (intro w hSw; (try dsimp only at hSw); go_simp <;> with_reducible rfl)
        (try simp only [Act.put, List.setIfInBounds_toArray, List.set_cons_zero, List.set_cons_succ])
        refine wpAnyH_take (i := 3) (oi := { dst := some 67, op := Op.load 29 (Operand.tmp 66), type := 29, pos := "law.go:35", after := #[{ on := 2, ground := Ground.data }], guard := none }) (v := ?va3) rfl (by kernel_rfl) (by kernel_rfl) (by kernel_rfl) (fun _ _ _ h => h) (Or.inl ⟨by rfl, ?ya3⟩) (by assumption) ?ra3
        case ya3 => (intro w hSw; (try dsimp only at hSw); go_simp <;> with_reducible rfl)
        (try simp only [Act.put, List.setIfInBounds_toArray, List.set_cons_zero, List.set_cons_succ])
        refine wpAnyH_take (i := 4) (oi := { dst := some 68, op := Op.move (Operand.tmp 5), type := 24, pos := "law.go:35", after := #[], guard := none }) (v := ?va4) rfl (by kernel_rfl) (by kernel_rfl) (by kernel_rfl) (fun _ _ _ h => h) (Or.inl ⟨by rfl, ?ya4⟩) (by assumption) ?ra4
        case ya4 => (intro w hSw; (try dsimp only at hSw); go_simp <;> with_reducible rfl)
        (try simp only [Act.put, List.setIfInBounds_toArray, List.set_cons_zero, List.set_cons_succ])
        refine wpAnyH_take (i := 5) (oi := { dst := some 69, op := Op.move (Operand.tmp 6), type := 3, pos := "law.go:35", after := #[], guard := none }) (v := ?va5) rfl (by kernel_rfl) (by kernel_rfl) (by kernel_rfl) (fun _ _ _ h => h) (Or.inl ⟨by rfl, ?ya5⟩) (by assumption) ?ra5
        case ya5 => (intro w hSw; (try dsimp only at hSw); go_simp <;> with_reducible rfl)
        (try simp only [Act.put, List.setIfInBounds_toArray, List.set_cons_zero, List.set_cons_succ])
        refine wpAnyH_take (i := 6) (oi := { dst := some 70, op := Op.indexAddr 24 (Operand.tmp 68) (Operand.tmp 69), type := 0, pos := "law.go:35", after := #[{ on := 4, ground := Ground.data }, { on := 5, ground := Ground.data }], guard := none }) (v := ?va6) rfl (by kernel_rfl) (by kernel_rfl) (by kernel_rfl) (fun _ _ _ h => h) (Or.inl ⟨by rfl, ?ya6⟩) (by assumption) ?ra6
        case ya6 => (intro w hSw; (try dsimp only at hSw); go_simp <;> with_reducible rfl)
        (try simp only [Act.put, List.setIfInBounds_toArray, List.set_cons_zero, List.set_cons_succ])
        refine wpAnyH_take (i := 7) (oi := { dst := some 71, op := Op.load 29 (Operand.tmp 70), type := 29, pos := "law.go:35", after := #[{ on := 6, ground := Ground.data }], guard := none }) (v := ?va7) rfl (by kernel_rfl) (by kernel_rfl) (by kernel_rfl) (fun _ _ _ h => h) (Or.inl ⟨by rfl, ?ya7⟩) (by assumption) ?ra7
        case ya7 => (intro w hSw; (try dsimp only at hSw); go_simp <;> with_reducible rfl)
        (try simp only [Act.put, List.setIfInBounds_toArray, List.set_cons_zero, List.set_cons_succ])
        refine wpAnyH_ready (rs := [8]) (by kernel_rfl) (by simp) ?_
        refine AllReadyH.cons (o := { dst := some 72, op := Op.call { callee := Callee.value (Operand.func 12), args := #[Operand.tmp 67, Operand.tmp 71], argTypes := #[29, 29] }, type := 4, pos := "law.go:35", after := #[{ on := 3, ground := Ground.data }, { on := 7, ground := Ground.data }], guard := none }) rfl (fun K hK => ?_) AllReadyH.nil
        go_simp
        go_wp2_with (go_at_call 12; refine (C1.out _ (Below.refl _ _).drew).mono ?_; rintro e wa ⟨rfl, ka⟩; have Ka := Lib.hid (Kept.trans (Below.refl _ _).drew ka); clear ka)
        clear hHeld
        refine hK.out _ _ ?_ (fun hHeld => ?_)
        · exact CC.out _ Ka.out
        clear hK K
        (try simp only [Act.put, List.setIfInBounds_toArray, List.set_cons_zero, List.set_cons_succ])
        refine wpAnyH_take (i := 9) (oi := { dst := some 73, op := Op.move (Operand.tmp 72), type := 4, pos := "law.go:35", after := #[{ on := 8, ground := Ground.data }, { on := 8, ground := Ground.chain }], guard := none }) (v := ?va9) rfl (by kernel_rfl) (by kernel_rfl) (by kernel_rfl) (fun _ _ _ h => h) (Or.inl ⟨by rfl, ?ya9⟩) (by assumption) ?ra9
        case ya9 => (intro w hSw; (try dsimp only at hSw); go_simp <;> with_reducible rfl)
        (try simp only [Act.put, List.setIfInBounds_toArray, List.set_cons_zero, List.set_cons_succ])
        refine wpAnyH_take (i := 10) (oi := { dst := some 74, op := Op.move (Operand.tmp 9), type := 24, pos := "law.go:35", after := #[{ on := 9, ground := Ground.guard }], guard := some (9, true) }) (v := ?va10) rfl (by kernel_rfl) (by kernel_rfl) (by kernel_rfl) (fun _ _ _ h => h) (Or.inl ⟨by rfl, ?ya10⟩) (by assumption) ?ra10
        case ya10 => (intro w hSw; (try dsimp only at hSw); go_simp <;> with_reducible rfl)
        (try simp only [Act.put, List.setIfInBounds_toArray, List.set_cons_zero, List.set_cons_succ])
        refine wpAnyH_take (i := 11) (oi := { dst := some 75, op := Op.call { callee := Callee.builtin Builtin.len, args := #[Operand.tmp 74], argTypes := #[24] }, type := 3, pos := "law.go:35", after := #[{ on := 10, ground := Ground.data }, { on := 9, ground := Ground.guard }], guard := some (9, true) }) (v := ?va11) rfl (by kernel_rfl) (by kernel_rfl) (by kernel_rfl) (fun _ _ _ h => h) (Or.inl ⟨by rfl, ?ya11⟩) (by assumption) ?ra11
        case ya11 => (intro w hSw; (try dsimp only at hSw); go_simp <;> with_reducible rfl)
        (try simp only [Act.put, List.setIfInBounds_toArray, List.set_cons_zero, List.set_cons_succ])
        refine wpAnyH_take (i := 12) (oi := { dst := some 76, op := Op.binOp BinOp.eql 3 (Operand.tmp 75) (Operand.const (Value.int IntKind.i64 26)) 3, type := 4, pos := "law.go:35", after := #[{ on := 11, ground := Ground.data }, { on := 9, ground := Ground.guard }], guard := some (9, true) }) (v := ?va12) rfl (by kernel_rfl) (by kernel_rfl) (by kernel_rfl) (fun _ _ _ h => h) (Or.inl ⟨by rfl, ?ya12⟩) (by assumption) ?ra12
        case ya12 => (intro w hSw; (try dsimp only at hSw); go_simp <;> with_reducible rfl)
        (try simp only [Act.put, List.setIfInBounds_toArray, List.set_cons_zero, List.set_cons_succ])
        refine wpAnyH_take (i := 13) (oi := { dst := some 77, op := Op.pick (Operand.tmp 73) (Operand.tmp 76) (Operand.const (Value.bool false)), type := 4, pos := "law.go:35", after := #[{ on := 9, ground := Ground.data }, { on := 12, ground := Ground.data }], guard := none }) (v := ?va13) rfl (by kernel_rfl) (by kernel_rfl) (by kernel_rfl) (fun _ _ _ h => h) (Or.inl ⟨by rfl, ?ya13⟩) (by assumption) ?ra13
        case ya13 => (intro w hSw; (try dsimp only at hSw); go_simp <;> with_reducible rfl)
        (try simp only [Act.put, List.setIfInBounds_toArray, List.set_cons_zero, List.set_cons_succ])
        refine wpAnyH_take (i := 14) (oi := { dst := some 78, op := Op.move (Operand.tmp 77), type := 4, pos := "law.go:35", after := #[{ on := 13, ground := Ground.data }, { on := 9, ground := Ground.chain }], guard := none }) (v := ?va14) rfl (by kernel_rfl) (by kernel_rfl) (by kernel_rfl) (fun _ _ _ h => h) (Or.inl ⟨by rfl, ?ya14⟩) (by assumption) ?ra14
        case ya14 => (intro w hSw; (try dsimp only at hSw); go_simp <;> with_reducible rfl)
        (try simp only [Act.put, List.setIfInBounds_toArray, List.set_cons_zero, List.set_cons_succ])
        refine wpAnyH_take (i := 15) (oi := { dst := some 79, op := Op.move (Operand.tmp 9), type := 24, pos := "law.go:35", after := #[{ on := 14, ground := Ground.guard }], guard := some (14, true) }) (v := ?va15) rfl (by kernel_rfl) (by kernel_rfl) (by kernel_rfl) (fun _ _ _ h => h) (Or.inl ⟨by rfl, ?ya15⟩) (by assumption) ?ra15
        case ya15 => (intro w hSw; (try dsimp only at hSw); go_simp <;> with_reducible rfl)
        (try simp only [Act.put, List.setIfInBounds_toArray, List.set_cons_zero, List.set_cons_succ])
        refine wpAnyH_take (i := 16) (oi := { dst := some 80, op := Op.move (Operand.tmp 6), type := 3, pos := "law.go:35", after := #[{ on := 14, ground := Ground.guard }], guard := some (14, true) }) (v := ?va16) rfl (by kernel_rfl) (by kernel_rfl) (by kernel_rfl) (fun _ _ _ h => h) (Or.inl ⟨by rfl, ?ya16⟩) (by assumption) ?ra16
        case ya16 => (intro w hSw; (try dsimp only at hSw); go_simp <;> with_reducible rfl)
        (try simp only [Act.put, List.setIfInBounds_toArray, List.set_cons_zero, List.set_cons_succ])
        refine wpAnyH_take (i := 17) (oi := { dst := some 81, op := Op.binOp BinOp.add 3 (Operand.tmp 80) (Operand.const (Value.int IntKind.i64 1)) 3, type := 3, pos := "law.go:35", after := #[{ on := 16, ground := Ground.data }, { on := 14, ground := Ground.guard }], guard := some (14, true) }) (v := ?va17) rfl (by kernel_rfl) (by kernel_rfl) (by kernel_rfl) (fun _ _ _ h => h) (Or.inl ⟨by rfl, ?ya17⟩) (by assumption) ?ra17
        case ya17 => (intro w hSw; (try dsimp only at hSw); go_simp <;> with_reducible rfl)
        (try simp only [Act.put, List.setIfInBounds_toArray, List.set_cons_zero, List.set_cons_succ])
        refine wpAnyH_take (i := 18) (oi := { dst := some 82, op := Op.binOp BinOp.rem 3 (Operand.tmp 81) (Operand.const (Value.int IntKind.i64 26)) 3, type := 3, pos := "law.go:35", after := #[{ on := 17, ground := Ground.data }, { on := 14, ground := Ground.guard }], guard := some (14, true) }) (v := ?va18) rfl (by kernel_rfl) (by kernel_rfl) (by kernel_rfl) (fun _ _ _ h => h) (Or.inl ⟨by rfl, ?ya18⟩) (by assumption) ?ra18
        case ya18 => (intro w hSw; (try dsimp only at hSw); go_simp <;> with_reducible rfl)
        (try simp only [Act.put, List.setIfInBounds_toArray, List.set_cons_zero, List.set_cons_succ])
        refine wpAnyH_take (i := 19) (oi := { dst := some 83, op := Op.indexAddr 24 (Operand.tmp 79) (Operand.tmp 82), type := 0, pos := "law.go:35", after := #[{ on := 15, ground := Ground.data }, { on := 18, ground := Ground.data }, { on := 14, ground := Ground.guard }], guard := some (14, true) }) (v := ?va19) rfl (by kernel_rfl) (by kernel_rfl) (by kernel_rfl) (fun _ _ _ h => h) (Or.inl ⟨by rfl, ?ya19⟩) (by assumption) ?ra19
        case ya19 => (intro w hSw; (try dsimp only at hSw); go_simp <;> with_reducible rfl)
        (try simp only [Act.put, List.setIfInBounds_toArray, List.set_cons_zero, List.set_cons_succ])
        refine wpAnyH_take (i := 20) (oi := { dst := some 84, op := Op.load 29 (Operand.tmp 83), type := 29, pos := "law.go:35", after := #[{ on := 19, ground := Ground.data }, { on := 14, ground := Ground.guard }], guard := some (14, true) }) (v := ?va20) rfl (by kernel_rfl) (by kernel_rfl) (by kernel_rfl) (fun _ _ _ h => h) (Or.inl ⟨by rfl, ?ya20⟩) (by assumption) ?ra20
        case ya20 => (intro w hSw; (try dsimp only at hSw); go_simp <;> with_reducible rfl)
        (try simp only [Act.put, List.setIfInBounds_toArray, List.set_cons_zero, List.set_cons_succ])
        refine wpAnyH_take (i := 21) (oi := { dst := some 85, op := Op.move (Operand.tmp 5), type := 24, pos := "law.go:35", after := #[{ on := 14, ground := Ground.guard }], guard := some (14, true) }) (v := ?va21) rfl (by kernel_rfl) (by kernel_rfl) (by kernel_rfl) (fun _ _ _ h => h) (Or.inl ⟨by rfl, ?ya21⟩) (by assumption) ?ra21
        case ya21 => (intro w hSw; (try dsimp only at hSw); go_simp <;> with_reducible rfl)
        (try simp only [Act.put, List.setIfInBounds_toArray, List.set_cons_zero, List.set_cons_succ])
        refine wpAnyH_take (i := 22) (oi := { dst := some 86, op := Op.move (Operand.tmp 6), type := 3, pos := "law.go:35", after := #[{ on := 14, ground := Ground.guard }], guard := some (14, true) }) (v := ?va22) rfl (by kernel_rfl) (by kernel_rfl) (by kernel_rfl) (fun _ _ _ h => h) (Or.inl ⟨by rfl, ?ya22⟩) (by assumption) ?ra22
        case ya22 => (intro w hSw; (try dsimp only at hSw); go_simp <;> with_reducible rfl)
        (try simp only [Act.put, List.setIfInBounds_toArray, List.set_cons_zero, List.set_cons_succ])
        refine wpAnyH_take (i := 23) (oi := { dst := some 87, op := Op.binOp BinOp.add 3 (Operand.tmp 86) (Operand.const (Value.int IntKind.i64 1)) 3, type := 3, pos := "law.go:35", after := #[{ on := 22, ground := Ground.data }, { on := 14, ground := Ground.guard }], guard := some (14, true) }) (v := ?va23) rfl (by kernel_rfl) (by kernel_rfl) (by kernel_rfl) (fun _ _ _ h => h) (Or.inl ⟨by rfl, ?ya23⟩) (by assumption) ?ra23
        case ya23 => (intro w hSw; (try dsimp only at hSw); go_simp <;> with_reducible rfl)
        (try simp only [Act.put, List.setIfInBounds_toArray, List.set_cons_zero, List.set_cons_succ])
        refine wpAnyH_take (i := 24) (oi := { dst := some 88, op := Op.binOp BinOp.rem 3 (Operand.tmp 87) (Operand.const (Value.int IntKind.i64 26)) 3, type := 3, pos := "law.go:35", after := #[{ on := 23, ground := Ground.data }, { on := 14, ground := Ground.guard }], guard := some (14, true) }) (v := ?va24) rfl (by kernel_rfl) (by kernel_rfl) (by kernel_rfl) (fun _ _ _ h => h) (Or.inl ⟨by rfl, ?ya24⟩) (by assumption) ?ra24
        case ya24 => (intro w hSw; (try dsimp only at hSw); go_simp <;> with_reducible rfl)
        (try simp only [Act.put, List.setIfInBounds_toArray, List.set_cons_zero, List.set_cons_succ])
        refine wpAnyH_take (i := 25) (oi := { dst := some 89, op := Op.indexAddr 24 (Operand.tmp 85) (Operand.tmp 88), type := 0, pos := "law.go:35", after := #[{ on := 21, ground := Ground.data }, { on := 24, ground := Ground.data }, { on := 14, ground := Ground.guard }], guard := some (14, true) }) (v := ?va25) rfl (by kernel_rfl) (by kernel_rfl) (by kernel_rfl) (fun _ _ _ h => h) (Or.inl ⟨by rfl, ?ya25⟩) (by assumption) ?ra25
        case ya25 => (intro w hSw; (try dsimp only at hSw); go_simp <;> with_reducible rfl)
        (try simp only [Act.put, List.setIfInBounds_toArray, List.set_cons_zero, List.set_cons_succ])
        refine wpAnyH_take (i := 26) (oi := { dst := some 90, op := Op.load 29 (Operand.tmp 89), type := 29, pos := "law.go:35", after := #[{ on := 25, ground := Ground.data }, { on := 14, ground := Ground.guard }], guard := some (14, true) }) (v := ?va26) rfl (by kernel_rfl) (by kernel_rfl) (by kernel_rfl) (fun _ _ _ h => h) (Or.inl ⟨by rfl, ?ya26⟩) (by assumption) ?ra26
        case ya26 => (intro w hSw; (try dsimp only at hSw); go_simp <;> with_reducible rfl)
        (try simp only [Act.put, List.setIfInBounds_toArray, List.set_cons_zero, List.set_cons_succ])
        refine wpAnyH_ready (rs := [27]) (by kernel_rfl) (by simp) ?_
        refine AllReadyH.cons (o := { dst := some 91, op := Op.call { callee := Callee.value (Operand.func 12), args := #[Operand.tmp 84, Operand.tmp 90], argTypes := #[29, 29] }, type := 4, pos := "law.go:35", after := #[{ on := 20, ground := Ground.data }, { on := 26, ground := Ground.data }, { on := 14, ground := Ground.chain }, { on := 14, ground := Ground.guard }], guard := some (14, true) }) rfl (fun K hK => ?_) AllReadyH.nil
        go_simp
        go_wp2_with (go_at_call 12; refine (C2.out _ Ka.out).mono ?_; rintro e wb ⟨rfl, kb⟩; have Kb := Lib.hid (Kept.trans Ka.out kb); clear kb)
        clear hHeld
        refine hK.out _ _ ?_ (fun hHeld => ?_)
        · exact CC.out _ Kb.out
        clear hK K
        (try simp only [Act.put, List.setIfInBounds_toArray, List.set_cons_zero, List.set_cons_succ])
        refine wpAnyH_take (i := 28) (oi := { dst := some 92, op := Op.pick (Operand.tmp 78) (Operand.tmp 91) (Operand.const (Value.bool false)), type := 4, pos := "law.go:35", after := #[{ on := 14, ground := Ground.data }, { on := 27, ground := Ground.data }], guard := none }) (v := ?va28) rfl (by kernel_rfl) (by kernel_rfl) (by kernel_rfl) (fun _ _ _ h => h) (Or.inl ⟨by rfl, ?ya28⟩) (by assumption) ?ra28
        case ya28 => (intro w hSw; (try dsimp only at hSw); go_simp <;> with_reducible rfl)
        (try simp only [Act.put, List.setIfInBounds_toArray, List.set_cons_zero, List.set_cons_succ])
        refine wpAnyH_take (i := 29) (oi := { dst := some 2, op := Op.assign (Operand.tmp 92), type := 4, pos := "law.go:35", after := #[{ on := 28, ground := Ground.data }, { on := 27, ground := Ground.chain }, { on := 0, ground := Ground.phase }, { on := 1, ground := Ground.phase }, { on := 2, ground := Ground.phase }, { on := 3, ground := Ground.phase }, { on := 4, ground := Ground.phase }, { on := 5, ground := Ground.phase }, { on := 6, ground := Ground.phase }, { on := 7, ground := Ground.phase }, { on := 8, ground := Ground.phase }, { on := 9, ground := Ground.phase }, { on := 10, ground := Ground.phase }, { on := 11, ground := Ground.phase }, { on := 12, ground := Ground.phase }, { on := 13, ground := Ground.phase }, { on := 14, ground := Ground.phase }, { on := 15, ground := Ground.phase }, { on := 16, ground := Ground.phase }, { on := 17, ground := Ground.phase }, { on := 18, ground := Ground.phase }, { on := 19, ground := Ground.phase }, { on := 20, ground := Ground.phase }, { on := 21, ground := Ground.phase }, { on := 22, ground := Ground.phase }, { on := 23, ground := Ground.phase }, { on := 24, ground := Ground.phase }, { on := 25, ground := Ground.phase }, { on := 26, ground := Ground.phase }, { on := 27, ground := Ground.phase }, { on := 28, ground := Ground.phase }], guard := none }) (v := ?va29) rfl (by kernel_rfl) (by kernel_rfl) (by kernel_rfl) (fun _ _ _ h => h) (Or.inl ⟨by rfl, ?ya29⟩) (by assumption) ?ra29
        case ya29 => (intro w hSw; (try dsimp only at hSw); go_simp <;> with_reducible rfl)
        (try simp only [Act.put, List.setIfInBounds_toArray, List.set_cons_zero, List.set_cons_succ])
        refine wpAnyH_done (by kernel_rfl) ?_ _
        go_wp2_with fail
        go_ret
        exact ⟨rfl, Kept.trans K5.out Kb.out⟩
end Go.Proofs.Ytmpnieokgeomcaa
