/-
  Chapter 16's law: sameValues, alive.
-/
import Derived.Test.YtgophanpnaenkaaStack4
namespace Go.Proofs.Ytgophanpnaenkaa
open Go.RowKit
set_option maxRecDepth 100000

theorem val_rd {w : World} {l : List ValV} {v : Value} {n : Nat} (hl : l.length = n) (hr : Rd w 2 v n (l.flatMap encVal)) {i : Nat} {m : ValV} (hm : l[i]? = some m) :
    ∃ b off c, v = .slice (some ⟨b, off, none⟩) n c ∧ c ≤ 9223372036854775807 ∧ w.cell? ⟨b, off + i * 2, none⟩ = some (.bool m.ref) ∧ w.cell? ⟨b, off + i * 2 + 1, none⟩ = some (.int .i64 m.n) := by
  have hl' := (List.getElem?_eq_some_iff.1 hm).1
  rcases hr.parts with ⟨h0, _⟩ | ⟨b, off, c, rfl, h0, h1, h2, hc⟩
  · omega
  · have hg : ∀ f u, (encVal m)[f]? = some u → f < 2 → w.cell? ⟨b, off + (i * 2 + f), none⟩ = some u := fun f u hu hf => hc _ _ (by rw [flat_get encVal 2 (fun _ => rfl) l i f m hm hf]; exact hu)
    exact ⟨b, off, c, rfl, h2, hg 0 _ rfl (by omega), hg 1 _ rfl (by omega)⟩

theorem law16_sameValues (l : List ValV) (n : Nat) (va vb : Value) (w : World) (hl : l.length = n) (ha : Rd w 2 va n (l.flatMap encVal)) (hb : Rd w 2 vb n (l.flatMap encVal)) :
    Calls Try.prog 41 #[va, vb] w fun e w' => e = .returned (.bool true) ∧ ∃ m, w' = w.drewN m := by
  have HA := Lib.hid ha
  have HB := Lib.hid hb
  have HL := Lib.hid hl
  obtain ⟨_, aa, ca, rfl, a1, a2, _⟩ := ha
  obtain ⟨_, ab, cb, rfl, b1, b2, _⟩ := hb
  clear hl
  go_enter Try.func41, Try.ntmps41
  go_wp2
  go_loopw [5] (fun s5 wr => ∃ k : Nat, k ≤ n ∧ s5 = .int .i64 k ∧ ∃ m, wr = w.drewN m) (fun s5 _ => n - (intOf s5).toNat)
  case atStart => exact ⟨0, by omega, rfl, 0, rfl⟩
  case round =>
    obtain ⟨k, hk, rfl, mm, rfl⟩ := hrel
    by_cases hlt : k < n
    · obtain ⟨m, hm⟩ : ∃ m, l[k]? = some m := ⟨_, List.getElem?_eq_getElem (show k < l.length by have := HL.out; omega)⟩
      obtain ⟨ba, oa, ca', hva, hca, x0, x1⟩ := val_rd HL.out HA.out hm
      obtain ⟨bb, ob, cb', hvb, hcb, y0, y1⟩ := val_rd HL.out HB.out hm
      simp only [Value.slice.injEq] at hva hvb
      obtain ⟨rfl, -, rfl⟩ := hva
      obtain ⟨rfl, -, rfl⟩ := hvb
      clear hm
      go_wp2
      go_quiet (fail)
      go_wp2
      go_roundw
      case rel => exact ⟨k + 1, by omega, by go_num, _, rfl⟩
      case measure => simp [intOf]; omega
    · go_wp2
      go_ret
      exact ⟨rfl, _, rfl⟩

theorem IsFr.below {T E B : Nat} {w w' : World} {p : Value} {x : FrV} {g : Nat} {v u : Value} (h : IsFr T E B w p x g v u) (ht : Touch (footF g v u) w w') (hBw : B ≤ w.heap.size) : Below B w w' := by
  refine ht.below (fun b hb => ?_) hBw
  rcases hb with rfl | hb | hb
  · exact h.ge
  · exact (h.own.lt b hb).1
  · exact (h.owl.lt b hb).1

theorem law16_num (n : Int) (w : World) : Calls Try.prog 64 #[.int .i64 n] w fun e w' => e = .returned (.int .i64 n) ∧ w = w' := by
  go_enter Try.func64, Try.ntmps64
  go_wp2
  go_ret
  exact ⟨rfl, rfl⟩

theorem alive16 (w : World) : Calls Try.prog 36 #[] w fun e w' => e = .returned (.bool true) ∧ Kept w w' := by
  go_enter Try.func36, Try.ntmps36
  go_wp2_with fail
  refine (stack_New _ _ _).mono ?_
  rintro e w1 (⟨h, -⟩ | ⟨-, g, u, rfl, hP, k1⟩)
  · exact absurd ⟨by decide, by decide, by decide, by decide⟩ h
  have HP := Lib.hid hP
  have K1 := Lib.hid k1
  have B1 := k1.size
  clear hP k1
  go_wp2_with fail
  refine (law16_num _ _).mono ?_
  rintro e w1 ⟨rfl, rfl⟩
  go_wp2_with fail
  refine (stack_Push w.heap.size _ _ _ g _ u ⟨false, 5⟩ HP.out B1 (by decide) (by decide)).mono ?_
  rintro e w2 ⟨rfl, v2, hP2, hT2, -⟩
  have K2 := Lib.hid (Below.trans K1.out (HP.out.below hT2 B1))
  have B2 := K2.out.size
  have HP2 := Lib.hid hP2
  clear hP2 hT2
  go_wp2_with fail
  refine (stack_Push w.heap.size _ _ _ g _ u ⟨true, 0⟩ HP2.out B2 (by decide) (by decide)).mono ?_
  rintro e w3 ⟨rfl, v3, hP3, hT3, -⟩
  have K3 := Lib.hid (Below.trans K2.out (HP2.out.below hT3 B2))
  have B3 := K3.out.size
  have HP3 := Lib.hid hP3
  clear hP3 hT3
  go_wp2_with fail
  refine (stack_Push_no w.heap.size _ _ _ g _ u ⟨false, 0⟩ HP3.out (by decide)).mono ?_
  rintro e w4 ⟨rfl, k4⟩
  have K4 := Lib.hid (Kept.trans K3.out k4)
  have B4 := K4.out.size
  have HP4 := Lib.hid (HP3.out.kept k4)
  clear k4
  go_wp2_with fail
  refine (stack_Pop w.heap.size _ _ g _ u _ HP4.out (by decide) (by decide)).mono ?_
  rintro e w5 (⟨-, rfl, k5⟩ | ⟨h, -⟩)
  rotate_left
  · exfalso
    have := h.2 0 _ _ rfl rfl
    revert this
    decide
  have K5 := Lib.hid (Kept.trans K4.out k5)
  have B5 := K5.out.size
  have HP5 := Lib.hid (HP4.out.kept k5)
  clear k5
  go_wp2_with fail
  refine (stack_Pop w.heap.size _ _ g _ u _ HP5.out (by decide) (by decide)).mono ?_
  rintro e w6 (⟨h, -⟩ | ⟨-, t, v6, rfl, ht, hP6, hT6, -⟩)
  · refine absurd ⟨by decide, ?_⟩ h
    intro j b y hb hy
    rcases j with _ | _ | j
    · simp at hb
      subst hb
      obtain rfl : (⟨false, 5⟩ : ValV) = y := Option.some.inj hy
      decide
    · simp at hb
      subst hb
      obtain rfl : (⟨true, 0⟩ : ValV) = y := Option.some.inj hy
      decide
    · simp at hb
  have K6 := Lib.hid (Below.trans K5.out (HP5.out.below (hT6.mono fun b hb => .inl hb) B5))
  obtain ⟨r, c, rfl, hc1, hc2, _, _, hcell, _⟩ := own_form ht (by decide)
  have c1 := hcell 1 (.int .i64 5) rfl
  clear ht hP6 hT6 hcell
  have hsz : (⟨#[73, 76]⟩ : ByteArray).size = 2 := rfl
  rw [hsz] at hc1 ⊢
  clear hsz
  go_wp2
  go_ret
  exact ⟨rfl, K6.out⟩

theorem sz_list (s : ByteArray) : s.size = s.data.toList.length := by rw [Array.length_toList]; rfl

/-- The letters of values. -/
def kindsOf (l : List ValV) : List UInt8 := l.map fun y => if y.ref then 76 else 73
def wrongOf (l : List ValV) : List UInt8 := l.map fun y => if y.ref then 73 else 76
theorem kindsOf_snoc (l : List ValV) (y : ValV) : kindsOf (l ++ [y]) = kindsOf l ++ [if y.ref then 76 else 73] := by simp [kindsOf]
theorem wrongOf_snoc (l : List ValV) (y : ValV) : wrongOf (l ++ [y]) = wrongOf l ++ [if y.ref then 73 else 76] := by simp [wrongOf]

theorem stack_Pop_no (B : Nat) (w : World) (x : FrV) (g : Nat) (v u : Value) (s : ByteArray) (h : PFr B w (.pointer (some ⟨g, 0, none⟩)) x g v u) (hl : x.l.length ≤ 64) (hs : s.size ≤ 9223372036854775807) (hno : ¬ popOk s x.l) :
    Calls Try.prog 39 #[.pointer (some ⟨g, 0, none⟩), .string s] w fun e w' => e = .returned (.tuple #[.slice none 0 0, .bool false]) ∧ Kept w w' :=
  (stack_Pop B w x g v u s h hl hs).mono fun e w' h => by
    rcases h with ⟨_, h1, h2⟩ | ⟨h1, _⟩
    · exact ⟨h1, h2⟩
    · exact absurd h1 hno
theorem stack_Pop_yes (B : Nat) (w : World) (x : FrV) (g : Nat) (v u : Value) (s : ByteArray) (h : PFr B w (.pointer (some ⟨g, 0, none⟩)) x g v u) (hl : x.l.length ≤ 64) (hs : s.size ≤ 9223372036854775807) (hyes : popOk s x.l) :
    Calls Try.prog 39 #[.pointer (some ⟨g, 0, none⟩), .string s] w fun e w' => ∃ t v', e = .returned (.tuple #[t, .bool true]) ∧ w'.ownsRow w.heap.size 65 2 t s.size ((x.l.drop (x.l.length - s.size)).flatMap encVal) ∧ PFr B w' (.pointer (some ⟨g, 0, none⟩)) ⟨x.l.take (x.l.length - s.size), x.most, x.loc⟩ g v' u ∧
    Touch (fun b => b = g) w w' ∧ ∀ k, v'.ownBlock = some k → v.ownBlock = some k :=
  (stack_Pop B w x g v u s h hl hs).mono fun e w' h => by
    rcases h with ⟨h1, _⟩ | ⟨_, h2⟩
    · exact absurd hyes h1
    · exact h2

theorem sz_one (s : ByteArray) (b : UInt8) : (s ++ ⟨#[b]⟩).size = s.size + 1 := by rw [sz_list, sz_list]; simp

theorem cut_query (s : ByteArray) (m : Nat) (hm : m ≤ s.size) : (s.extract 0 m ++ ⟨#[63]⟩).data.toList = s.data.toList.take m ++ [63] := by
  simp [ByteArray.data_append, ByteArray.data_extract]
theorem pop_cut {s : ByteArray} {l : List ValV} {k : Nat} (hs : s.size = k) (hk : 0 < k) (hl : l.length = k) : (s.extract 0 (k - 1) ++ ⟨#[63]⟩).size = k ∧ ¬ popOk (s.extract 0 (k - 1) ++ ⟨#[63]⟩) l := by
  have hL := cut_query s (k - 1) (by omega)
  have hlen : (s.data.toList.take (k - 1)).length = k - 1 := by rw [List.length_take, ← sz_list]; omega
  have hsz : (s.extract 0 (k - 1) ++ ⟨#[63]⟩ : ByteArray).size = k := by rw [sz_list, hL, List.length_append, hlen]; simp; omega
  refine ⟨hsz, ?_⟩
  have h63 : (s.extract 0 (k - 1) ++ ⟨#[63]⟩ : ByteArray).data.toList[k - 1]? = some 63 := by
    rw [hL, List.getElem?_append_right (by omega), hlen, Nat.sub_self]; rfl
  intro h
  obtain ⟨y, hy⟩ : ∃ y, l[k - 1]? = some y := ⟨_, List.getElem?_eq_getElem (by omega)⟩
  have := h.2 (k - 1) 63 y h63 (by rw [hl, hsz, Nat.sub_self, Nat.zero_add]; exact hy)
  rcases hr : y.ref with _ | _ <;> simp [fitsB, hr] at this
theorem pop_wrong {s : ByteArray} {l : List ValV} (hs : s.data.toList = wrongOf l) (hl : l ≠ []) : ¬ popOk s l := by
  intro h
  have hsz : s.size = l.length := by rw [sz_list, hs, wrongOf, List.length_map]
  match l, hl with
  | y :: l', _ =>
    have := h.2 0 (if y.ref then 73 else 76) y (by rw [hs]; rfl) (by rw [hsz, Nat.sub_self]; rfl)
    rcases hy : y.ref with _ | _ <;> simp [fitsB, hy] at this
theorem pop_more {s : ByteArray} {l : List ValV} (hs : l.length < s.size) : ¬ popOk s l := fun h => by have := h.1; omega
theorem pop_query {s : ByteArray} {l : List ValV} {k : Nat} (hs : s.data.toList[k]? = some 63) (hk : s.size = k + 1) (hl : l.length = k + 1) : ¬ popOk s l := by
  intro h
  obtain ⟨y, hy⟩ : ∃ y, l[k]? = some y := ⟨_, List.getElem?_eq_getElem (by omega)⟩
  have := h.2 k 63 y hs (by rw [hl, hk, Nat.sub_self, Nat.zero_add]; exact hy)
  rcases hr : y.ref with _ | _ <;> simp [fitsB, hr] at this
theorem pop_kinds {s : ByteArray} {l : List ValV} (hs : s.data.toList = kindsOf l) : popOk s l := by
  have hsz : s.size = l.length := by rw [sz_list, hs, kindsOf, List.length_map]
  refine ⟨by omega, fun j b y hb hy => ?_⟩
  rw [hsz, Nat.sub_self, Nat.zero_add] at hy
  rw [hs, kindsOf, List.getElem?_map, hy] at hb
  obtain rfl : (if y.ref then (76 : UInt8) else 73) = b := by simpa using hb
  rcases hr : y.ref with _ | _ <;> simp [fitsB, hr]

set_option maxHeartbeats 2000000 in
theorem walk_StackTurns (l : List ValV) (v : Value) (w : World) (hr : Rd w 2 v l.length (l.flatMap encVal)) :
    Calls Try.prog 7 #[v] w fun e w' => e = .returned (.bool true) ∧ Below w.heap.size w w' := by
  have HR := Lib.hid hr
  obtain ⟨n, hn⟩ : ∃ n, n = l.length := ⟨_, rfl⟩
  rw [← hn] at hr
  have HN := Lib.hid hn
  clear hn
  obtain ⟨_, a, c, rfl, h1, h2, _⟩ := hr
  by_cases hlt : 64 < n
  · go_enter Try.func7, Try.ntmps7
    go_wp2_with fail
    refine (alive16 _).mono ?_
    rintro e w1 ⟨rfl, k1⟩
    have K1 := Lib.hid k1
    clear k1
    go_wp2
    go_ret
    exact ⟨rfl, K1.out⟩
  go_enter Try.func7, Try.ntmps7
  go_wp2_with fail
  refine (alive16 _).mono ?_
  rintro e w1 ⟨rfl, k1⟩
  have K1 := Lib.hid k1
  clear k1
  go_wp2_with fail
  refine (stack_New _ _ _).mono ?_
  rintro e w2 (⟨h, -⟩ | ⟨-, g, u, rfl, hP, k2⟩)
  · exact absurd ⟨by decide, by decide, by decide, by decide⟩ h
  have HP := Lib.hid hP
  have K2 := Lib.hid (Kept.trans K1.out k2)
  have B2 := k2.size
  clear hP k2
  go_wp2_with fail
  have hn64 : n ≤ 64 := by omega
  go_loopw [6, 7, 8] (fun s6 s7 s8 wr => ∃ k : Nat, k ≤ n ∧ s8 = .int .i64 k ∧ (∃ ks : ByteArray, s6 = .string ks ∧ ks.data.toList = kindsOf (l.take k)) ∧ (∃ ks : ByteArray, s7 = .string ks ∧ ks.data.toList = wrongOf (l.take k)) ∧
    (∃ v, PFr w1.heap.size wr (.pointer (some ⟨g, 0, none⟩)) ⟨l.take k, 64, []⟩ g v u) ∧ Below w1.heap.size w2 wr) (fun _ _ s8 _ => n - (intOf s8).toNat)
  case atStart => exact ⟨0, by omega, rfl, ⟨_, rfl, rfl⟩, ⟨_, rfl, rfl⟩, ⟨_, HP.out⟩, Below.refl _ _⟩
  case round =>
    obtain ⟨k, hk, rfl, ⟨ks, rfl, hks⟩, ⟨wg, rfl, hwg⟩, ⟨vf, hPk⟩, hB⟩ := hrel
    have HKS := Lib.hid hks
    have HWG := Lib.hid hwg
    have HPK := Lib.hid hPk
    have HB := Lib.hid hB
    have hkl : ks.size ≤ 64 := by
      rw [sz_list, hks, kindsOf, List.length_map]
      have := List.length_take_le k l
      omega
    have hwl : wg.size ≤ 64 := by
      rw [sz_list, hwg, wrongOf, List.length_map]
      have := List.length_take_le k l
      omega
    have kr : Kept w wr := Below.trans K2.out (hB.mono K1.out.size)
    have KR := Lib.hid kr
    have hrd := HR.out.kept kr
    clear hks hwg hPk hB kr
    by_cases hlt' : k < n
    · obtain ⟨y, hy⟩ : ∃ y, l[k]? = some y := ⟨_, List.getElem?_eq_getElem (show k < l.length by have := HN.out; omega)⟩
      obtain ⟨bb, off, c', hv, _, z0, z1⟩ := val_rd rfl hrd hy
      simp only [Value.slice.injEq] at hv
      obtain ⟨rfl, -, rfl⟩ := hv
      have HY := Lib.hid hy
      have hkt : (l.take k).length = k := by rw [List.length_take]; have := HN.out; omega
      have hBw : w1.heap.size ≤ wr.heap.size := Nat.le_trans B2 HB.out.size
      have C := stack_Push w1.heap.size wr _ _ g vf u y HPK.out hBw (by show (l.take k).length ≤ 64; omega) (by show ((l.take k).length : Int) < 64; omega)
      have HK := Lib.hid hkt
      clear hy hrd hkt
      have hsnoc : l.take k ++ [y] = l.take (k + 1) := by rw [List.take_add_one, HY.out]; rfl
      have HS := Lib.hid hsnoc
      clear hsnoc
      go_wp2_with fail
      refine C.mono ?_
      rintro e w3 ⟨rfl, v3, hP3, hT3, -⟩
      have HP3 := Lib.hid hP3
      have k3 := HPK.out.below hT3 hBw
      have HK3 := Lib.hid k3
      have kr3 : Kept w w3 := Below.trans KR.out (k3.mono K1.out.size)
      obtain ⟨bb2, off2, c2, hv2, _, z0, z1⟩ := val_rd rfl (HR.out.kept kr3) HY.out
      simp only [Value.slice.injEq, Option.some.injEq, Addr.mk.injEq] at hv2
      obtain ⟨⟨rfl, rfl, -⟩, -, rfl⟩ := hv2
      rw [HS.out] at hP3
      have HP3 := Lib.hid hP3
      clear C hP3 hT3 k3 kr3
      rcases hyr : y.ref with _ | _
      · rw [hyr] at z0
        have e1 : kindsOf (l.take (k + 1)) = kindsOf (l.take k) ++ [73] := by rw [← HS.out, kindsOf_snoc, hyr]; rfl
        have e2 : wrongOf (l.take (k + 1)) = wrongOf (l.take k) ++ [76] := by rw [← HS.out, wrongOf_snoc, hyr]; rfl
        have E1 := Lib.hid e1
        have E2 := Lib.hid e2
        clear e1 e2 hyr
        go_wp2_with fail
        go_roundw
        case rel => exact ⟨k + 1, by omega, by go_num, ⟨_, rfl, by rw [E1.out, ← HKS.out]; simp⟩, ⟨_, rfl, by rw [E2.out, ← HWG.out]; simp⟩, ⟨_, HP3.out⟩, Below.trans HB.out HK3.out⟩
        case measure => simp [intOf]; omega
      · rw [hyr] at z0
        have e1 : kindsOf (l.take (k + 1)) = kindsOf (l.take k) ++ [76] := by rw [← HS.out, kindsOf_snoc, hyr]; rfl
        have e2 : wrongOf (l.take (k + 1)) = wrongOf (l.take k) ++ [73] := by rw [← HS.out, wrongOf_snoc, hyr]; rfl
        have E1 := Lib.hid e1
        have E2 := Lib.hid e2
        clear e1 e2 hyr
        go_wp2_with fail
        go_roundw
        case rel => exact ⟨k + 1, by omega, by go_num, ⟨_, rfl, by rw [E1.out, ← HKS.out]; simp⟩, ⟨_, rfl, by rw [E2.out, ← HWG.out]; simp⟩, ⟨_, HP3.out⟩, Below.trans HB.out HK3.out⟩
        case measure => simp [intOf]; omega
    · obtain rfl : k = n := by omega
      have hf : l.take k = l := List.take_of_length_le (by have := HN.out; omega)
      have hP := HPK.out
      have hks := HKS.out
      have hwg := HWG.out
      rw [hf] at hP hks hwg
      have HP2 := Lib.hid hP
      have HK2 := Lib.hid hks
      have HW2 := Lib.hid hwg
      clear hP hks hwg hf HPK HKS HWG
      have hlen : ks.size = k := by rw [sz_list, HK2.out, kindsOf, List.length_map]; exact HN.out.symm
      have hwen : wg.size = k := by rw [sz_list, HW2.out, wrongOf, List.length_map]; exact HN.out.symm
      have HLEN := Lib.hid hlen
      have hk1 : k ≤ ks.size := by omega
      have hk2 : ks.size ≤ k := by omega
      have HWEN := Lib.hid hwen
      have BR : w1.heap.size ≤ wr.heap.size := Nat.le_trans B2 HB.out.size
      clear hlen hwen
      by_cases h0 : k = 0
      · have HPX := HP2
        have KX := KR
        have BX := BR
        have H0 := Lib.hid h0
        have hs0 : (decide (0 < k)) = false := by simp [h0]
        clear h0
        go_wp2_with fail
        refine (stack_Pop_yes w1.heap.size _ _ g _ u _ HPX.out (by show l.length ≤ 64; have := HN.out; omega) (by omega) (pop_kinds HK2.out)).mono ?_
        rintro e w8 ⟨t, v8, rfl, ht, hP8, hT8, -⟩
        have hsz : ks.size = k := by rw [sz_list, HK2.out, kindsOf, List.length_map]; exact HN.out.symm
        have KX8 := Lib.hid (Below.trans KX.out (Below.mono (HPX.out.below (hT8.mono fun b hb => .inl hb) BX) K1.out.size))
        have e0 : l.length - ks.size = 0 := by have := HN.out; omega
        have ht2 : Rd w8 2 t l.length (l.flatMap encVal) := by
          have := Rd.of_own ht
          rw [hsz] at this
          simpa [e0, hsz, ← HN.out] using this
        have hP9 : PFr w1.heap.size w8 (.pointer (some ⟨g, 0, none⟩)) ⟨[], 64, []⟩ g v8 u := by simpa [e0] using hP8
        have HT2 := Lib.hid ht2
        have HP9 := Lib.hid hP9
        have HL := Lib.hid (HR.out.kept KX8.out)
        clear ht hP8 hT8 e0 ht2 hP9 hsz
        go_wp2_with fail
        refine (law16_sameValues l _ _ _ _ HN.out.symm (by rw [HN.out]; exact HT2.out) (by rw [HN.out]; exact HN.out ▸ HL.out)).mono ?_
        rintro e w9 ⟨rfl, m9, rfl⟩
        have HPZ := Lib.hid (HP9.out.kept (kept_drewN (Below.refl _ _) m9))
        go_wp2_with fail
        refine (stack_Room w1.heap.size _ _ _ g _ u HPZ.out (by decide) (by decide)).mono ?_
        rintro e wz ⟨rfl, mz, rfl⟩
        go_wp2_with fail
        go_ret
        exact ⟨rfl, kept_drewN KX8.out _⟩
      · have hk0 : 0 < k := by omega
        have hne : l ≠ [] := by intro e; have := HN.out; rw [e] at this; simp at this; omega
        have N1 := Lib.hid (pop_wrong HW2.out hne)
        have hll : l.length = k := HN.out.symm
        have HLL := Lib.hid hll
        clear hne hll h0
        go_wp2_with fail
        refine (stack_Pop_no w1.heap.size _ _ g _ u _ HP2.out (by show l.length ≤ 64; have := HLL.out; omega) (by omega) N1.out).mono ?_
        rintro e w4 ⟨rfl, k4⟩
        have K4 := Lib.hid (Below.trans KR.out (k4.mono KR.out.size))
        have HP4 := Lib.hid (HP2.out.kept k4)
        have B4 : w1.heap.size ≤ w4.heap.size := Nat.le_trans BR k4.size
        clear k4
        go_wp2_with fail
        refine (stack_Pop_no w1.heap.size _ _ g _ u _ HP4.out (by show l.length ≤ 64; have := HLL.out; omega) (by rw [sz_one]; omega) (pop_more (by have := HLL.out; show l.length < _; rw [sz_one]; omega))).mono ?_
        rintro e w5 ⟨rfl, k5⟩
        have K5 := Lib.hid (Below.trans K4.out (k5.mono K4.out.size))
        have HP5 := Lib.hid (HP4.out.kept k5)
        have B5 : w1.heap.size ≤ w5.heap.size := Nat.le_trans B4 k5.size
        clear k5
        go_wp2_with fail
        have N3 := Lib.hid (pop_cut HLEN.out hk0 HLL.out)
        refine (stack_Pop_no w1.heap.size _ _ g _ u _ HP5.out (by show l.length ≤ 64; have := HLL.out; omega) (by rw [N3.out.1]; omega) N3.out.2).mono ?_
        rintro e w6 ⟨rfl, k6⟩
        have K6 := Lib.hid (Below.trans K5.out (k6.mono K5.out.size))
        have HP6 := Lib.hid (HP5.out.kept k6)
        have B6 : w1.heap.size ≤ w6.heap.size := Nat.le_trans B5 k6.size
        clear k6
        go_wp2_with fail
        refine (stack_Stack w1.heap.size _ _ _ g _ u HP6.out (by show l.length ≤ 64; have := HLL.out; omega)).mono ?_
        rintro e w7 ⟨t7, rfl, ht7, k7⟩
        have KX := Lib.hid (Below.trans K6.out (k7.mono K6.out.size))
        have HPX := Lib.hid (HP6.out.kept k7)
        have BX : w1.heap.size ≤ w7.heap.size := Nat.le_trans B6 k7.size
        have ht8 : w7.ownsRow w6.heap.size 65 2 t7 k (l.flatMap encVal) := HLL.out ▸ ht7
        obtain ⟨a7, c7, rfl, _, _⟩ := own_slice ht8
        clear k7 ht7 ht8
        go_wp2_with fail
        refine (stack_Pop_yes w1.heap.size _ _ g _ u _ HPX.out (by show l.length ≤ 64; have := HN.out; omega) (by omega) (pop_kinds HK2.out)).mono ?_
        rintro e w8 ⟨t, v8, rfl, ht, hP8, hT8, -⟩
        have hsz : ks.size = k := by rw [sz_list, HK2.out, kindsOf, List.length_map]; exact HN.out.symm
        have KX8 := Lib.hid (Below.trans KX.out (Below.mono (HPX.out.below (hT8.mono fun b hb => .inl hb) BX) K1.out.size))
        have e0 : l.length - ks.size = 0 := by have := HN.out; omega
        have ht2 : Rd w8 2 t l.length (l.flatMap encVal) := by
          have := Rd.of_own ht
          rw [hsz] at this
          simpa [e0, hsz, ← HN.out] using this
        have hP9 : PFr w1.heap.size w8 (.pointer (some ⟨g, 0, none⟩)) ⟨[], 64, []⟩ g v8 u := by simpa [e0] using hP8
        have HT2 := Lib.hid ht2
        have HP9 := Lib.hid hP9
        have HL := Lib.hid (HR.out.kept KX8.out)
        clear ht hP8 hT8 e0 ht2 hP9 hsz
        go_wp2_with fail
        refine (law16_sameValues l _ _ _ _ HN.out.symm (by rw [HN.out]; exact HT2.out) (by rw [HN.out]; exact HN.out ▸ HL.out)).mono ?_
        rintro e w9 ⟨rfl, m9, rfl⟩
        have HPZ := Lib.hid (HP9.out.kept (kept_drewN (Below.refl _ _) m9))
        go_wp2_with fail
        refine (stack_Room w1.heap.size _ _ _ g _ u HPZ.out (by decide) (by decide)).mono ?_
        rintro e wz ⟨rfl, mz, rfl⟩
        go_wp2_with fail
        go_ret
        exact ⟨rfl, kept_drewN KX8.out _⟩
end Go.Proofs.Ytgophanpnaenkaa
