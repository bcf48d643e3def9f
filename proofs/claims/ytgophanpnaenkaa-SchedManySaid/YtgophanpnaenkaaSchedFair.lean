/-
  The law SchedFair of chapter 18, walked.
-/
import Derived.Test.YtgophanpnaenkaaSchedInv
import Derived.Deep.CutBlock
import Derived.Deep.DeepCutAuto
namespace Go.Proofs.Ytgophanpnaenkaa
open Go.RowKit
set_option maxRecDepth 100000

theorem own_apart {T E B base e sz n : Nat} {w : World} {p : Value} {l : List Th} {g : Nat} {v v' : Value} {xs : List Value} (h : IsTab T E B w p l g v) (ho : w.ownsRow base e sz v' n xs) (h1 : e ≠ T) (h2 : e ≠ E) :
    ∀ b, foot g v b → ¬ v'.ownBlock = some b := by
  intro b hb hb'
  rcases hb with rfl | hb
  · exact own_ne ho h.blk h1 _ hb' rfl
  · rcases h.own.2 with ⟨rfl, _⟩ | ⟨r, _, cur, rfl, _, hh, _⟩
    · cases hb
    · have : r = b := by simpa [Value.ownBlock] using hb
      subst this
      exact own_ne (t := E) (g := r) (cs := cur) ho hh h2 _ hb' rfl

theorem fin_empty : finTo ⟨#[]⟩ = ⟨2, ⟨#[]⟩⟩ := by simp [finTo]
theorem turn_ready {l : List Th} {q : Nat} {x y : Th} (h : l[q]? = some x) (hx : x.st = 0) (ht : y.st ≠ 1) : turnE l q 0 y = 0 ∧ turnL l q 0 y = l.set q y := by
  have hl := (List.getElem?_eq_some_iff.1 h).1
  have e : turnE l q 0 y = 0 := by
    unfold turnE
    rw [if_pos ⟨by omega, by omega⟩, if_pos]
    simp [h, hx, ht]
  exact ⟨e, by rw [turnL, if_pos e]; simp⟩
theorem take_set_snoc {l : List Th} {q : Nat} (x : Th) (h : q < l.length) : (l.set q x).take (q + 1) = l.take q ++ [x] := by
  rw [take_snoc_th (x := x) (by rw [List.getElem?_set]; simp [h]), List.take_set_of_le (Nat.le_refl _)]

theorem ixs_lt' (q : Th → Bool) : ∀ (l : List Th) (n : Nat), ((l.zipIdx n).filterMap fun y => if q y.1 then some (y.2 : Int) else none).Pairwise (· < ·) ∧ ∀ a ∈ (l.zipIdx n).filterMap fun y => if q y.1 then some (y.2 : Int) else none, (n : Int) ≤ a
  | [], n => by simp
  | x :: l, n => by
    have ih := ixs_lt' q l (n + 1)
    rw [List.zipIdx_cons, List.filterMap_cons]
    cases h : q x
    · simp only [h, Bool.false_eq_true, if_false]
      exact ⟨ih.1, fun a ha => by have := ih.2 a ha; omega⟩
    · simp only [h, if_true]
      refine ⟨List.pairwise_cons.2 ⟨fun a ha => by have := ih.2 a ha; omega, ih.1⟩, fun a ha => ?_⟩
      rcases List.mem_cons.1 ha with rfl | ha
      · exact Int.le_refl _
      · have := ih.2 a ha; omega
theorem ixs_lt (q : Th → Bool) (l : List Th) : (ixs q l).Pairwise (· < ·) := (ixs_lt' q l 0).1
theorem ixs_inj {q : Th → Bool} {l : List Th} {i j : Nat} {x y : Int} (hi : (ixs q l)[i]? = some x) (hj : (ixs q l)[j]? = some y) (hne : i ≠ j) : ¬ x = y := by
  obtain ⟨h1, rfl⟩ := List.getElem?_eq_some_iff.1 hi
  obtain ⟨h2, rfl⟩ := List.getElem?_eq_some_iff.1 hj
  have := List.pairwise_iff_getElem.1 (ixs_lt q l)
  rcases Nat.lt_or_ge i j with h | h
  · have := this i j h1 h2 h; omega
  · have := this j i h2 h1 (by omega); omega

/-- What the second loop keeps. -/
def Sift (k q : Nat) (l : List Th) : Prop := l.length = k ∧ (∀ x ∈ l, wtP x = false) ∧ ∀ j, j < k → q ≤ j → l[j]? = some ⟨0, ⟨#[]⟩⟩
theorem Sift.ready {k q : Nat} {l : List Th} (h : Sift k q l) (hq : q < k) : Sift k (q + 1) l ∧ ixs rdP (l.take (q + 1)) = ixs rdP (l.take q) ++ [(q : Int)] := by
  refine ⟨⟨h.1, h.2.1, fun j hj hj' => h.2.2 j hj (by omega)⟩, ?_⟩
  have := (pick_step (h.2.2 q hq (Nat.le_refl _)) rdP (by rw [h.1]; exact hq)).1
  rw [this]
  simp [rdP]
theorem Sift.gone {k q : Nat} {l : List Th} (h : Sift k q l) (hq : q < k) : turnE l q 0 (finTo ⟨#[]⟩) = 0 ∧ Sift k (q + 1) (turnL l q 0 (finTo ⟨#[]⟩)) ∧ ixs rdP ((turnL l q 0 (finTo ⟨#[]⟩)).take (q + 1)) = ixs rdP (l.take q) := by
  rw [fin_empty]
  have t := turn_ready (y := ⟨2, ⟨#[]⟩⟩) (h.2.2 q hq (Nat.le_refl _)) rfl (by decide)
  rw [t.2]
  refine ⟨t.1, ⟨by simpa using h.1, fun x hx => ?_, fun j hj hj' => ?_⟩, ?_⟩
  · rcases List.mem_or_eq_of_mem_set hx with hx | rfl
    · exact h.2.1 x hx
    · rfl
  · rw [List.getElem?_set_ne (by omega)]
    exact h.2.2 j hj (by omega)
  · rw [take_set_snoc _ (by rw [h.1]; exact hq), ixs_snoc]
    simp [rdP]
theorem Sift.any {k q : Nat} {l : List Th} (h : Sift k q l) : l.any wtP = false := by
  rw [List.any_eq_false]
  intro x hx
  simp [h.2.1 x hx]
theorem Sift.len {k q : Nat} {l : List Th} (h : Sift k q l) (hq : q ≤ k) : (ixs rdP (l.take q)).length ≤ q :=
  Nat.le_trans (ixs_le _ _) (List.length_take_le _ _)

set_option maxHeartbeats 1000000 in
theorem walk_SchedFair (n gone fr : Int) (w : World) (_ : (Lit.int .i64 n).wf = true) (_ : (Lit.int .i64 gone).wf = true) (_ : (Lit.int .i64 fr).wf = true) :
    Calls Try.prog 5 #[.int .i64 n, .int .i64 gone, .int .i64 fr] w fun e w' => e = .returned (.bool true) ∧ Below w.heap.size w w' := by
  by_cases h1 : n < 1 ∨ 16 < n ∨ 1152921504606846976 < fr ∨ fr < -1152921504606846976
  · rcases (by omega : n < 1 ∨ (¬ n < 1 ∧ 16 < n) ∨ (¬ n < 1 ∧ ¬ 16 < n ∧ 1152921504606846976 < fr) ∨ (¬ n < 1 ∧ ¬ 16 < n ∧ ¬ 1152921504606846976 < fr ∧ fr < -1152921504606846976)) with h | h | h | h
    all_goals
      have h := h
      clear h1
      go_enter Try.func5, Try.ntmps5
      go_wp2_with (go_at_call 30; ((with_reducible refine (alive18 _).mono ?_); rintro e w1 ⟨rfl, k1⟩))
      go_ret
      exact ⟨rfl, k1⟩
  · obtain ⟨N, rfl⟩ : ∃ N : Nat, n = N := ⟨n.toNat, by omega⟩
    have a1 : 1 ≤ N := by omega
    have a2 : N ≤ 16 := by omega
    have a3 : fr ≤ 1152921504606846976 := by omega
    have a4 : -1152921504606846976 ≤ fr := by omega
    clear h1
    go_enter Try.func5, Try.ntmps5
    go_wp2_with (go_at_call 30; ((with_reducible refine (alive18 _).mono ?_); rintro e w1 ⟨rfl, k1⟩))
    refine (sched_New _).mono ?_
    rintro e w2 ⟨rfl, t2, k2⟩
    go_wp2_with fail
    have Q0 : ∃ v, PTab w1.heap.size w2 (Value.pointer (some { block := w1.heap.size, off := 0 })) (List.replicate 0 ⟨0, ⟨#[]⟩⟩) w1.heap.size v := ⟨_, t2⟩
    have B0 : Below w.heap.size w w2 := Kept.trans k1 k2
    have Z0 := k1.size
    have Z2 := k2.size
    clear t2 k1 k2
    have Q0' := Lib.hid Q0
    clear Q0
    go_loopw [9] (fun s9 wr => ∃ k : Nat, k ≤ N ∧ s9 = .int .i64 k ∧ (∃ v, PTab w1.heap.size wr (Value.pointer (some { block := w1.heap.size, off := 0 })) (List.replicate k ⟨0, ⟨#[]⟩⟩) w1.heap.size v) ∧ Below w.heap.size w wr ∧ w1.heap.size ≤ wr.heap.size) (fun s9 _ => N - (intOf s9).toNat)
    case atStart => exact ⟨0, by omega, rfl, Q0'.out, B0, Z2⟩
    case round =>
      obtain ⟨k, hk, rfl, ⟨v, hP⟩, hB, hZ⟩ := hrel
      by_cases hlt : k < N
      · go_wp2_with fail
        refine (sched_Start_lt _ _ _ _ _ _ hP hZ (by simp; omega)).mono ?_
        rintro e w4 ⟨rfl, v4, t4, b4, _⟩
        have hB4 := Below.trans hB ((hP.below b4 hZ).mono Z0)
        have hZ4 := Nat.le_trans hZ b4.size
        clear hP b4
        have T4 := Lib.hid t4
        clear t4
        go_wp2
        go_roundw
        case rel => exact ⟨k + 1, by omega, by go_num, ⟨v4, by rw [List.replicate_succ']; exact T4.out⟩, hB4, hZ4⟩
        case measure => simp [intOf]; omega
      · obtain rfl : k = N := by omega
        have R0 : ∃ l v, PTab w1.heap.size wr (Value.pointer (some { block := w1.heap.size, off := 0 })) l w1.heap.size v ∧ Sift k 0 l ∧ ixs rdP (l.take 0) = [] :=
          ⟨_, v, hP, ⟨by simp, by intro x hx; rw [List.mem_replicate] at hx; rw [hx.2]; rfl, by intro j hj _; rw [List.getElem?_replicate]; simp [hj]⟩, rfl⟩
        have R0' := Lib.hid R0
        clear R0 hP
        go_wp2_with fail
        go_loopw [10, 11] (fun s10 s11 wq => ∃ q : Nat, q ≤ k ∧ s11 = .int .i64 q ∧ (∃ l v, PTab w1.heap.size wq (Value.pointer (some { block := w1.heap.size, off := 0 })) l w1.heap.size v ∧ Sift k q l ∧ wq.ownsRow w.heap.size 3 1 s10 (ixs rdP (l.take q)).length ((ixs rdP (l.take q)).map (Value.int .i64))) ∧ Below w.heap.size w wq ∧ w1.heap.size ≤ wq.heap.size) (fun _ s11 _ => k - (intOf s11).toNat)
        case atStart =>
          obtain ⟨l, v, h1, h2, h5⟩ := R0'.out
          exact ⟨0, by omega, rfl, ⟨l, v, h1, h2, by rw [h5]; exact World.ownsRow_nil _ _ _ _⟩, hB, hZ⟩
        case round =>
          obtain ⟨q, hq, rfl, ⟨l, vl, hP, hS, hown⟩, hBq, hZq⟩ := hrel
          have hle := hS.len hq
          by_cases hlt : q < k
          · have hR := Lib.hid (hS.ready hlt)
            have hG := Lib.hid (hS.gone hlt)
            have hl16 : l.length ≤ 16 := by rw [hS.1]; exact a2
            have HP := Lib.hid hP
            have HS := Lib.hid hS
            clear hS hP
            go_wp2_with (first
              | (go_at_call 33; ((with_reducible refine (sched_Finish _ _ _ _ _ _ q ⟨#[]⟩ HP.out hZq hl16).mono ?_); rintro e w4 ⟨rfl, t4, b4⟩; have hown4 := b4.own hown (fun k hk hf => own_apart HP.out hown (by decide) (by decide) k hf hk); have hB4 := Below.trans hBq ((HP.out.below b4 hZq).mono Z0); have hZ4 := Nat.le_trans hZq b4.size; have T4 := Lib.hid t4; clear t4 b4))
              | (at_builtin; refine wpl_pushH _ elem_int rfl _ _ rfl w.heap.size _ _ _ rfl hown [.int .i64 q] _ _ rfl rfl rfl (int_one _) (by omega) (by omega) (by omega) ?_; intro v1 w4 hown1 hg1 hk1 hb1; have hP1 := Lib.hid (HP.out.apart ((Touch.of_grown (S := fun b => u10.ownBlock = some b) hg1 (fun k hk => hk))) (own_apart HP.out hown (by decide) (by decide))); have hz1 := hb1.size; clear hg1 hk1))
            · go_roundw
              case rel => exact ⟨q + 1, by omega, by go_num, ⟨_, _, T4.out, hG.out.2.1, by rw [hG.out.2.2]; exact hown4⟩, hB4, hZ4⟩
              case measure => simp [intOf]; omega
            · go_roundw
              case rel => exact ⟨q + 1, by omega, by go_num, ⟨_, _, hP1.out, hR.out.1, by rw [hR.out.2]; simpa using hown1⟩, Below.trans hBq (hb1.mono (by omega)), by omega⟩
              case measure => simp [intOf]; omega
          · obtain rfl : q = k := by omega
            rw [List.take_of_length_le (by rw [hS.1]; exact Nat.le_refl _)] at hown hle
            have hl16 : l.length ≤ 16 := by rw [hS.1]; exact a2
            have hany := hS.any
            have C := fun W raw => sched_Pick w1.heap.size W (Value.pointer (some { block := w1.heap.size, off := 0 })) l w1.heap.size vl raw
            rw [hany] at C
            have HC := Lib.hid C
            have HP := Lib.hid hP
            clear hS hP C hany R0'
            by_cases hne : ixs rdP l = []
            · have hp : pickA (ixs rdP l) false fr = (-1, 1) := by simp [pickA, hne]
              have hl0 : (ixs rdP l).length = 0 := by simp [hne]
              obtain ⟨ar, cr, rfl, hlr, hcr⟩ := own_slice hown
              have C := HC.out wr fr HP.out hl16 (by omega) (by omega)
              rw [hp] at C
              clear hne hp hown
              go_wp2_with fail
              refine C.mono ?_
              rintro e w4 ⟨rfl, b4⟩
              have hB4 := Below.trans hBq (b4.mono hBq.size)
              clear C b4
              go_wp2
              go_ret
              exact ⟨rfl, hB4⟩
            · have hlp : 0 < (ixs rdP l).length := List.length_pos_iff.2 hne
              have hp : ∀ raw : Int, pickA (ixs rdP l) false raw = ((ixs rdP l)[(raw % (ixs rdP l).length).toNat]?.getD 0, 0) := by intro raw; simp [pickA, hne]
              obtain ⟨r, hr⟩ : ∃ r, (ixs rdP l).length = r := ⟨_, rfl⟩
              rw [hr] at hown hle hlp hp
              obtain ⟨rr, cr, rfl, hlr, hcr, hge, _, hcell, _⟩ := own_form hown hlp
              have HR := Lib.hid hr
              have HPK := Lib.hid hp
              have HL := Lib.hid hcell
              clear hne hown hp hcell hr
              go_wp2_with fail
              obtain ⟨wo, rfl⟩ : ∃ wo : World, wo = wr := ⟨_, rfl⟩
              have hF0 := Int.emod_nonneg fr (show (r : Int) ≠ 0 by omega)
              obtain ⟨F, hF⟩ : ∃ F : Nat, fr % (r : Int) = F := ⟨(fr % r).toNat, by omega⟩
              have HF := Lib.hid hF
              clear hF hF0
              go_loopw [14, 15] (fun s14 s15 wt => ∃ c : Nat, c ≤ 2 * r ∧ s15 = .int .i64 c ∧ (∃ A : Int, s14 = .int .i64 A ∧ (c = 0 ∧ A = -1 ∨ A = F)) ∧ Kept wo wt) (fun _ s15 _ => 2 * r - (intOf s15).toNat)
              case atStart => exact ⟨0, by omega, rfl, ⟨-1, rfl, .inl ⟨rfl, rfl⟩⟩, Below.refl _ _⟩
              case round =>
                obtain ⟨c, hc, rfl, ⟨A, rfl, hA⟩, hT⟩ := hrel
                have HA := Lib.hid hA
                clear hA
                by_cases hlt : c < 2 * r
                · have C := HC.out wr (fr + c) (HP.out.kept hT) hl16 (by omega) (by omega)
                  rw [HPK.out] at C
                  obtain ⟨Q, hQ⟩ : ∃ Q, (F + c) % r = Q := ⟨_, rfl⟩
                  have hQr : Q < r := by rw [← hQ]; exact Nat.mod_lt _ hlp
                  have hQi : (fr + c) % (r : Int) = Q := by rw [Int.add_emod, HF.out, ← hQ]; simp [Int.add_emod]
                  obtain ⟨z, hz⟩ : ∃ z, (ixs rdP l)[Q]? = some z := ⟨_, List.getElem?_eq_getElem (show Q < (ixs rdP l).length by have := HR.out; omega)⟩
                  rw [hQi, Int.toNat_natCast, hz] at C
                  have HQ := Lib.hid hQ
                  have HZ := Lib.hid hz
                  have hT' := Lib.hid hT
                  clear hQ hQi hz hT
                  go_wp2_with fail
                  refine C.mono ?_
                  rintro e w4 ⟨rfl, b4⟩
                  have hT4 := Kept.trans hT'.out b4
                  clear C b4 hT'
                  go_wp2_with fail
                  obtain ⟨wo, rfl⟩ : ∃ wo : World, wo = wr := ⟨_, rfl⟩
                  go_loopw [18, 19] (fun s18 s19 wi => ∃ j : Nat, j ≤ r ∧ s19 = .int .i64 j ∧ (∃ D : Int, s18 = .int .i64 D ∧ D = if Q < j then (Q : Int) else -1) ∧ Kept w4 wi) (fun _ s19 _ => r - (intOf s19).toNat)
                  case atStart => exact ⟨0, by omega, rfl, ⟨-1, rfl, by simp⟩, Below.refl _ _⟩
                  case round =>
                    obtain ⟨j, hj, rfl, ⟨D, rfl, hD⟩, hK⟩ := hrel
                    have HD := Lib.hid hD
                    clear hD
                    by_cases hlt : j < r
                    · obtain ⟨y, hy⟩ : ∃ y, (ixs rdP l)[j]? = some y := ⟨_, List.getElem?_eq_getElem (show j < (ixs rdP l).length by have := HR.out; omega)⟩
                      have hcj := (Kept.trans hT4 hK).cell (HL.out j _ (by rw [List.getElem?_map, hy]; rfl))
                      have hcase : (j = Q ∧ y = z) ∨ (j ≠ Q ∧ ¬ y = z) := by
                        by_cases h : j = Q
                        · subst h
                          have := HZ.out
                          rw [hy] at this
                          exact .inl ⟨rfl, by simpa using this⟩
                        · exact .inr ⟨h, ixs_inj hy HZ.out h⟩
                      clear hy
                      rcases hcase with ⟨h, hyz⟩ | ⟨h, hyz⟩
                      · subst hyz
                        have hjQ := Lib.hid h
                        clear h
                        go_wp2
                        go_roundw
                        case rel => exact ⟨j + 1, by omega, by go_num, ⟨j, by go_num, by have := hjQ.out; rw [if_pos (by omega)]; omega⟩, hK⟩
                        case measure => simp [intOf]; omega
                      · have hjQ := Lib.hid h
                        clear h
                        go_wp2
                        go_roundw
                        case rel => exact ⟨j + 1, by omega, by go_num, ⟨D, by go_num, by have := hjQ.out; have := HD.out; split <;> split at this <;> omega⟩, hK⟩
                        case measure => simp [intOf]; omega
                    · obtain rfl : j = r := by omega
                      have hDQ : D = Q := by rw [HD.out, if_pos hQr]
                      subst hDQ
                      have HKK := Lib.hid (Kept.trans hT4 hK)
                      clear hK hT4
                      have hm : ∀ A : Int, A = Q ∧ c = 0 ∨ A = F → (A + c).tmod j = Q := by
                        have hQ := HQ.out
                        rintro A (⟨rfl, rfl⟩ | rfl)
                        · rw [Int.natCast_zero, Int.add_zero, Int.tmod_eq_emod_of_nonneg (by omega), Int.emod_eq_of_lt (by omega) (by omega)]
                        · rw [Int.tmod_eq_emod_of_nonneg (by omega), ← hQ]; simp
                      have hjz : ¬ (j : Int) = 0 := by omega
                      have hFr : F < j := by have := HF.out; have := Int.emod_lt_of_pos fr (show (0 : Int) < j by omega); omega
                      rcases HA.out with ⟨hc0, rfl⟩ | rfl
                      · have m0 := hm Q (.inl ⟨rfl, hc0⟩)
                        have hQF : Q = F := by have hQ := HQ.out; rw [hc0, Nat.add_zero, Nat.mod_eq_of_lt hFr] at hQ; exact hQ.symm
                        have HC0 := Lib.hid hc0
                        have HQF := Lib.hid hQF
                        clear hm hc0 hQF
                        go_wp2
                        go_roundw
                        case rel => exact ⟨_, _, _, ⟨c + 1, by omega, rfl, ⟨Q, rfl, .inr (by have := HQF.out; omega)⟩, HKK.out⟩, rfl, rfl, by go_num⟩
                        case measure => simp [intOf]; omega
                      · have m0 := hm F (.inr rfl)
                        clear hm
                        go_wp2
                        go_roundw
                        case rel => exact ⟨_, _, _, ⟨c + 1, by omega, rfl, ⟨F, rfl, .inr rfl⟩, HKK.out⟩, rfl, rfl, by go_num⟩
                        case measure => simp [intOf]; omega
                · go_wp2
                  go_ret
                  exact ⟨rfl, hBq.trans (hT.mono hBq.size)⟩

end Go.Proofs.Ytgophanpnaenkaa
