/-
  The law SchedRing, walked.
-/
import Derived.Test.YtgophanpnaenkaaRing
import Derived.StillTailTactics
namespace Go.Proofs.Ytgophanpnaenkaa
open Go.RowKit Go.Maps Go.WideMaps
set_option maxRecDepth 100000

theorem law18_class (i : Nat) (w : World) (hi : i < 16) : Calls Try.prog 55 #[.int .i64 i] w fun e w' => e = .returned (.string (cls i)) ∧ w = w' := by
  go_enter Try.func55, Try.ntmps55
  go_wp2
  go_ret
  exact ⟨rfl, rfl⟩

theorem ownsMap_touch {H : Type} {P : Program} {k : TypeId} {R : Value → Option (DataW H × List MemPlace)} {b n : Nat} {D : DataW H} {S : Nat → Prop} {w w' : World} (h : w.ownsMap P k R b n D) (ht : Touch S w w') (hn : ¬ S b) : w'.ownsMap P k R b n D := by
  have hlt := h.lt
  obtain ⟨es, clock, hb, F, hs, hD⟩ := h
  exact ⟨es, clock, (ht.blocks b hlt hn).trans hb, F, hs, hD⟩
theorem ownsMap_foot {T E B : Nat} {w : World} {p : Value} {l : List Th} {g : Nat} {v : Value} {H : Type} {P : Program} {k : TypeId} {R : Value → Option (DataW H × List MemPlace)} {b n : Nat} {D : DataW H} (h : IsTab T E B w p l g v) (hm : w.ownsMap P k R b n D) : ¬ foot g v b := by
  obtain ⟨es, clock, hb, _⟩ := hm
  rintro (rfl | hv)
  · have := h.blk
    unfold Blk at this
    rw [hb] at this
    cases this
  · rcases h.own.2 with ⟨rfl, _⟩ | ⟨g', cap, cur, rfl, _, hh, _⟩
    · cases hv
    · obtain rfl : g' = b := by simpa [Value.ownBlock] using hv
      rw [hb] at hh
      cases hh

/-- Waiting threads, one for each class. -/
def waitL (k : Nat) : List Th := (List.range k).map fun i => ⟨1, cls i⟩
theorem waitL_len (k : Nat) : (waitL k).length = k := by simp [waitL]
theorem waitL_at {k i : Nat} (h : i < k) : (waitL k)[i]? = some ⟨1, cls i⟩ := by simp [waitL, h]
theorem waitL_snoc (k : Nat) (hk : k < 16) : turnL (waitL k ++ [⟨0, ⟨#[]⟩⟩]) k 0 ⟨1, cls k⟩ = waitL (k + 1) ∧ turnE (waitL k ++ [⟨0, ⟨#[]⟩⟩]) k 0 ⟨1, cls k⟩ = 0 := by
  have hne : (cls k).toList ≠ [] := by
    intro e
    have h1 := cls_list ⟨k, hk⟩
    rw [ByteArray.toList_eq] at e
    rw [e] at h1
    cases h1
  have hE : turnE (waitL k ++ [⟨0, ⟨#[]⟩⟩]) k 0 ⟨1, cls k⟩ = 0 := by
    rw [turnE, if_pos (by simp [waitL_len]; omega)]
    simp [waitL_len, hne]
  refine ⟨?_, hE⟩
  rw [turnL, if_pos hE, Int.toNat_natCast]
  have e : (waitL k ++ [(⟨0, ⟨#[]⟩⟩ : Th)]).set k (⟨1, cls k⟩ : Th) = waitL k ++ [(⟨1, cls k⟩ : Th)] := by
    rw [List.set_append, waitL_len, if_neg (by omega), Nat.sub_self]
    rfl
  rw [e, waitL, waitL, List.range_succ, List.map_append]
  rfl

/-- The owners after k rounds. -/
def ownD (H : Type) (n : Nat) : Nat → DataW H
  | 0 => .map []
  | k + 1 => (ownD H n k).put (.string (cls k).data.toList) (.lit (.int .i64 (((k + 1) % n : Nat) : Int)))
theorem ownD_map (H : Type) (n : Nat) : ∀ k, IsMap (ownD H n k)
  | 0 => isMap_empty
  | k + 1 => (ownD_map H n k).put _ _
theorem ownD_at (H : Type) (n : Nat) : ∀ (k i : Nat), k ≤ 16 → i < k → ownOf (ownD H n k) (cls i) = some (((i + 1) % n : Nat) : Int)
  | 0, i, _, h => by omega
  | k + 1, i, hk, h => by
    rw [ownD]
    by_cases e : i = k
    · subst e; exact ownOf_put_same (ownD_map H n i) _ _
    · rw [ownOf_put_other _ _ _ (fun h' => e (cls_inj (by omega) (by omega) h'))]
      exact ownD_at H n k i (by omega) (by omega)

theorem waitL_size {k : Nat} (hk : k ≤ 16) : ∀ x ∈ waitL k, x.tx.size ≤ maxLen := by
  intro x hx
  obtain ⟨i, hi, rfl⟩ := List.mem_map.1 hx
  have hi := List.mem_range.1 hi
  rw [cls_size (by omega)]
  unfold maxLen
  omega
theorem ring_full (n : Nat) (hn : 2 ≤ n) (hn2 : n ≤ 16) : roundB (ownOf (ownD Unit n n)) (waitL n) = true := by
  refine round_all (by rw [waitL_len]; omega) fun t ht => ?_
  rw [waitL_len] at ht ⊢
  exact ⟨cls t, by rw [waitsAt_at (waitL_at ht)]; rfl, ownD_at Unit n n t hn2 ht⟩
theorem ixs_none (q : Th → Bool) (l : List Th) (h : ∀ x ∈ l, q x = false) : ixs q l = [] := by
  unfold ixs
  rw [List.filterMap_eq_nil_iff]
  intro y hy
  rw [if_neg]
  have := List.fst_mem_of_mem_zipIdx hy
  simp [h _ this]
theorem ixs_one (q : Th → Bool) : ∀ (n : Nat) (l : List Th) (c : Nat) (x : Th), l.length = n → l[c]? = some x → q x = true → (∀ i y, i ≠ c → l[i]? = some y → q y = false) → ixs q l = [(c : Int)]
  | 0, l, c, x, hl, hx, _, _ => by
    rw [List.eq_nil_of_length_eq_zero hl] at hx
    simp at hx
  | n + 1, l, c, x, hl, hx, hq, ho => by
    rcases List.eq_nil_or_concat l with rfl | ⟨l0, z, rfl⟩
    · simp at hx
    · have hl0 : l0.length = n := by simpa using hl
      rw [List.concat_eq_append] at hx ho ⊢
      rw [ixs_snoc]
      by_cases hc : c = l0.length
      · subst hc
        rw [List.getElem?_append_right (Nat.le_refl _), Nat.sub_self] at hx
        obtain rfl : z = x := by simpa using hx
        rw [ixs_none q l0 (fun y hy => by
          obtain ⟨i, hi⟩ := List.getElem?_of_mem hy
          have hlt := (List.getElem?_eq_some_iff.1 hi).1
          exact ho i y (by omega) (by rw [List.getElem?_append_left hlt]; exact hi)), hq]
        rfl
      · have hclt : c < l0.length := by
          have := (List.getElem?_eq_some_iff.1 hx).1
          simp at this
          omega
        rw [List.getElem?_append_left hclt] at hx
        have hz := ho l0.length z (by omega) (by rw [List.getElem?_append_right (Nat.le_refl _), Nat.sub_self]; rfl)
        rw [ixs_one q n l0 c x hl0 hx hq (fun i y hi hy => ho i y hi (by rw [List.getElem?_append_left (List.getElem?_eq_some_iff.1 hy).1]; exact hy)), hz]
        rfl
theorem pick_waits (n c : Nat) (hn : 0 < n) : pickA (ixs rdP (waitL n)) ((waitL n).any wtP) (c : Int) = (-1, 2) := by
  have h1 : ixs rdP (waitL n) = [] := ixs_none _ _ fun x hx => by
    obtain ⟨i, _, rfl⟩ := List.mem_map.1 hx
    rfl
  have h2 : (waitL n).any wtP = true := by
    rw [List.any_eq_true]
    exact ⟨⟨1, cls 0⟩, List.mem_map.2 ⟨0, List.mem_range.2 hn, rfl⟩, rfl⟩
  rw [h1, h2]
  rfl

theorem ring_cut (n c : Nat) (hn : n ≤ 16) (hc : c < n) : roundB (ownOf ((ownD Unit n n).del (.string (cls c).data.toList))) (waitL n) = false := by
  refine round_dead (c := c) (by rw [waitL_len]; exact hc) (fun i f => ?_) fun t ht hne => ?_
  · exact ring_gone f (s := cls c) (by rw [waitsAt_at (waitL_at hc)]; rfl) (ownOf_del_same _)
  · rw [waitL_len] at ht ⊢
    refine ⟨cls t, by rw [waitsAt_at (waitL_at ht)]; rfl, ?_⟩
    rw [ownOf_del_other _ _ (fun h => hne (cls_inj (by omega) (by omega) h))]
    exact ownD_at Unit n n t hn ht
def wokenL (n c : Nat) : List Th := (waitL n).set c ⟨0, ⟨#[]⟩⟩
theorem woken_size {n c : Nat} (hn : n ≤ 16) : ∀ x ∈ wokenL n c, x.tx.size ≤ maxLen := by
  intro x hx
  rcases List.mem_or_eq_of_mem_set hx with h | rfl
  · exact waitL_size hn x h
  · show (⟨#[]⟩ : ByteArray).size ≤ maxLen
    decide
theorem wokenL_turn (n c : Nat) (hc : c < n) : turnL (waitL n) c 1 ⟨0, ⟨#[]⟩⟩ = wokenL n c := by
  have hE : turnE (waitL n) c 1 ⟨0, ⟨#[]⟩⟩ = 0 := by
    rw [turnE, if_pos (by rw [waitL_len]; omega), Int.toNat_natCast, waitL_at hc]
    simp
  rw [turnL, if_pos hE]
  rfl
theorem wokenL_len (n c : Nat) : (wokenL n c).length = n := by simp [wokenL, waitL_len]
theorem wokenL_at {n c i : Nat} (h : i < n) (hne : i ≠ c) : (wokenL n c)[i]? = some ⟨1, cls i⟩ := by
  rw [wokenL, List.getElem?_set_ne (fun e => hne e.symm), waitL_at h]
theorem wokenL_c {n c : Nat} (h : c < n) : (wokenL n c)[c]? = some ⟨0, ⟨#[]⟩⟩ := by
  rw [wokenL, List.getElem?_set]
  simp [waitL_len, h]
theorem ring_woken (n c : Nat) (hn : n ≤ 16) (hc : c < n) (z : Int) : roundB (ownOf (((ownD Unit n n).del (.string (cls c).data.toList)).put (.string (cls c).data.toList) (.lit (.int .i64 z)))) (wokenL n c) = false := by
  refine round_dead (c := c) (by rw [wokenL_len]; exact hc) (fun i f => ?_) fun t ht hne => ?_
  · exact ring_none f (by rw [waitsAt_at (wokenL_c hc)]; rfl)
  · rw [wokenL_len] at ht ⊢
    refine ⟨cls t, by rw [waitsAt_at (wokenL_at ht hne)]; rfl, ?_⟩
    have hd : (cls t).data.toList ≠ (cls c).data.toList := fun h => hne (cls_inj (by omega) (by omega) h)
    rw [ownOf_put_other _ _ _ hd, ownOf_del_other _ _ hd]
    exact ownD_at Unit n n t hn ht
theorem pick_woken (n c : Nat) (hc : c < n) (z : Int) : pickA (ixs rdP (wokenL n c)) ((wokenL n c).any wtP) z = ((c : Int), 0) := by
  have h1 : ixs rdP (wokenL n c) = [(c : Int)] := by
    refine ixs_one rdP n _ c _ (wokenL_len n c) (wokenL_c hc) (by simp [rdP]) fun i y hi hy => ?_
    have hlt := (List.getElem?_eq_some_iff.1 hy).1
    rw [wokenL_len] at hlt
    rw [wokenL_at hlt hi] at hy
    obtain rfl : (⟨1, cls i⟩ : Th) = y := by simpa using hy
    rfl
  rw [h1, pickA, if_neg (by simp)]
  simp

set_option maxHeartbeats 2000000 in
theorem walk_SchedRing (n cut : Int) (w : World) (_ : (Lit.int .i64 n).wf = true) (_ : (Lit.int .i64 cut).wf = true) :
    Calls Try.prog 11 #[.int .i64 n, .int .i64 cut] w fun e w' => e = .returned (.bool true) ∧ Below w.heap.size w w' := by
  by_cases hr : 2 ≤ n ∧ n ≤ 16 ∧ 0 ≤ cut ∧ cut < n
  · obtain ⟨a1, a2, a3, a4⟩ := hr
    obtain ⟨N, rfl⟩ : ∃ N : Nat, n = N := ⟨n.toNat, by omega⟩
    obtain ⟨C, rfl⟩ : ∃ C : Nat, cut = C := ⟨cut.toNat, by omega⟩
    have hmm := @run_makeMap Try.prog
    go_enter Try.func11, Try.ntmps11
    go_wp2_with fail
    refine (alive18 _).mono ?_
    rintro e w1 ⟨rfl, k1⟩
    have K1 := Lib.hid k1
    clear k1
    go_wp2_with fail
    refine (sched_New _).mono ?_
    rintro e w2 ⟨rfl, t2, k2⟩
    have K2 := Lib.hid (Kept.trans K1.out k2)
    have B2 := k2.size
    have T2 := Lib.hid t2
    clear t2 k2
    go_wp2_with fail
    have km : Kept w2 (w2.alloc (.map #[] 0)) := (Below.refl _ _).alloc (Nat.le_refl _) _
    have m0 : (w2.alloc (.map #[] 0)).ownsMap Try.prog 9 (plainElem (H := Unit) Try.prog 3) w2.heap.size 0 (ownD Unit N 0) := World.ownsMap_made _ _ _ _
    have t0 : PTab w1.heap.size (w2.alloc (.map #[] 0)) (.pointer (some ⟨w1.heap.size, 0, none⟩)) (waitL 0) w1.heap.size (.slice none 0 0) := T2.out.kept km
    have M0 := Lib.hid m0
    have T0 := Lib.hid t0
    have KM := Lib.hid (km.mono B2)
    clear km m0 t0
    obtain ⟨mb, hmb⟩ : ∃ mb, mb = w2.heap.size := ⟨_, rfl⟩
    rw [← hmb] at M0 ⊢
    have HMB := Lib.hid hmb
    clear hmb
    go_loopw [8] (fun s8 wr => ∃ k : Nat, k ≤ N ∧ s8 = .int .i64 k ∧ (∃ v, PTab w1.heap.size wr (.pointer (some ⟨w1.heap.size, 0, none⟩)) (waitL k) w1.heap.size v) ∧ wr.ownsMap Try.prog 9 (plainElem (H := Unit) Try.prog 3) mb k (ownD Unit N k) ∧ Below w1.heap.size w2 wr) (fun s8 _ => N - (intOf s8).toNat)
    case atStart => exact ⟨0, by omega, rfl, ⟨_, T0.out⟩, M0.out, KM.out⟩
    case round =>
      obtain ⟨k, hk, rfl, ⟨v, hP⟩, hM, hB⟩ := hrel
      have HP := Lib.hid hP
      have HM := Lib.hid hM
      have HB := Lib.hid hB
      have BR : w1.heap.size ≤ wr.heap.size := Nat.le_trans B2 hB.size
      clear hP hM hB hmm
      by_cases hlt : k < N
      · have C1 := sched_Start_lt w1.heap.size wr _ _ _ v HP.out BR (by rw [waitL_len]; omega)
        have hkey := keyOf_string_mk (P := Try.prog) (k := 9) Try.underlying9 (s := cls k) (by rw [cls_size (by omega)]; unfold maxLen; omega)
        have HKEY := Lib.hid hkey
        clear hkey
        go_wp2_with fail
        refine C1.mono ?_
        rintro e w3 ⟨rfl, v3, hP3, hT3, -⟩
        have hB3 := HP.out.below hT3 BR
        have HM3 := Lib.hid (ownsMap_touch HM.out hT3 (ownsMap_foot HP.out HM.out))
        have HP3 := Lib.hid hP3
        have HB3 := Lib.hid (Below.trans HB.out hB3)
        have BR3 : w1.heap.size ≤ w3.heap.size := Nat.le_trans BR hB3.size
        clear C1 hP3 hT3 hB3
        go_wp2_with fail
        refine (law18_class k _ (by omega)).mono ?_
        rintro e w3' ⟨rfl, rfl⟩
        go_wp2_with fail
        refine (sched_Block w1.heap.size w3 _ _ _ v3 k (cls k) HP3.out BR3 (by simp [waitL_len]; omega)).mono ?_
        rintro e w4 ⟨rfl, hP4, hT4⟩
        have hs := waitL_snoc k (by omega)
        rw [hs.1] at hP4
        rw [hs.2]
        have hB4 := HP3.out.below hT4 BR3
        have HM4 := Lib.hid (ownsMap_touch HM3.out hT4 (ownsMap_foot HP3.out HM3.out))
        have HP4 := Lib.hid hP4
        have HB4 := Lib.hid (Below.trans HB3.out hB4)
        clear hs hP4 hT4 hB4
        go_wp2_with fail
        have hN0 : ¬ N = 0 := by omega
        have hw1 : IntKind.i64.wrap ((k : Int) + 1) = (k : Int) + 1 := IntWalk.i64_in _ (by omega)
        obtain ⟨q, hq⟩ : ∃ q, q = (k + 1) % N := ⟨_, rfl⟩
        have hkN : ((k : Int) + 1).tmod (N : Int) = (q : Int) := by rw [Int.tmod_eq_emod_of_nonneg (by omega), hq]; simp
        have HQ := Lib.hid hq
        clear hq
        refine wp_region_still_tail 7 (by kernel_rfl) (by kernel_rfl) ?_
        simp only [List.take_succ_cons, List.take_zero, List.drop_succ_cons, List.drop_zero]
        repeat still_step
        still_call ((law18_class k _ (by omega)).mono fun e w' h => ⟨h.1, h.2.symm⟩)
        repeat still_step
        refine wpStill_nil ?_
        change wpList _ _ _ _ _ w4.drew
        clear hkN hN0 hw1
        have hm4 : w4.drew.ownsMap Try.prog 9 (plainElem (H := Unit) Try.prog 3) mb k (ownD Unit N k) := HM4.out
        have hqb : q ≤ 16 := by have := HQ.out; have := Nat.mod_lt (k + 1) (show 0 < N by omega); omega
        go_wp2_with (at_mapUpdate; refine wpList_mapUpdate_own _ rfl _ _ _ 96 rfl 9 3 lawK Try.underlying96 _ mb k _ rfl hm4 (by unfold maxLen; omega) _ _ _ rfl rfl HKEY.out _ [] (plainElem_int Try.underlying3 (by exact WalkArith.wf_i64 (by omega))) ?_; intro w5 hm5 hg5; have HM5 := Lib.hid hm5; have HG5 := Lib.hid hg5; clear hm5 hg5)
        have hfoot := fun b (hf : foot w1.heap.size v3 b) (e : b = mb) => ownsMap_foot HP4.out HM4.out (e ▸ hf)
        have htg : Touch (fun b => b = mb) w4 w5 := ((Touch.refl (fun b => b = mb) w4).drew).trans (Touch.of_grown (S := fun b => b = mb) HG5.out (fun k hk => by simpa using hk.symm)) fun b hb => .inl hb
        have HP5 := Lib.hid (HP4.out.apart htg hfoot)
        have hb5 : Below w1.heap.size w4 w5 := htg.below (fun b hb => by have := HMB.out; omega) (Nat.le_trans B2 HB4.out.size)
        have HB5 := Lib.hid (Below.trans HB4.out hb5)
        clear hfoot htg hb5
        go_roundw
        case rel => exact ⟨k + 1, by omega, by go_num, ⟨_, HP5.out⟩, by rw [ownD, ← HQ.out]; exact HM5.out, HB5.out⟩
        case measure => simp [intOf]; omega
      · obtain rfl : k = N := by omega
        have hC : C < k := by omega
        have hR := sched_Round w1.heap.size wr _ _ _ v mb k (ownD Unit k k) HP.out (by rw [waitL_len]; omega) (fun x hx => waitL_size (by omega) x hx) HM.out
        rw [ring_full k (by omega) (by omega)] at hR
        have hkey := keyOf_string_mk (P := Try.prog) (k := 9) Try.underlying9 (s := cls C) (by rw [cls_size (by omega)]; unfold maxLen; omega)
        have HKEY := Lib.hid hkey
        have KR := Lib.hid (Below.trans K2.out (HB.out.mono K1.out.size))
        clear hkey
        go_wp2_with fail
        refine hR.mono ?_
        rintro e w3 ⟨rfl, rfl⟩
        clear hR
        have hPk := sched_Pick w1.heap.size wr _ _ _ v C HP.out (by rw [waitL_len]; omega) (by omega) (by omega)
        rw [pick_waits k C (by omega)] at hPk
        go_wp2_with fail
        refine hPk.mono ?_
        rintro e w4 ⟨rfl, k4⟩
        have HM4 := Lib.hid (ownsMap_touch HM.out (Touch.of_kept (S := fun _ => False) k4) id)
        have HP4 := Lib.hid (HP.out.kept k4)
        have KR4 := Lib.hid (Below.trans KR.out (k4.mono KR.out.size))
        have BR4 : w1.heap.size ≤ w4.heap.size := Nat.le_trans BR k4.size
        clear hPk k4
        go_wp2_with fail
        refine (law18_class C _ (by omega)).mono ?_
        rintro e w4' ⟨rfl, rfl⟩
        go_wp2_with (at_delete; refine wpList_delete_own _ rfl _ _ 96 9 rfl 3 lawK Try.underlying96 _ mb k _ rfl HM4.out _ _ rfl HKEY.out ?_; intro w5 hm5 hg5; have HM5 := Lib.hid hm5; have HG5 := Lib.hid hg5.grown; clear hm5 hg5)
        have ht5 : Touch (fun b => b = mb) w4 w5 := Touch.of_grown (S := fun b => b = mb) HG5.out (fun k hk => by simpa using hk.symm)
        have HP5 := Lib.hid (HP4.out.apart ht5 (fun b hf e => ownsMap_foot HP4.out HM4.out (e ▸ hf)))
        have hb5 : Below w1.heap.size w4 w5 := ht5.below (fun b hb => by have := HMB.out; omega) BR4
        have KR5 := Lib.hid (Below.trans KR4.out (hb5.mono K1.out.size))
        have BR5 : w1.heap.size ≤ w5.heap.size := Nat.le_trans BR4 hb5.size
        clear ht5 hb5
        have hR := sched_Round w1.heap.size w5 _ _ _ v mb k _ HP5.out (by rw [waitL_len]; omega) (fun x hx => waitL_size (by omega) x hx) HM5.out
        rw [ring_cut k C (by omega) hC] at hR
        go_wp2_with fail
        refine hR.mono ?_
        rintro e w6 ⟨rfl, rfl⟩
        clear hR
        go_wp2_with fail
        have hN0 : ¬ k = 0 := by omega
        have hw1 : IntKind.i64.wrap ((C : Int) + 1) = (C : Int) + 1 := IntWalk.i64_in _ (by omega)
        obtain ⟨q, hq⟩ : ∃ q, q = (C + 1) % k := ⟨_, rfl⟩
        have hkN : ((C : Int) + 1).tmod (k : Int) = (q : Int) := by rw [Int.tmod_eq_emod_of_nonneg (by omega), hq]; simp
        have hqb : q ≤ 16 := by have := Nat.mod_lt (C + 1) (show 0 < k by omega); omega
        clear hq
        refine wp_region_still_tail 7 (by kernel_rfl) (by kernel_rfl) ?_
        simp only [List.take_succ_cons, List.take_zero, List.drop_succ_cons, List.drop_zero]
        repeat still_step
        still_call ((law18_class C _ (by omega)).mono fun e w' h => ⟨h.1, h.2.symm⟩)
        repeat still_step
        refine wpStill_nil ?_
        change wpList _ _ _ _ _ w5.drew
        clear hkN hN0 hw1
        have hm5 : w5.drew.ownsMap Try.prog 9 (plainElem (H := Unit) Try.prog 3) mb k ((ownD Unit k k).del (.string (cls C).data.toList)) := HM5.out
        go_wp2_with (at_mapUpdate; refine wpList_mapUpdate_own _ rfl _ _ _ 96 rfl 9 3 lawK Try.underlying96 _ mb k _ rfl hm5 (by unfold maxLen; omega) _ _ _ rfl rfl HKEY.out _ [] (plainElem_int Try.underlying3 (by exact WalkArith.wf_i64 (by omega))) ?_; intro w6 hm6 hg6; have HM6 := Lib.hid hm6; have HG6 := Lib.hid hg6; clear hm6 hg6)
        have ht6 : Touch (fun b => b = mb) w5 w6 := ((Touch.refl (fun b => b = mb) w5).drew).trans (Touch.of_grown (S := fun b => b = mb) HG6.out (fun k hk => by simpa using hk.symm)) fun b hb => .inl hb
        have HP6 := Lib.hid (HP5.out.apart ht6 (fun b hf e => ownsMap_foot HP5.out HM5.out (e ▸ hf)))
        have hb6 : Below w1.heap.size w5 w6 := ht6.below (fun b hb => by have := HMB.out; omega) BR5
        have KR6 := Lib.hid (Below.trans KR5.out (hb6.mono K1.out.size))
        have BR6 : w1.heap.size ≤ w6.heap.size := Nat.le_trans BR5 hb6.size
        clear ht6 hb6
        refine (sched_Wake w1.heap.size w6 _ _ _ v C HP6.out BR6 (by rw [waitL_len]; omega)).mono ?_
        rintro e w7 ⟨rfl, hP7, hT7⟩
        rw [wokenL_turn k C hC] at hP7
        have hb7 := HP6.out.below hT7 BR6
        have HM7 := Lib.hid (ownsMap_touch HM6.out hT7 (ownsMap_foot HP6.out HM6.out))
        have HP7 := Lib.hid hP7
        have KR7 := Lib.hid (Below.trans KR6.out (hb7.mono K1.out.size))
        clear hP7 hT7 hb7
        have hR := sched_Round w1.heap.size w7 _ _ _ v mb (k + 1) _ HP7.out (by rw [wokenL_len]; omega) (fun x hx => woken_size (by omega) x hx) HM7.out
        rw [ring_woken k C (by omega) hC] at hR
        go_wp2_with fail
        refine hR.mono ?_
        rintro e w8 ⟨rfl, rfl⟩
        clear hR
        have hPk := sched_Pick w1.heap.size w7 _ _ _ v 5 HP7.out (by rw [wokenL_len]; omega) (by omega) (by omega)
        rw [pick_woken k C hC] at hPk
        go_wp2_with fail
        refine hPk.mono ?_
        rintro e w9 ⟨rfl, k9⟩
        have KR9 := Lib.hid (Below.trans KR7.out (k9.mono KR7.out.size))
        clear hPk k9
        go_wp2_with fail
        go_ret
        exact ⟨rfl, KR9.out⟩
  · rcases (by omega : n < 2 ∨ (2 ≤ n ∧ 16 < n) ∨ (2 ≤ n ∧ n ≤ 16 ∧ cut < 0) ∨ (2 ≤ n ∧ n ≤ 16 ∧ 0 ≤ cut ∧ n ≤ cut)) with h | ⟨h0, h⟩ | ⟨h0, h1, h⟩ | ⟨h0, h1, h2, h⟩
    all_goals
      clear hr
      go_enter Try.func11, Try.ntmps11
      go_wp2_with (go_at_call 30; ((with_reducible refine (alive18 _).mono ?_); rintro e w1 ⟨rfl, k1⟩))
      go_ret
      exact ⟨rfl, k1⟩
end Go.Proofs.Ytgophanpnaenkaa
