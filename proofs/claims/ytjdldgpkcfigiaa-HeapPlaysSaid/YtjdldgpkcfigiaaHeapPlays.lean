/-
  Chapter 15's law HeapPlays, walked.
-/
import Derived.Test.YtjdldgpkcfigiaaHeapInv
import Derived.Test.YtjdldgpkcfigiaaHeapOpen
import Derived.Deep.CutBlock
import Derived.Deep.RegionHeld2
namespace Go.Proofs.Ytjdldgpkcfigiaa
open Go.RowKit
set_option maxRecDepth 100000

theorem oph_cell {w : World} {l : List OpH} {v : Value} {n : Nat} (hn : n = l.length) (h : Rd w 7 v n (l.flatMap encOpH)) {k : Nat} {y : OpH} (hy : l[k]? = some y) :
    ∃ b off c, v = .slice (some ⟨b, off, none⟩) n c ∧ c ≤ 9223372036854775807 ∧ ∀ f u, f < 7 → (encOpH y)[f]? = some u → w.cell? ⟨b, off + k * 7 + f, none⟩ = some u := by
  have hk := (List.getElem?_eq_some_iff.1 hy).1
  rcases h.parts with ⟨h0, _⟩ | ⟨b, off, c, rfl, h0, h1, h2, hc⟩
  · omega
  · exact ⟨b, off, c, rfl, by simpa using h2, fun f u hf hu => by rw [Nat.add_assoc]; exact hc _ _ (by rw [flat_get encOpH 7 (fun _ => rfl) l k f y hy hf]; exact hu)⟩

set_option maxHeartbeats 8000000 in
theorem walk_HeapPlays (most : Int) (l : List OpH) (v : Value) (w : World) (_ : (Lit.int .i64 most).wf = true) (h : Rd w 7 v l.length (l.flatMap encOpH)) (hok : ∀ y ∈ l, OpH.Ok w y) (hlen : l.length ≤ 140737488351232) :
    Calls Try.prog 5 #[.int .i64 most, v] w fun e w' => e = .returned (.bool true) ∧ Below w.heap.size w w' := by
  obtain ⟨N, hN⟩ : ∃ N, N = l.length := ⟨_, rfl⟩
  rw [← hN] at h hlen
  have H := Lib.hid h
  have HOK := Lib.hid hok
  have HN := Lib.hid hN
  obtain ⟨_, va, vc, rfl, hv1, hv2, _⟩ := h
  clear hok hN
  go_enter Try.func5, Try.ntmps5
  go_wp2_with fail
  refine (alive15 _).mono ?_
  rintro e w1 ⟨rfl, k1⟩
  have K1 := Lib.hid k1
  clear k1
  go_wp2_with fail
  go_loopw [6, 7] (fun s6 s7 wr => ∃ (k : Nat) (n : Int), k ≤ N ∧ s6 = .int .i64 n ∧ s7 = .int .i64 k ∧ 0 ≤ n ∧ n ≤ 140737488381300 ∧ (∀ y ∈ l.take k, (y.sl.length : Int) ≤ n) ∧ w1 = wr) (fun _ s7 _ => N - (intOf s7).toNat)
  case atStart => exact ⟨0, 0, by omega, rfl, rfl, by omega, by omega, by simp, rfl⟩
  case round =>
    obtain ⟨k, n, hk, rfl, rfl, hn0, hn1, hall, rfl⟩ := hrel
    have HALL := Lib.hid hall
    clear hall
    by_cases hlt : k < N
    · by_cases hbig : n ≤ 30000
      · obtain ⟨y, hy⟩ : ∃ y, l[k]? = some y := ⟨_, List.getElem?_eq_getElem (by have := HN.out; omega)⟩
        obtain ⟨b, off, c, hv, -, hc⟩ := oph_cell HN.out H.out hy
        simp only [Value.slice.injEq] at hv
        obtain ⟨rfl, -, rfl⟩ := hv
        have z4 := K1.out.cell (hc 4 _ (by omega) rfl)
        have hylen := (HOK.out y (List.mem_of_getElem? hy)).len
        obtain ⟨_, sa, sc, hsv, hs1, hs2, _⟩ := (HOK.out y (List.mem_of_getElem? hy)).rd
        rw [hsv] at z4
        have HY := Lib.hid hy
        have hw1 : IntKind.i64.wrap (n + 1) = n + 1 := IntWalk.i64_in _ (by omega)
        have hw2 : IntKind.i64.wrap (n + 1 + (y.sl.length : Int)) = n + 1 + (y.sl.length : Int) := IntWalk.i64_in _ (by omega)
        clear hc hy hsv
        go_wp2_with fail
        go_roundw
        case rel => 
          refine ⟨k + 1, n + 1 + y.sl.length, by omega, rfl, by go_num, by omega, by omega, ?_, by trivial⟩
          intro z hz
          rw [List.take_add_one, HY.out] at hz
          rcases List.mem_append.1 hz with hz | hz
          · have := HALL.out z hz
            omega
          · obtain rfl : z = y := by simpa using hz
            omega
        case measure => simp [intOf]; omega
      · go_wp2_with fail
        go_ret
        exact ⟨rfl, K1.out⟩
    · obtain rfl : k = N := by omega
      by_cases hbig : n ≤ 30000
      · have hallN : ∀ y ∈ l, y.sl.length ≤ 30000 := fun y hy => by
          have := HALL.out y (by rw [HN.out, List.take_length]; exact hy)
          omega
        have HALN := Lib.hid hallN
        clear hallN
        by_cases h300 : 300 < k
        · go_wp2_with fail
          go_ret
          exact ⟨rfl, K1.out⟩
        · by_cases hm : 0 ≤ most ∧ most ≤ 1000
          · obtain ⟨hm0, hm1⟩ := hm
            go_wp2_with fail
            refine (heap_New _ _ hm0 hm1).mono ?_
            rintro e w2 ⟨g, r, u, b, rfl, hP, k2⟩
            have HP := Lib.hid hP
            have K2 := Lib.hid k2
            clear hP k2
            go_wp2_with fail
            refine (law15_num _ _).mono ?_
            rintro e w2' ⟨rfl, rfl⟩
            go_wp2_with fail
            refine (ref_New _ _).mono ?_
            rintro e w3 ⟨p2, g2, u2, rfl, hR, k3⟩
            obtain rfl := hR.ptr
            have T0 := Lib.hid (two_new hm0 hm1 HP.out K2.out hR k3)
            have K3 := Lib.hid (show Below w1.heap.size w1 w3 from Kept.trans K2.out k3)
            have KW := Lib.hid (Kept.trans K1.out (Kept.trans K2.out k3))
            have z12 := K2.out.size
            have K23 := Lib.hid k3
            clear hR k3 HP
            go_wp2_with fail
            go_loopw [11] (fun s11 wr => ∃ (j : Nat) (its : List It) (obs : List Ob) (u u2 : Value), j ≤ k ∧ s11 = .int .i64 j ∧ Two w1.heap.size w2.heap.size wr most its obs g r u g2 u2 ∧ Below w1.heap.size w3 wr) (fun s11 _ => k - (intOf s11).toNat)
            case atStart => exact ⟨0, _, _, _, _, by omega, rfl, T0.out, Below.refl _ _⟩
            case round =>
              obtain ⟨j, its, obs, u, u2, hj, rfl, hT, hB⟩ := hrel
              have HT := Lib.hid hT
              have HB := Lib.hid hB
              have KR := Lib.hid (Below.trans KW.out (hB.mono K1.out.size))
              have zr : w1.heap.size ≤ wr.heap.size := Nat.le_trans K3.out.size hB.size
              clear hT hB
              by_cases hlt2 : j < k
              · obtain ⟨y, hy⟩ : ∃ y, l[j]? = some y := ⟨_, List.getElem?_eq_getElem (by have := HN.out; omega)⟩
                obtain ⟨b, off, c, hv, -, hc⟩ := oph_cell HN.out H.out hy
                simp only [Value.slice.injEq] at hv
                obtain ⟨rfl, -, rfl⟩ := hv
                have z0 : wr.cell? ⟨b, off + j * 7, none⟩ = some (.int .i64 y.kind) := Kept.cell KR.out (hc 0 _ (by omega) rfl)
                have z1 := Kept.cell KR.out (hc 1 _ (by omega) rfl)
                have z2 := Kept.cell KR.out (hc 2 _ (by omega) rfl)
                have z3 := Kept.cell KR.out (hc 3 _ (by omega) rfl)
                have z4 := Kept.cell KR.out (hc 4 _ (by omega) rfl)
                have z5 := Kept.cell KR.out (hc 5 _ (by omega) rfl)
                have z6 := Kept.cell KR.out (hc 6 _ (by omega) rfl)
                have hylen := HALN.out y (List.mem_of_getElem? hy)
                have HRD := Lib.hid ((HOK.out y (List.mem_of_getElem? hy)).rd)
                obtain ⟨_, sa, sc, hsv, hs1, hs2, _⟩ := (HOK.out y (List.mem_of_getElem? hy)).rd
                rw [hsv] at z4
                have HSV := Lib.hid hsv
                clear hc hy hsv
                rcases (by omega : y.kind.tmod 3 = 1 ∨ y.kind.tmod 3 = 2 ∨ (y.kind.tmod 3 ≠ 1 ∧ y.kind.tmod 3 ≠ 2)) with hkd | hkd | ⟨hk1, hk2⟩
                · go_wp2_with fail
                  have kA : Kept wr (wr.alloc (.cells #[.int .i64 y.kind, .int .i64 y.id, .int .i64 y.at_, .string y.cls, .slice sa y.sl.length sc, .bool y.v.ref, .int .i64 y.v.n] 59)) := (Below.refl _ _).alloc (Nat.le_refl _) _
                  have bA : Blk (wr.alloc (.cells #[.int .i64 y.kind, .int .i64 y.id, .int .i64 y.at_, .string y.cls, .slice sa y.sl.length sc, .bool y.v.ref, .int .i64 y.v.n] 59)) wr.heap.size 59 #[.int .i64 y.kind, .int .i64 y.id, .int .i64 y.at_, .string y.cls, .slice sa y.sl.length sc, .bool y.v.ref, .int .i64 y.v.n] := Blk.new _ _ _
                  generalize (wr.alloc (.cells #[.int .i64 y.kind, .int .i64 y.id, .int .i64 y.at_, .string y.cls, .slice sa y.sl.length sc, .bool y.v.ref, .int .i64 y.v.n] 59)) = wa at *
                  have TA := Lib.hid (HT.out.kept kA)
                  have BA := Lib.hid (Below.trans HB.out (kA.mono zr))
                  have zA : w1.heap.size ≤ wa.heap.size := Nat.le_trans zr kA.size
                  clear kA z0 z1 z2 z3 z4 z5 z6
                  have FT : ∀ b, footH g r u its b ∨ footR g2 u2 obs b → b < wr.heap.size := fun b hb => (HT.out.foot_ge b hb).2
                  have zro : wr.heap.size < wa.heap.size := bA.lt
                  have HFT := Lib.hid FT
                  have zz2 : w2.heap.size ≤ w3.heap.size := K23.out.size
                  clear FT
                  generalize hro : wr.heap.size = ro at *
                  refine (heap_Get _ _ _ _ _ _ _ _ y.id y.at_ TA.out.hp TA.out.small).mono ?_
                  rintro e w4 ⟨rfl, k4⟩
                  have C2 := ref_Get_all _ _ _ _ _ _ _ _ y.id y.at_ ((TA.out.kept k4).kept ((Below.refl _ _).alloc (Nat.le_refl _) (.cells #[.bool (slotV its y.id y.at_).ref, .int .i64 (slotV its y.id y.at_).n] 57))).rh (by rw [TA.out.len]; exact TA.out.small) TA.out.same
                  generalize slotV its y.id y.at_ = V at *
                  generalize slotE its y.id y.at_ = E at *
                  have k5 : Kept w4 (w4.alloc (.cells #[.bool V.ref, .int .i64 V.n] 57)) := (Below.refl _ _).alloc (Nat.le_refl _) _
                  have b5 : Blk (w4.alloc (.cells #[.bool V.ref, .int .i64 V.n] 57)) w4.heap.size 57 #[.bool V.ref, .int .i64 V.n] := Blk.new _ _ _
                  have T5 := Lib.hid ((TA.out.kept k4).kept k5)
                  have B5 := Lib.hid (Below.trans BA.out ((Kept.trans k4 k5).mono zA))
                  have HC2 := Lib.hid C2
                  have bA5 := (bA.kept k4).kept k5
                  have c1 := (bA.kept k4).cell 1
                  have c2 := (bA.kept k4).cell 2
                  simp only [List.getElem?_toArray, List.getElem?_cons_succ, List.getElem?_cons_zero] at c1 c2
                  have HBA := Lib.hid bA5
                  have HB5 := Lib.hid b5
                  have z5 : w1.heap.size ≤ w4.heap.size := Nat.le_trans zA k4.size
                  have hr4 : ro < w4.heap.size := (bA.kept k4).lt
                  clear C2 k4 k5 bA bA5 b5
                  go_wp2_with fail
                  clear c1 c2 hr4
                  generalize (w4.alloc (.cells #[.bool V.ref, .int .i64 V.n] 57)) = w5 at *
                  have z5b : w1.heap.size ≤ w5.heap.size := Nat.le_trans z5 (Nat.le_of_lt HB5.out.lt)
                  generalize w4.heap.size = q4 at *
                  refine HC2.out.mono ?_
                  rintro e w6 ⟨rfl, k6⟩
                  have k7 : Kept w6 (w6.alloc (.cells #[.bool V.ref, .int .i64 V.n] 57)) := (Below.refl _ _).alloc (Nat.le_refl _) _
                  have b7 : Blk (w6.alloc (.cells #[.bool V.ref, .int .i64 V.n] 57)) w6.heap.size 57 #[.bool V.ref, .int .i64 V.n] := Blk.new _ _ _
                  have T7 := Lib.hid ((T5.out.kept k6).kept k7)
                  have B7 := Lib.hid (Below.trans B5.out ((Kept.trans k6 k7).mono z5b))
                  have bA7 := (HBA.out.kept k6).kept k7
                  have b5b := (HB5.out.kept k6).kept k7
                  have c1 := bA7.cell 1
                  have v0 := b5b.cell 0
                  have v1 := b5b.cell 1
                  have x0 := b7.cell 0
                  have x1 := b7.cell 1
                  simp only [List.getElem?_toArray, List.getElem?_cons_succ, List.getElem?_cons_zero] at c1 v0 v1 x0 x1
                  have C1 := Lib.hid (fun n => heap_Class_all _ _ _ _ _ _ _ _ y.id (T7.out.hp.kept (kept_drewN (Below.refl _ _) n)) T7.out.small)
                  have C2 := Lib.hid (fun n => ref_Class_all _ _ _ _ _ _ _ _ y.id (T7.out.rh.kept (kept_drewN (Below.refl _ _) n)) (by rw [T7.out.len]; exact T7.out.small) T7.out.same)
                  clear k6 k7 HBA HB5 HC2 bA7 b5b b7
                  go_upto_region 32 with fail
                  generalize (w6.alloc (.cells #[.bool V.ref, .int .i64 V.n] 57)) = w7 at *
                  generalize w6.heap.size = q6 at *
                  go_quiet ((first
                    | (go_at_call 19; exact quiet_l (law15_num _ _))
                    | (go_at_call 21; exact Calls.quiet_of (C1.out _))
                    | (go_at_call 25; exact Calls.quiet_of (C2.out _))))
                  go_wp2_with fail
                  go_upto_region 38 with fail
                  obtain ⟨W, hW⟩ : ∃ W, W = w7.drewN nq := ⟨_, rfl⟩
                  have T9 := Lib.hid (T7.out.kept (kept_drewN (Below.refl _ _) nq))
                  have B9 := Lib.hid (kept_drewN B7.out nq)
                  rw [← hW] at T9 B9
                  rw [← hW]
                  clear hW c1 v0 v1 x0 x1
                  obtain ⟨ua, uc, hu2, huc1, huc2⟩ := own_slice T9.out.rh.own
                  rw [T9.out.len] at hu2 huc1
                  have gl := T9.out.rh.blk.cell 1
                  simp only [List.getElem?_toArray, List.getElem?_cons_succ, List.getElem?_cons_zero] at gl
                  rw [hu2] at gl
                  have hsm := T9.out.small
                  have hlo := T9.out.lo
                  obtain ⟨q, hq⟩ : ∃ q, q = (its).length := ⟨_, rfl⟩
                  have CQ := fun n => heap_Count _ _ _ _ _ g r _ (T9.out.hp.kept (kept_drewN (Below.refl _ _) n)) T9.out.lo (by omega)
                  rw [← hq] at gl hsm hlo huc1
                  simp only [← hq] at CQ
                  have hwr : IntKind.i64.wrap ((q : Int) - 1) = q - 1 := IntWalk.i64_in _ (by omega)
                  clear hu2 hq
                  have HCQ := Lib.hid CQ
                  clear CQ
                  go_quiet ((go_at_call 20; exact Calls.quiet_of (HCQ.out _)))
                  go_wp2_with fail
                  go_roundw
                  case rel => exact ⟨j + 1, _, _, _, _, by omega, by go_num, T9.out.kept (kept_drewN (Below.refl _ _) nq), kept_drewN B9.out nq⟩
                  case measure => simp [intOf]; omega
                · go_wp2_with fail
                  have kA : Kept wr (wr.alloc (.cells #[.int .i64 y.kind, .int .i64 y.id, .int .i64 y.at_, .string y.cls, .slice sa y.sl.length sc, .bool y.v.ref, .int .i64 y.v.n] 59)) := (Below.refl _ _).alloc (Nat.le_refl _) _
                  have bA : Blk (wr.alloc (.cells #[.int .i64 y.kind, .int .i64 y.id, .int .i64 y.at_, .string y.cls, .slice sa y.sl.length sc, .bool y.v.ref, .int .i64 y.v.n] 59)) wr.heap.size 59 #[.int .i64 y.kind, .int .i64 y.id, .int .i64 y.at_, .string y.cls, .slice sa y.sl.length sc, .bool y.v.ref, .int .i64 y.v.n] := Blk.new _ _ _
                  generalize (wr.alloc (.cells #[.int .i64 y.kind, .int .i64 y.id, .int .i64 y.at_, .string y.cls, .slice sa y.sl.length sc, .bool y.v.ref, .int .i64 y.v.n] 59)) = wa at *
                  have TA := Lib.hid (HT.out.kept kA)
                  have BA := Lib.hid (Below.trans HB.out (kA.mono zr))
                  have zA : w1.heap.size ≤ wa.heap.size := Nat.le_trans zr kA.size
                  clear kA z0 z1 z2 z3 z4 z5 z6
                  have FT : ∀ b, footH g r u its b ∨ footR g2 u2 obs b → b < wr.heap.size := fun b hb => (HT.out.foot_ge b hb).2
                  have zro : wr.heap.size < wa.heap.size := bA.lt
                  have HFT := Lib.hid FT
                  have zz2 : w2.heap.size ≤ w3.heap.size := K23.out.size
                  clear FT
                  generalize hro : wr.heap.size = ro at *
                  have hT4 := fun (w' : World) (ht : Touch (footH g r u its) wa w') => TA.out.rh.apart ht (fun b hb hb' => TA.out.apart b hb' hb)
                  refine (heap_Put _ _ _ _ _ _ _ _ y.id y.at_ y.v TA.out.hp TA.out.small).mono ?_
                  rintro e w4 ⟨rfl, hP4, ht4⟩
                  have hR4 := hT4 w4 ht4
                  have bA4 := bA.touch ht4 (fun hb => by have := HFT.out ro (.inl hb); omega)
                  have HP4 := Lib.hid hP4
                  have HT4 := Lib.hid ht4
                  have HBA := Lib.hid bA4
                  have c1 := bA4.cell 1
                  have c2 := bA4.cell 2
                  have c5 := bA4.cell 5
                  have c6 := bA4.cell 6
                  simp only [List.getElem?_toArray, List.getElem?_cons_succ, List.getElem?_cons_zero] at c1 c2 c5 c6
                  have C2 := Lib.hid (ref_Put_all _ _ _ _ its _ _ _ y.id y.at_ y.v (hR4.kept (Below.refl _ _).drew) (by rw [TA.out.len]; exact TA.out.small) TA.out.same)
                  have B4 := Lib.hid (Below.trans BA.out (ht4.below (fun b hb => (TA.out.foot_ge b (.inl hb)).1) zA))
                  have z4 : w1.heap.size ≤ w4.heap.size := Nat.le_trans zA ht4.size
                  clear hT4 hR4 hP4 ht4 bA bA4
                  generalize putE its y.id y.at_ y.v = E at *
                  go_upto_region 36 with fail
                  go_region_held2 (fun w' => w'.cell? ⟨ro, 1, none⟩ = some (.int .i64 y.id) ∧ w'.cell? ⟨ro, 2, none⟩ = some (.int .i64 y.at_) ∧ w'.cell? ⟨ro, 5, none⟩ = some (.bool y.v.ref) ∧ w'.cell? ⟨ro, 6, none⟩ = some (.int .i64 y.v.n)) (go_keep)
                    (first
                    | (go_at_call 19; refine (law15_num _ _).mono ?_; rintro e wx ⟨rfl, rfl⟩)
                    | (go_at_call 27; refine C2.out.mono ?_; rintro e wb ⟨rfl, obs', q1, q2, q3, q4⟩; have TB := Lib.hid (TA.out.put (HP4.out.kept (Below.refl _ _).drew) q1 q2 q3 q4); have BB := Lib.hid (Below.trans (show Below w1.heap.size w3 w4.drew from B4.out.drew) (q3.below (fun b hb => (TA.out.foot_ge b (.inr hb)).1) z4)); have bB := (HBA.out.kept (Below.refl _ _).drew).touch q3 (fun hb => by have := HFT.out ro (.inr hb); omega); have d1 := bB.cell 1; have d2 := bB.cell 2; have d5 := bB.cell 5; have d6 := bB.cell 6; simp only [List.getElem?_toArray, List.getElem?_cons_succ, List.getElem?_cons_zero] at d1 d2 d5 d6; clear q1 q2 q3 q4 bB))
                  go_wp2_with fail
                  clear d1 d2 d5 d6 c1 c2 c5 c6
                  obtain ⟨ua, uc, hu2, huc1, huc2⟩ := own_slice TB.out.rh.own
                  rw [TB.out.len] at hu2 huc1
                  have gl := TB.out.rh.blk.cell 1
                  simp only [List.getElem?_toArray, List.getElem?_cons_succ, List.getElem?_cons_zero] at gl
                  rw [hu2] at gl
                  have hsm := TB.out.small
                  have hlo := TB.out.lo
                  obtain ⟨q, hq⟩ : ∃ q, q = (putI its y.id y.at_ y.v).length := ⟨_, rfl⟩
                  have CQ := fun n => heap_Count _ _ _ _ _ g r _ (TB.out.hp.kept (kept_drewN (Below.refl _ _) n)) TB.out.lo (by omega)
                  rw [← hq] at gl hsm hlo huc1
                  simp only [← hq] at CQ
                  have hwr : IntKind.i64.wrap ((q : Int) - 1) = q - 1 := IntWalk.i64_in _ (by omega)
                  clear hu2 hq
                  have HCQ := Lib.hid CQ
                  clear CQ
                  go_quiet ((go_at_call 20; exact Calls.quiet_of (HCQ.out _)))
                  go_wp2_with fail
                  go_roundw
                  case rel => exact ⟨j + 1, _, _, _, _, by omega, by go_num, TB.out.kept (kept_drewN (Below.refl _ _) nq), kept_drewN BB.out nq⟩
                  case measure => simp [intOf]; omega
                · have hq1 : (y.kind.tmod 3 == 1) = false := by simpa using hk1
                  have hq2 : (y.kind.tmod 3 == 2) = false := by simpa using hk2
                  have hrs := HRD.out
                  rw [HSV.out] at hrs
                  have HRQ := Lib.hid hrs
                  clear hk1 hk2 hrs
                  go_upto_region 20 with fail
                  have kA : Kept wr (wr.alloc (.cells #[.int .i64 y.kind, .int .i64 y.id, .int .i64 y.at_, .string y.cls, .slice sa y.sl.length sc, .bool y.v.ref, .int .i64 y.v.n] 59)) := (Below.refl _ _).alloc (Nat.le_refl _) _
                  have bA : Blk (wr.alloc (.cells #[.int .i64 y.kind, .int .i64 y.id, .int .i64 y.at_, .string y.cls, .slice sa y.sl.length sc, .bool y.v.ref, .int .i64 y.v.n] 59)) wr.heap.size 59 #[.int .i64 y.kind, .int .i64 y.id, .int .i64 y.at_, .string y.cls, .slice sa y.sl.length sc, .bool y.v.ref, .int .i64 y.v.n] := Blk.new _ _ _
                  generalize (wr.alloc (.cells #[.int .i64 y.kind, .int .i64 y.id, .int .i64 y.at_, .string y.cls, .slice sa y.sl.length sc, .bool y.v.ref, .int .i64 y.v.n] 59)) = wa at *
                  have TA := Lib.hid (HT.out.kept kA)
                  have BA := Lib.hid (Below.trans HB.out (kA.mono zr))
                  have zA : w1.heap.size ≤ wa.heap.size := Nat.le_trans zr kA.size
                  clear kA z0 z1 z2 z3 z4 z5 z6
                  have FT : ∀ b, footH g r u its b ∨ footR g2 u2 obs b → b < wr.heap.size := fun b hb => (HT.out.foot_ge b hb).2
                  have zro : wr.heap.size < wa.heap.size := bA.lt
                  have HFT := Lib.hid FT
                  have zz2 : w2.heap.size ≤ w3.heap.size := K23.out.size
                  clear FT
                  generalize hro : wr.heap.size = ro at *
                  have c4 := bA.cell 4
                  simp only [List.getElem?_toArray, List.getElem?_cons_succ, List.getElem?_cons_zero] at c4
                  have HBA := Lib.hid bA
                  have HRA := Lib.hid (HRQ.out.kept (Below.trans KW.out (BA.out.mono K1.out.size)))
                  clear bA
                  go_wp2_with (first
                    | (at_builtin; refine wpl_append _ elem_val rfl (.const (.slice none 0 0)) (.tmp 97) rfl wa.heap.size _ 0 [] rfl (World.ownsRow_nil _ _ _ _) _ y.sl.length _ rfl HRA.out (vals_one _) (by omega) (by omega) (Nat.le_refl _) ?_; intro v4 w4 ho4 hg4; rw [Nat.zero_add, List.nil_append] at ho4; have k4 : Kept wa w4 := (Below.refl _ _).grown hg4 (Nat.le_refl _) (fun k hk => by cases hk); have HO4 := Lib.hid ho4; have K4 := Lib.hid k4; have z4 := k4.size; clear ho4 hg4 k4)
                    | (at_builtin; refine wpl_pushH _ elem_val rfl (.tmp 98) (.tmp 100) rfl wa.heap.size v4 y.sl.length _ rfl HO4.out [.bool false, .int .i64 (-71)] _ w4.heap.size rfl rfl rfl (fun u hu => by simp at hu; rcases hu with rfl | rfl <;> rfl) (by omega) (by omega) z4 ?_; intro v5 w5 ho5 hg5 hk5 hb5; have HO5 := Lib.hid ho5; have K5 := Lib.hid hb5; clear ho5 hg5 hk5 hb5))
                  obtain ⟨q, hq⟩ : ∃ q, q = y.sl.length + 1 := ⟨_, rfl⟩
                  have ho5 := HO5.out
                  rw [← hq] at ho5
                  have hql : y.sl.length < q := by omega
                  have hqI : (y.sl.length : Int) < (q : Int) := by omega
                  have hq30 : (q : Int) ≤ 30001 := by omega
                  have HQ := Lib.hid hq
                  clear hq HO5
                  obtain ⟨gs, cs, rfl, hcs, hcs2, hgs, hgs2, hcell, -⟩ := own_form ho5 (by omega)
                  have HO5 := Lib.hid ho5
                  have hcI : (y.sl.length : Int) ≤ (cs : Int) := by omega
                  have h0I : (0 : Int) ≤ (y.sl.length : Int) := by omega
                  clear ho5
                  have k5 : Kept wa w5 := Below.trans K4.out K5.out
                  have T5 := Lib.hid ((TA.out.kept k5).kept (Below.refl _ _).drew)
                  have B5 := Lib.hid (Below.trans BA.out ((Kept.trans k5 (Below.refl _ _).drew).mono zA))
                  have bA5 := (HBA.out.kept k5).kept (Below.refl _ _).drew
                  have z5 : w1.heap.size ≤ w5.heap.size := Nat.le_trans zA k5.size
                  have hrs : Rd w5.drew 2 (.slice (some ⟨gs, 0, none⟩) y.sl.length cs) y.sl.length (y.sl.flatMap encVal) := by
                    have hq : Rd w5.drew 2 (.slice (some ⟨gs, 0, none⟩) y.sl.length cs) y.sl.length (y.sl.flatMap encVal) := Rd.mk_ (flat_length encVal 2 (fun _ => rfl) _) (by omega) hcs2 (fun q x hq => by
                      rw [Nat.zero_add]
                      exact hcell q x (by rw [List.getElem?_append_left (List.getElem?_eq_some_iff.1 hq).1]; exact hq))
                    exact hq
                  have C1 := heap_Make_all _ _ _ _ _ _ _ _ y.cls _ cs y.sl T5.out.hp hrs (by omega) hcs2 T5.out.lo T5.out.small z5
                  have c3 := (HBA.out.kept k5).cell 3
                  have c4 := (HBA.out.kept k5).cell 4
                  simp only [List.getElem?_toArray, List.getElem?_cons_succ, List.getElem?_cons_zero] at c3 c4
                  have HBA5 := Lib.hid bA5
                  have HC1 := Lib.hid C1
                  have zg : wa.heap.size ≤ gs := hgs
                  clear C1 hrs k5 bA5 hcell hgs
                  go_region_held2 (fun w' => w'.cell? ⟨ro, 3, none⟩ = some (.string y.cls) ∧ w'.cell? ⟨ro, 4, none⟩ = some (.slice sa y.sl.length sc)) (go_keep)
                    ((go_at_call 18; refine HC1.out.mono ?_; rintro e w6 ⟨rfl, its', u', q1, q2, q3, q4⟩; have Q1 := Lib.hid q1; have Q2 := Lib.hid q2; have Q3 := Lib.hid q3; have Q4 := Lib.hid q4; have b6 := HBA5.out.touch q3 (fun hb => by have := HFT.out ro (.inl hb); omega); have d3 := b6.cell 3; have d4 := b6.cell 4; simp only [List.getElem?_toArray, List.getElem?_cons_succ, List.getElem?_cons_zero] at d3 d4; have HB6 := Lib.hid b6; clear q1 q2 q3 q4 b6))
                  have B6 := Lib.hid (Below.trans B5.out (Q3.out.below (fun b hb => (TA.out.foot_ge b (.inl hb)).1) z5))
                  have z6 : w1.heap.size ≤ w6.heap.size := Nat.le_trans z5 Q3.out.size
                  have z6' : w2.heap.size ≤ w6.heap.size := Nat.le_trans zz2 B6.out.size
                  have C2 := ref_Make_all _ w6 _ _ _ _ _ y.cls sa sc y.sl (T5.out.rh.apart Q3.out (fun b hb hb' => T5.out.apart b hb' hb)) (HRQ.out.kept (Below.trans KW.out (B6.out.mono K1.out.size))) (by rw [T5.out.len]; exact T5.out.small) z6'
                  rw [T5.out.len] at C2
                  generalize hmn : mkN most its.length y.sl.length = A at *
                  generalize hme : mkE most its.length y.sl.length = E at *
                  have HC2 := Lib.hid C2
                  clear C2 hmn hme c3 c4
                  go_wp2_with fail
                  refine HC2.out.mono ?_
                  rintro e w7 ⟨rfl, obs', u2', q1, q2, q3, q4⟩
                  have T7 := Lib.hid (T5.out.make Q2.out Q1.out Q4.out q2 q1 q3 q4)
                  have B7 := Lib.hid (Below.trans B6.out (q3.below (fun b hb => (TA.out.foot_ge b (.inr hb)).1) z6))
                  have hfree : ∀ b, footH g r u' its' b ∨ footR g2 u2' obs' b → b ≠ gs := by
                    intro b hb e
                    subst e
                    rcases hb with hb | hb
                    · rcases Q4.out b hb with h7 | h7
                      · have := HFT.out b (.inl h7)
                        omega
                      · have h8 : w5.heap.size ≤ b := h7
                        omega
                    · rcases q4 b hb with h7 | h7
                      · have := HFT.out b (.inr h7)
                        omega
                      · have := Nat.le_trans Q3.out.size h7
                        have h8 : w5.heap.size ≤ b := this
                        omega
                  have b7 := HB6.out.touch q3 (fun hb => by have := HFT.out ro (.inr hb); omega)
                  have o7 := Touch.own q3 (Touch.own Q3.out (Touch.own (S := fun _ => False) (Touch.of_kept (Below.refl _ _).drew) HO5.out (fun _ _ => id)) (fun b hb hb' => by have e : gs = b := (by simpa [Value.ownBlock] using hb); have := HFT.out b (.inl hb'); omega)) (fun b hb hb' => by have e : gs = b := (by simpa [Value.ownBlock] using hb); have := HFT.out b (.inr hb'); omega)
                  obtain ⟨gs', cs', hv, -, -, -, -, hcell, -⟩ := own_form o7 (by omega)
                  simp only [Value.slice.injEq, Option.some.injEq, Addr.mk.injEq] at hv
                  obtain ⟨⟨rfl, -, -⟩, -, rfl⟩ := hv
                  have s0 := hcell (y.sl.length * 2) (.bool false) (by rw [List.getElem?_append_right (by rw [flat_length encVal 2 (fun _ => rfl)]; omega), flat_length encVal 2 (fun _ => rfl), Nat.sub_self]; rfl)
                  have s1 := hcell (y.sl.length * 2 + 1) (.int .i64 (-71)) (by rw [List.getElem?_append_right (by rw [flat_length encVal 2 (fun _ => rfl)]; omega), flat_length encVal 2 (fun _ => rfl), Nat.add_sub_cancel_left]; rfl)
                  have d4 := b7.cell 4
                  simp only [List.getElem?_toArray, List.getElem?_cons_succ, List.getElem?_cons_zero] at d4
                  have HO7 := Lib.hid o7
                  have HFR := Lib.hid hfree
                  have q37 := q3.size
                  clear q1 q2 q3 q4 b7 o7 hcell hfree d3
                  go_wp2_with (go_at_call 19; refine (law15_num _ _).mono ?_; rintro e wx ⟨rfl, rfl⟩)
                  clear s0 s1 d4
                  have o7' := HO7.out
                  have el : y.sl.flatMap encVal ++ [.bool false, .int .i64 (-71)] = (y.sl ++ [(⟨false, -71⟩ : ValV)]).flatMap encVal := by simp [encVal]
                  rw [el] at o7'
                  have HO8 := Lib.hid o7'
                  have HL8 : Hid ((y.sl ++ [(⟨false, -71⟩ : ValV)]).length = q) := Lib.hid (by rw [HQ.out]; simp)
                  generalize (y.sl ++ [(⟨false, -71⟩ : ValV)]) = l0 at *
                  clear o7' el HO7
                  go_loopw [23] (fun s23 wy => ∃ (i : Nat) (l' : List ValV), i ≤ q ∧ s23 = .int .i64 i ∧ l'.length = q ∧ wy.ownsRow wa.heap.size 57 2 (.slice (some ⟨gs, 0, none⟩) q cs) q (l'.flatMap encVal) ∧ Touch (fun b => b = gs) w7 wy) (fun s23 _ => q - (intOf s23).toNat)
                  case atStart => exact ⟨0, _, by omega, rfl, HL8.out, HO8.out, Touch.refl _ _⟩
                  case round =>
                    obtain ⟨i, l', hi, rfl, hl', hO, hT⟩ := hrel
                    by_cases hiq : i < q
                    · obtain ⟨r0, c', hv, _, _, _, _, hcell, hfz⟩ := own_form hO (by omega)
                      simp only [Value.slice.injEq, Option.some.injEq, Addr.mk.injEq] at hv
                      obtain ⟨⟨rfl, -, -⟩, -, rfl⟩ := hv
                      have hxl := hO.1
                      obtain ⟨xb, hxb⟩ : ∃ xb, l'[i]? = some xb := ⟨_, List.getElem?_eq_getElem (by omega)⟩
                      have z0 := hcell (i * 2) (.bool xb.ref) (flat_get encVal 2 (fun _ => rfl) l' i 0 xb hxb (by omega))
                      have z1 := hcell (i * 2 + 1) (.int .i64 xb.n) (flat_get encVal 2 (fun _ => rfl) l' i 1 xb hxb (by omega))
                      have f0 := hfz (i * 2)
                      have f1 := hfz (i * 2 + 1)
                      have HO := Lib.hid hO
                      have HT := Lib.hid hT
                      have HL := Lib.hid hl'
                      clear hO hT hl' hcell hfz hxl hxb
                      go_wp2_with fail
                      go_roundw
                      case rel =>
                        refine ⟨i + 1, l'.set i ⟨!xb.ref, -5⟩, by omega, by go_num, by simpa using HL.out, ?_, ?_⟩
                        · have := own_store (own_store HO.out (i * 2) (.bool !xb.ref)) (i * 2 + 1) (.int .i64 (-5))
                          rw [vals_set l' ⟨!xb.ref, -5⟩ i (by have := HL.out; omega)] at this
                          exact this
                        · exact (HT.out.setCell (p := ⟨gs, i * 2, none⟩) (.inl rfl) _).setCell (p := ⟨gs, i * 2 + 1, none⟩) (.inl rfl) _
                      case measure => simp [intOf]; omega
                    · obtain rfl : i = q := by omega
                      have T9 := Lib.hid (T7.out.far hT (fun b hb => HFR.out b (.inl hb)) (fun b hb => HFR.out b (.inr hb)))
                      have zw : wa.heap.size ≤ gs := zg
                      have B9 := Lib.hid (Below.trans B7.out (hT.below (fun b hb => by have : b = gs := hb; omega) (Nat.le_trans z6 q37)))
                      clear hO hT hl'
                      go_upto_region 38 with fail
                      obtain ⟨ua, uc, hu2, huc1, huc2⟩ := own_slice T9.out.rh.own
                      rw [T9.out.len] at hu2 huc1
                      have gl := T9.out.rh.blk.cell 1
                      simp only [List.getElem?_toArray, List.getElem?_cons_succ, List.getElem?_cons_zero] at gl
                      rw [hu2] at gl
                      have hsm := T9.out.small
                      have hlo := T9.out.lo
                      obtain ⟨q', hq⟩ : ∃ q', q' = (its').length := ⟨_, rfl⟩
                      have CQ := fun n => heap_Count _ _ _ _ _ g r _ (T9.out.hp.kept (kept_drewN (Below.refl _ _) n)) T9.out.lo (by omega)
                      rw [← hq] at gl hsm hlo huc1
                      simp only [← hq] at CQ
                      have hwr : IntKind.i64.wrap ((q' : Int) - 1) = q' - 1 := IntWalk.i64_in _ (by omega)
                      clear hu2 hq
                      have HCQ := Lib.hid CQ
                      clear CQ
                      go_quiet ((go_at_call 20; exact Calls.quiet_of (HCQ.out _)))
                      go_wp2_with fail
                      go_roundw
                      case rel => exact ⟨j + 1, _, _, _, _, by omega, by go_num, T9.out.kept (kept_drewN (Below.refl _ _) nq), kept_drewN B9.out nq⟩
                      case measure => simp [intOf]; omega
              · go_wp2_with fail
                go_ret
                exact ⟨rfl, KR.out⟩
          · rcases (by omega : most < 0 ∨ (¬ most < 0 ∧ 1000 < most)) with hh | ⟨hh0, hh⟩
            all_goals
              have C := Lib.hid (heap_New_no most w1 hm)
              clear hm
              go_wp2_with fail
              refine (C.out).mono ?_
              rintro e w2 ⟨rfl, rfl⟩
              go_wp2_with fail
              refine (law15_num _ _).mono ?_
              rintro e w2' ⟨rfl, rfl⟩
              go_wp2_with fail
              go_ret
              exact ⟨rfl, K1.out⟩
      · go_wp2_with fail
        go_ret
        exact ⟨rfl, K1.out⟩
end Go.Proofs.Ytjdldgpkcfigiaa
