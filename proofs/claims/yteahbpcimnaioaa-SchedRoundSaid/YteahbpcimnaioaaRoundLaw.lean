/-
  The law SchedRound, walked.
-/
import Derived.Test.YteahbpcimnaioaaRoundRef
import Derived.Test.YteahbpcimnaioaaTy
import Derived.StillTailTactics
import Derived.Deep.RegionHeld2
namespace Go.Proofs.Yteahbpcimnaioaa
open Go.RowKit Go.Maps Go.WideMaps
set_option maxRecDepth 100000

theorem lawC (i : Nat) (w : World) (hi : i < 16) : Calls Try.prog 10 #[.int .i64 i] w fun e w' => e = .returned (.string (cls i)) ∧ w = w' := by
  go_enter Try.func10, Try.ntmps10
  go_wp2
  go_ret
  exact ⟨rfl, rfl⟩

theorem mapTouch {H : Type} {P : Program} {k : TypeId} {R : Value → Option (DataW H × List MemPlace)} {b n : Nat} {D : DataW H} {S : Nat → Prop} {w w' : World} (h : w.ownsMap P k R b n D) (ht : Touch S w w') (hn : ¬ S b) : w'.ownsMap P k R b n D := by
  have hlt := h.lt
  obtain ⟨es, clock, hb, F, hs, hD⟩ := h
  exact ⟨es, clock, (ht.blocks b hlt hn).trans hb, F, hs, hD⟩
theorem map_ty {H : Type} {P : Program} {k : TypeId} {R : Value → Option (DataW H × List MemPlace)} {b n g : Nat} {D : DataW H} {w : World} {e : TypeId} (h : w.ownsMap P k R b n D) (hg : TyAt w g e) : g ≠ b := by
  rintro rfl
  obtain ⟨cur, hg⟩ := hg
  obtain ⟨es, clock, hb, _⟩ := h
  rw [hb] at hg
  cases hg

theorem foot_ty {T E B : Nat} {w : World} {p : Value} {l : List Th} {g : Nat} {v : Value} (h : IsTab T E B w p l g v) : ∀ b, foot g v b → TyAt w b T ∨ TyAt w b E := by
  rintro b (rfl | hb)
  · exact .inl h.blk.ty
  · exact .inr (own_ty h.own b hb)
theorem tabs_far {w : World} {p p' : Value} {l l' : List Th} {g g' B B' : Nat} {v v' : Value} (h : PTab B w p l g v) (h' : RTab B' w p' l' g' v') : ∀ b, foot g v b → ¬ foot g' v' b := by
  intro b hb hb'
  rcases foot_ty h b hb with t | t <;> rcases foot_ty h' b hb' with t' | t'
  · exact TyAt.ne t t' (by decide) rfl
  · exact TyAt.ne t t' (by decide) rfl
  · exact TyAt.ne t t' (by decide) rfl
  · exact TyAt.ne t t' (by decide) rfl
theorem foot_map {T E B : Nat} {w : World} {p : Value} {l : List Th} {g : Nat} {v : Value} (h : IsTab T E B w p l g v) {H : Type} {P : Program} {k : TypeId} {R : Value → Option (DataW H × List MemPlace)} {m n : Nat} {D : DataW H} (hm : w.ownsMap P k R m n D) : ∀ b, foot g v b → b ≠ m := by
  intro b hb
  rcases foot_ty h b hb with t | t
  · exact map_ty hm t
  · exact map_ty hm t
theorem foot_lt {T E B : Nat} {w : World} {p : Value} {l : List Th} {g : Nat} {v : Value} (h : IsTab T E B w p l g v) : ∀ b, foot g v b → b < w.heap.size := by
  rintro b (rfl | hb)
  · exact h.blk.lt
  · exact (h.own.lt b hb).2

/-- The owners after k rounds. -/
def ownDs (os : List Int) : Nat → DataW Unit
  | 0 => .map []
  | k + 1 => (ownDs os k).put (.string (cls k).data.toList) (.lit (.int .i64 (os.getD k 0)))
def prs (os : List Int) (k : Nat) : List (ByteArray × Int) := (List.range k).map fun i => (cls i, os.getD i 0)
theorem prs_len (os : List Int) (k : Nat) : (prs os k).length = k := by simp [prs]
theorem prs_succ (os : List Int) (k : Nat) : prs os (k + 1) = prs os k ++ [(cls k, os.getD k 0)] := by simp [prs, List.range_succ]
theorem ownDs_tidy (os : List Int) : ∀ k, Tidy (ownDs os k)
  | 0 => tidy_empty
  | k + 1 => (ownDs_tidy os k).put (by trivial) _
theorem bytes_ext {a b : ByteArray} (h : a.data.toList = b.data.toList) : a = b := ByteArray.ext (Array.toList_inj.1 h)
theorem ownL_none (os : List Int) : ∀ k, k ≤ 16 → ∀ j, j < 16 → k ≤ j → ownL (prs os k) (cls j) = none
  | 0, _, _, _, _ => rfl
  | k + 1, hk, j, hj, hkj => by
    have ih := ownL_none os k (by omega) j hj (by omega)
    have hne : ¬ cls k = cls j := fun e => by have := cls_inj (i := k) (j := j) (by omega) hj (by rw [e]); omega
    unfold ownL at ih ⊢
    rw [prs_succ, List.find?_append]
    simp only [Option.map_eq_none_iff] at ih ⊢
    rw [ih]
    simp [hne]
theorem own_same (os : List Int) : ∀ k, k ≤ 16 → ∀ s, ownOf (ownDs os k) s = ownL (prs os k) s
  | 0, _, s => rfl
  | k + 1, hk, s => by
    have ih := own_same os k (by omega) s
    by_cases hs : s = cls k
    · subst hs
      rw [ownDs, ownOf_put_same (ownDs_tidy os k).isMap]
      have hn := ownL_none os k (by omega) k (by omega) (Nat.le_refl k)
      unfold ownL at hn ⊢
      simp only [Option.map_eq_none_iff] at hn
      rw [prs_succ, List.find?_append, hn]
      simp
    · have hd : s.data.toList ≠ (cls k).data.toList := fun e => hs (bytes_ext e)
      rw [ownDs, ownOf_put_other _ _ _ hd, ih]
      unfold ownL
      rw [prs_succ, List.find?_append]
      have hne : ¬ cls k = s := fun e => hs e.symm
      cases h : (prs os k).find? fun p => decide (p.1 = s) <;> simp [hne]
theorem has_ownDs (os : List Int) : ∀ k, k ≤ 16 → ∀ j, j < 16 → k ≤ j → has (ownDs os k) (.string (cls j).data.toList) = false
  | 0, _, _, _, _ => rfl
  | k + 1, hk, j, hj, hkj => by
    have hne : (Lit.string (cls j).data.toList) ≠ .string (cls k).data.toList := fun e => by injection e with e; have := cls_inj hj (by omega : k < 16) e; omega
    rw [ownDs, has_put_other hne]
    exact has_ownDs os k (by omega) j hj (by omega)
theorem size_ownDs (os : List Int) : ∀ k, k ≤ 16 → size (ownDs os k) = k
  | 0, _ => rfl
  | k + 1, hk => by
    rw [ownDs, size_put (ownDs_tidy os k), has_ownDs os k (by omega) k (by omega) (Nat.le_refl k), size_ownDs os k (by omega)]
    rfl
theorem at_ownDs (os : List Int) (z : DataW Unit) : ∀ k, k ≤ 16 → ∀ j, j < k → (ownDs os k).atKey (.string (cls j).data.toList) z = .lit (.int .i64 (os.getD j 0))
  | 0, _, _, h => by omega
  | k + 1, hk, j, hj => by
    by_cases e : j = k
    · subst e
      rw [ownDs, atKey_put_same (ownDs_tidy os j).isMap (by trivial)]
    · have hne : (Lit.string (cls j).data.toList) ≠ .string (cls k).data.toList := fun h => by injection h with h; exact e (cls_inj (by omega) (by omega) h)
      rw [ownDs, atKey_put_other hne]
      exact at_ownDs os z k (by omega) j (by omega)

theorem elem_str : ElemTy Try.prog 39 9 (.string ⟨#[]⟩) 1 16 := ⟨Try.underlying39, by kernel_rfl, rfl, by decide⟩

/-- The two tables of the law. -/
structure Two (B : Nat) (w : World) (l : List Th) (gp gr : Nat) (vp vr : Value) : Prop where
  p : PTab B w (.pointer (some ⟨gp, 0, none⟩)) l gp vp
  r : RTab B w (.pointer (some ⟨gr, 0, none⟩)) l gr vr
  sz : ∀ x ∈ l, x.tx.size ≤ maxLen
theorem Two.apart {B : Nat} {w w' : World} {l : List Th} {gp gr : Nat} {vp vr : Value} {S : Nat → Prop} (h : Two B w l gp gr vp vr) (ht : Touch S w w') (hn : ∀ b, b < w.heap.size → (∃ T, TyAt w b T) → ¬ S b) : Two B w' l gp gr vp vr :=
  ⟨h.p.apart ht fun b hb => hn b (foot_lt h.p b hb) ((foot_ty h.p b hb).elim (fun t => ⟨_, t⟩) fun t => ⟨_, t⟩), h.r.apart ht fun b hb => hn b (foot_lt h.r b hb) ((foot_ty h.r b hb).elim (fun t => ⟨_, t⟩) fun t => ⟨_, t⟩), h.sz⟩
theorem sizes_snoc {l : List Th} (h : ∀ x ∈ l, x.tx.size ≤ maxLen) : ∀ x ∈ l ++ [⟨0, ⟨#[]⟩⟩], x.tx.size ≤ maxLen := by
  intro x hx
  rcases List.mem_append.1 hx with hx | hx
  · exact h x hx
  · obtain rfl : x = ⟨0, ⟨#[]⟩⟩ := by simpa using hx
    unfold maxLen
    decide
theorem sizes_turn {l : List Th} (h : ∀ x ∈ l, x.tx.size ≤ maxLen) (t fr : Int) {to : Th} (ht : to.tx.size ≤ maxLen) : ∀ x ∈ turnL l t fr to, x.tx.size ≤ maxLen := by
  intro x hx
  unfold turnL at hx
  split at hx
  · rcases List.mem_or_eq_of_mem_set hx with hx | rfl
    · exact h x hx
    · exact ht
  · exact h x hx
theorem turnL_len (l : List Th) (t fr : Int) (to : Th) : (turnL l t fr to).length = l.length := by unfold turnL; split <;> simp
theorem cls_fit {i : Nat} (h : i < 16) : (cls i).size ≤ maxLen := by rw [cls_size h]; unfold maxLen; omega

theorem prs_owners (os : List Int) : (prs os os.length).map (fun p => Value.int .i64 p.2) = os.map (Value.int .i64) := by
  apply List.ext_getElem?
  intro i
  rw [List.getElem?_map, List.getElem?_map]
  unfold prs
  rw [List.getElem?_map]
  by_cases h : i < os.length
  · rw [List.getElem?_range h, List.getElem?_eq_getElem h]
    simp [List.getD, List.getElem?_eq_getElem h]
  · rw [List.getElem?_eq_none (by simp; omega), List.getElem?_eq_none (by omega)]
    rfl

set_option maxHeartbeats 4000000 in
theorem walk_SchedRound (ws : List Int) (x0 : Value) (os : List Int) (x1 : Value) (w : World) (h0 : Rd w 1 x0 ws.length (ws.map (Value.int .i64))) (h1 : Rd w 1 x1 os.length (os.map (Value.int .i64))) (hos : ∀ z ∈ os, -9223372036854775808 ≤ z ∧ z ≤ 9223372036854775807) :
    Calls Try.prog 3 #[x0, x1] w fun e w' => e = .returned (.bool true) ∧ Below w.heap.size w w' := by
  obtain ⟨m, hm⟩ : ∃ m, m = ws.length := ⟨_, rfl⟩
  obtain ⟨q, hq⟩ : ∃ q, q = os.length := ⟨_, rfl⟩
  rw [← hm] at h0
  rw [← hq] at h1
  have H1 := Lib.hid h1
  obtain ⟨-, a0, c0, rfl, p0, p1, g0⟩ := h0
  obtain ⟨-, a1, c1, rfl, r0, r1, g1⟩ := h1
  have HM := Lib.hid hm
  have HQ := Lib.hid hq
  have G0 := Lib.hid g0
  have G1 := Lib.hid g1
  have HOS := Lib.hid hos
  clear hm hq g0 g1 hos
  by_cases hbig : 16 < m ∨ 16 < q
  · rcases (by omega : 16 < m ∨ (¬ 16 < m ∧ 16 < q)) with hb | ⟨hb0, hb⟩
    all_goals
      clear hbig
      go_enter Try.func3, Try.ntmps3
      go_wp2_with fail
      refine (alive18 _).mono ?_
      rintro e w1 ⟨rfl, k1⟩
      have K1 := Lib.hid k1
      clear k1
      go_wp2
      go_ret
      exact ⟨rfl, K1.out⟩
  · have hm16 : m ≤ 16 := by omega
    have hq16 : q ≤ 16 := by omega
    have hmm := Lib.hid (@run_makeMap Try.prog)
    clear hbig
    go_enter Try.func3, Try.ntmps3
    go_wp2_with fail
    refine (alive18 _).mono ?_
    rintro e w1 ⟨rfl, k1⟩
    have K1 := Lib.hid k1
    clear k1
    go_wp2_with fail
    refine (sched_New _).mono ?_
    rintro e w2 ⟨rfl, t2, k2⟩
    have k3 : Kept w2 (w2.alloc (.cells #[.slice none 0 0] 29)) := (Below.refl _ _).alloc (Nat.le_refl _) _
    have hz2 := k2.size
    have T3 : Two w1.heap.size (w2.alloc (.cells #[.slice none 0 0] 29)) [] w1.heap.size w2.heap.size (.slice none 0 0) (.slice none 0 0) := ⟨t2.kept k3, ⟨rfl, Blk.new _ _ _, World.ownsRow_nil _ _ _ _, hz2⟩, by simp⟩
    have HT3 := Lib.hid T3
    have KW := Lib.hid (Kept.trans K1.out (Kept.trans k2 k3))
    have hz3 := (Kept.trans k2 k3).size
    have hz1 := K1.out.size
    clear t2 k2 k3 T3
    go_wp2_with fail
    obtain ⟨gr, hgr⟩ : ∃ gr, gr = w2.heap.size := ⟨_, rfl⟩
    rw [← hgr] at HT3 ⊢
    generalize (w2.alloc (.cells #[.slice none 0 0] 29)) = w3 at *
    clear hgr hz2
    go_loopw [8] (fun s8 wr => ∃ (k : Nat) (l : List Th) (vp vr : Value), k ≤ m ∧ s8 = .int .i64 k ∧ l.length = k ∧ Two w1.heap.size wr l w1.heap.size gr vp vr ∧ Below w1.heap.size w3 wr) (fun s8 _ => m - (intOf s8).toNat)
    case atStart => exact ⟨0, [], _, _, by omega, rfl, rfl, HT3.out, Below.refl _ _⟩
    case round =>
      obtain ⟨k, l, vp, vr, hk, rfl, hl, hT, hB⟩ := hrel
      have HT := Lib.hid hT
      have HB := Lib.hid hB
      have HL := Lib.hid hl
      have hll : l.length ≤ 16 := by omega
      have BR : w1.heap.size ≤ wr.heap.size := Nat.le_trans hz3 hB.size
      have KR := Lib.hid (show Kept w wr from Below.trans KW.out (hB.mono hz1))
      clear hT hB
      by_cases hlt : k < m
      · have hll' : l.length < 16 := by omega
        clear hl
        obtain ⟨z, hz⟩ : ∃ z, ws[k]? = some z := ⟨_, List.getElem?_eq_getElem (by have := HM.out; omega)⟩
        obtain ⟨b0, o0, rfl, hc0⟩ := G0.out (by omega)
        have z0 := hc0 k (.int .i64 z) (by rw [List.getElem?_map, hz]; rfl)
        have HZ0 := Lib.hid z0
        clear hc0 hz z0
        have S1 := sched_Start_lt w1.heap.size wr _ l _ vp HT.out.p BR hll'
        go_wp2_with fail
        refine S1.mono ?_
        rintro e w4 ⟨rfl, vp4, hp4, ht4, -⟩
        have hr4 := HT.out.r.apart ht4 (fun b hb hb' => tabs_far HT.out.p HT.out.r b hb' hb)
        have b4 := HT.out.p.below ht4 BR
        have HP4 := Lib.hid hp4
        have HR4 := Lib.hid hr4
        have B4 := Lib.hid (Below.trans HB.out b4)
        have BR4 : w1.heap.size ≤ w4.heap.size := Nat.le_trans BR b4.size
        clear S1 hp4 ht4 hr4 b4
        have S2 := ref15_Start_lt w1.heap.size w4 _ l _ vr HR4.out BR4 hll'
        go_wp2_with fail
        refine S2.mono ?_
        rintro e w5 ⟨rfl, vr5, hr5, ht5, -⟩
        have hp5 := HP4.out.apart ht5 (fun b hb hb' => tabs_far HP4.out HR4.out b hb hb')
        have b5 := HR4.out.below ht5 BR4
        have HP5 := Lib.hid hp5
        have HR5 := Lib.hid hr5
        have B5 := Lib.hid (Below.trans B4.out b5)
        have BR5 : w1.heap.size ≤ w5.heap.size := Nat.le_trans BR4 b5.size
        have SZ5 := Lib.hid (sizes_snoc HT.out.sz)
        have hl5 : (l ++ [⟨0, ⟨#[]⟩⟩] : List Th).length ≤ 16 := by simp; omega
        have z5 : w5.cell? ⟨b0, o0 + k, none⟩ = some (.int .i64 z) := Kept.cell (Below.trans KW.out (B5.out.mono hz1)) HZ0.out
        clear S2 hr5 ht5 hp5 b5
        by_cases hin : 0 ≤ z ∧ z < 16
        · obtain ⟨j, rfl⟩ : ∃ j : Nat, z = j := ⟨z.toNat, by omega⟩
          have hj : j < 16 := by omega
          clear hin
          go_wp2_with fail
          refine (lawC j _ hj).mono ?_
          rintro e w5' ⟨rfl, rfl⟩
          have S3 := sched_Block w1.heap.size w5 _ _ _ vp4 k (cls j) HP5.out BR5 hl5
          go_wp2_with fail
          refine S3.mono ?_
          rintro e w6 ⟨rfl, hp6, ht6⟩
          have hr6 := HR5.out.apart ht6 (fun b hb hb' => tabs_far HP5.out HR5.out b hb' hb)
          have b6 := HP5.out.below ht6 BR5
          have HP6 := Lib.hid hp6
          have HR6 := Lib.hid hr6
          have B6 := Lib.hid (Below.trans B5.out b6)
          have BR6 : w1.heap.size ≤ w6.heap.size := Nat.le_trans BR5 b6.size
          have z6 : w6.cell? ⟨b0, o0 + k, none⟩ = some (.int .i64 (j : Int)) := Kept.cell (Below.trans KW.out (B6.out.mono hz1)) HZ0.out
          clear S3 hp6 ht6 hr6 b6 z5
          go_wp2_with fail
          refine (lawC j _ hj).mono ?_
          rintro e w6' ⟨rfl, rfl⟩
          have S4 := ref15_Block w1.heap.size w6 _ _ _ vr5 k (cls j) HR6.out BR6 hl5
          go_wp2_with fail
          refine S4.mono ?_
          rintro e w7 ⟨rfl, hr7, ht7⟩
          have hp7 := HP6.out.apart ht7 (fun b hb hb' => tabs_far HP6.out HR6.out b hb hb')
          have b7 := HR6.out.below ht7 BR6
          have T7 := Lib.hid (show Two w1.heap.size w7 _ w1.heap.size gr vp4 vr5 from ⟨hp7, hr7, sizes_turn SZ5.out k 0 (cls_fit hj)⟩)
          have B7 := Lib.hid (Below.trans B6.out b7)
          clear S4 hr7 ht7 hp7 b7 z6
          go_wp2_with fail
          go_roundw
          case rel => exact ⟨k + 1, _, _, _, by omega, by go_num, by rw [turnL_len]; simp [HL.out], T7.out, B7.out⟩
          case measure => simp [intOf]; omega
        · have T5 := Lib.hid (show Two w1.heap.size w5 _ w1.heap.size gr vp4 vr5 from ⟨HP5.out, HR5.out, SZ5.out⟩)
          rcases (by omega : z < 0 ∨ (0 ≤ z ∧ 16 ≤ z)) with hh | ⟨hh0, hh⟩
          all_goals
            clear hin
            go_wp2_with fail
            go_roundw
            case rel => exact ⟨k + 1, _, _, _, by omega, by go_num, by simp [HL.out], T5.out, B5.out⟩
            case measure => simp [intOf]; omega
      · clear hl
        have hmm' := hmm.out
        have hkey := fun i (hi : i < 16) => keyOf_string_mk (P := Try.prog) (k := 9) Try.underlying9 (s := cls i) (cls_fit hi)
        have HKEY := Lib.hid hkey
        clear hkey
        go_wp2_with fail
        have k0 : Kept wr (wr.alloc (.map #[] 0)) := (Below.refl _ _).alloc (Nat.le_refl _) _
        have m0 : (wr.alloc (.map #[] 0)).ownsMap Try.prog 9 (plainElem (H := Unit) Try.prog 3) wr.heap.size 0 (ownDs os 0) := World.ownsMap_made _ _ _ _
        have TA := Lib.hid (show Two w1.heap.size (wr.alloc (.map #[] 0)) l w1.heap.size gr vp vr from ⟨HT.out.p.kept k0, HT.out.r.kept k0, HT.out.sz⟩)
        have M0 := Lib.hid m0
        have KA := Lib.hid (Kept.trans KR.out k0)
        have hmb : wr.heap.size < (wr.alloc (.map #[] 0)).heap.size := by simp
        obtain ⟨mb, hmbe⟩ : ∃ mb, mb = wr.heap.size := ⟨_, rfl⟩
        have hwmb : w.heap.size ≤ mb := by rw [hmbe]; exact KR.out.size
        rw [← hmbe] at M0 hmb ⊢
        generalize (wr.alloc (.map #[] 0)) = wa at *
        clear k0 m0 hmbe hmm' hmm
        have hl16 : l.length ≤ 16 := hll
        clear hll
        go_loopw [10, 11] (fun s10 s11 wy => ∃ k : Nat, k ≤ q ∧ s11 = .int .i64 k ∧ wy.ownsRow wa.heap.size 9 1 s10 k ((prs os k).map fun p => .string p.1) ∧ wy.ownsMap Try.prog 9 (plainElem (H := Unit) Try.prog 3) mb k (ownDs os k) ∧ Touch (fun b => b = mb) wa wy) (fun _ s11 _ => q - (intOf s11).toNat)
        case atStart => exact ⟨0, by omega, rfl, World.ownsRow_nil _ _ _ _, M0.out, Touch.refl _ _⟩
        case round =>
          obtain ⟨i, hi, rfl, hro, hmo, hto⟩ := hrel
          have HRO := Lib.hid hro
          have HMO := Lib.hid hmo
          have HTO := Lib.hid hto
          have KR2 := Lib.hid (show Kept w wr from Below.trans KA.out (hto.below (fun b e => by omega) KA.out.size))
          clear hro hmo hto
          by_cases hlt2 : i < q
          · obtain ⟨o, ho⟩ : ∃ o, o = os.getD i 0 := ⟨_, rfl⟩
            have hoi : os[i]? = some o := by rw [ho, List.getD, List.getElem?_eq_getElem (by have := HQ.out; omega)]; rfl
            obtain ⟨b1, o1, rfl, hc1⟩ := G1.out (by omega)
            have z1 := Kept.cell KR2.out (hc1 i (.int .i64 o) (by rw [List.getElem?_map, hoi]; rfl))
            have hob := HOS.out o (List.mem_of_getElem? hoi)
            have hi16 : i < 16 := by omega
            have HOO := Lib.hid ho
            clear hc1 hoi ho
            go_wp2_with fail
            refine wp_region_still_tail 7 (by kernel_rfl) (by kernel_rfl) ?_
            simp only [List.take_succ_cons, List.take_zero, List.drop_succ_cons, List.drop_zero]
            repeat still_step
            still_call ((lawC i _ hi16).mono fun e w' h => ⟨h.1, h.2.symm⟩)
            repeat still_step
            refine wpStill_nil ?_
            change wpList _ _ _ _ _ wr.drew
            have hm4 : wr.drew.ownsMap Try.prog 9 (plainElem (H := Unit) Try.prog 3) mb i (ownDs os i) := HMO.out
            go_wp2_with (at_mapUpdate; refine wpList_mapUpdate_own _ rfl _ _ _ 38 rfl 9 3 lawK Try.underlying38 _ mb i _ rfl hm4 (by unfold maxLen; omega) _ _ _ rfl rfl (HKEY.out i hi16) _ [] (plainElem_int Try.underlying3 (by exact WalkArith.wf_i64 hob)) ?_; intro w5 hm5 hg5; have HM5 := Lib.hid hm5; have HG5 := Lib.hid hg5; clear hm5 hg5)
            have htg : Touch (fun b => b = mb) wr w5 := ((Touch.refl (fun b => b = mb) wr).drew).trans (Touch.of_grown (S := fun b => b = mb) HG5.out (fun k hk => by simpa using hk.symm)) fun b hb => .inl hb
            have hro5 := htg.own HRO.out (fun k hk e => by have := (HRO.out.lt k hk).1; omega)
            have HRO5 := Lib.hid hro5
            have HTO5 := Lib.hid (HTO.out.trans htg fun b hb => .inl hb)
            have hbs : wa.heap.size ≤ w5.heap.size := HTO5.out.size
            clear htg hro5 hm4 z1
            refine (lawC i _ hi16).mono ?_
            rintro e w5' ⟨rfl, rfl⟩
            go_wp2_with (at_builtin; refine wpl_push _ elem_str rfl _ _ rfl wa.heap.size _ _ _ rfl HRO5.out [.string (cls i)] _ rfl rfl (fun u hu => by simp at hu; rw [hu]; rfl) (by omega) (by omega) hbs ?_; intro v6 w6 hro6 hg6 hb6; have HRO6 := Lib.hid hro6; have HB6 := Lib.hid hb6; obtain ⟨a6, c6, rfl, -, -⟩ := own_slice hro6; clear hro6 hg6 hb6)
            go_roundw
            case rel =>
              refine ⟨i + 1, by omega, by go_num, by rw [prs_succ, List.map_append]; exact HRO6.out, ?_, ?_⟩
              · rw [ownDs, ← HOO.out]
                exact mapTouch HM5.out (Touch.of_below HB6.out) (by omega)
              · exact HTO5.out.trans (Touch.of_below HB6.out) fun b hb => .inr hb
            case measure => simp [intOf]; omega
          · obtain rfl : i = q := by omega
            have hTW := TA.out.apart HTO.out (fun b hb ⟨T, hT⟩ e => map_ty M0.out hT e)
            have HTW := Lib.hid hTW
            obtain ⟨RB, hRB⟩ : ∃ RB, RB = roundB (ownL (prs os i)) l := ⟨_, rfl⟩
            have hC1 := sched_Round w1.heap.size wr _ l _ vp mb i (ownDs os i) hTW.p hl16 hTW.sz HMO.out
            rw [show ownOf (ownDs os i) = ownL (prs os i) from funext (own_same os i hq16), ← hRB] at hC1
            have HC1 := Lib.hid hC1
            have HRB := Lib.hid hRB
            have hpl : (prs os i).length = i := prs_len os i
            have HPL := Lib.hid hpl
            clear hTW hC1 hRB hpl
            obtain ⟨an, cn, rfl, -, -⟩ := own_slice HRO.out
            go_wp2_with fail
            refine HC1.out.mono ?_
            rintro e w5 ⟨rfl, rfl⟩
            go_wp2_with fail
            obtain ⟨wz, rfl⟩ : ∃ wz, wz = wr := ⟨_, rfl⟩
            go_loopw [13] (fun s13 wy => ∃ (k n : Nat), k ≤ i ∧ s13 = .int .i64 k ∧ wy = wz.drewN n) (fun s13 _ => i - (intOf s13).toNat)
            case atStart => exact ⟨0, 0, by omega, rfl, rfl⟩
            case round =>
              obtain ⟨k, n, hk3, rfl, rfl⟩ := hrel
              by_cases hlt3 : k < i
              · obtain ⟨o, ho⟩ : ∃ o, o = os.getD k 0 := ⟨_, rfl⟩
                have hoi : os[k]? = some o := by rw [ho, List.getD, List.getElem?_eq_getElem (by have := HQ.out; omega)]; rfl
                obtain ⟨b1, o1, rfl, hc1⟩ := G1.out (by omega)
                have z1 := Kept.cell KR2.out (hc1 k (.int .i64 o) (by rw [List.getElem?_map, hoi]; rfl))
                have hk16 : k < 16 := by omega
                have LK : ∀ n' : Nat, (Instr.lookup 38 (.map (some mb)) (.string (cls k)) false).run Try.prog (wz.drewN n') = .ok (.int .i64 o) (wz.drewN n') := by
                  intro n'
                  have hm9 : (wz.drewN n').ownsMap Try.prog 9 (plainElem (H := Unit) Try.prog 3) mb i (ownDs os i) := HMO.out
                  obtain ⟨c9, hrun, hat, _⟩ := hm9.lookup_int lawK Try.underlying38 Try.underlying3 (zeroI _) (HKEY.out k hk16)
                  rw [at_ownDs os _ i hq16 k hlt3] at hat
                  injection hat with hat
                  injection hat with _ hat
                  rw [hrun, ho, hat]
                clear hc1 hoi ho
                go_wp2_with fail
                refine wp_region_held_drew (S := (fun w9 => (Instr.lookup 38 (.map (some mb)) (.string (cls k)) false).run Try.prog w9 = .ok (.int .i64 o) w9 ∧ w9.cell? ⟨b1, o1 + k, none⟩ = some (.int .i64 o))) (by kernel_rfl) ⟨LK (n + 1), z1⟩ (fun hHeld => ?_)
                refine wpAnyH_take (i := 0) (oi := { dst := some 97, op := Op.move (Operand.tmp 9), type := 38, pos := "law.go:110", after := #[], guard := none }) (v := ?va0) rfl (by kernel_rfl) (by kernel_rfl) (by kernel_rfl) (fun _ _ _ h => h) (Or.inl ⟨by rfl, ?ya0⟩) (by assumption) ?ra0
                case ya0 => (intro w hSw; (try dsimp only at hSw); go_simp <;> with_reducible rfl)
                (try simp only [Act.put, List.setIfInBounds_toArray, List.set_cons_zero, List.set_cons_succ])
                refine wpAnyH_take (i := 1) (oi := { dst := some 98, op := Op.move (Operand.tmp 13), type := 3, pos := "law.go:110", after := #[], guard := none }) (v := ?va1) rfl (by kernel_rfl) (by kernel_rfl) (by kernel_rfl) (fun _ _ _ h => h) (Or.inl ⟨by rfl, ?ya1⟩) (by assumption) ?ra1
                case ya1 => (intro w hSw; (try dsimp only at hSw); go_simp <;> with_reducible rfl)
                (try simp only [Act.put, List.setIfInBounds_toArray, List.set_cons_zero, List.set_cons_succ])
                refine wpAnyH_take (i := 4) (oi := { dst := some 101, op := Op.move (Operand.tmp 1), type := 22, pos := "law.go:110", after := #[], guard := none }) (v := ?va4) rfl (by kernel_rfl) (by kernel_rfl) (by kernel_rfl) (fun _ _ _ h => h) (Or.inl ⟨by rfl, ?ya4⟩) (by assumption) ?ra4
                case ya4 => (intro w hSw; (try dsimp only at hSw); go_simp <;> with_reducible rfl)
                (try simp only [Act.put, List.setIfInBounds_toArray, List.set_cons_zero, List.set_cons_succ])
                refine wpAnyH_take (i := 5) (oi := { dst := some 102, op := Op.move (Operand.tmp 13), type := 3, pos := "law.go:110", after := #[], guard := none }) (v := ?va5) rfl (by kernel_rfl) (by kernel_rfl) (by kernel_rfl) (fun _ _ _ h => h) (Or.inl ⟨by rfl, ?ya5⟩) (by assumption) ?ra5
                case ya5 => (intro w hSw; (try dsimp only at hSw); go_simp <;> with_reducible rfl)
                (try simp only [Act.put, List.setIfInBounds_toArray, List.set_cons_zero, List.set_cons_succ])
                refine wpAnyH_take (i := 6) (oi := { dst := some 103, op := Op.indexAddr 22 (Operand.tmp 101) (Operand.tmp 102), type := 0, pos := "law.go:110", after := #[{ on := 4, ground := Ground.data }, { on := 5, ground := Ground.data }], guard := none }) (v := ?va6) rfl (by kernel_rfl) (by kernel_rfl) (by kernel_rfl) (fun _ _ _ h => h) (Or.inl ⟨by rfl, ?ya6⟩) (by assumption) ?ra6
                case ya6 => (intro w hSw; (try dsimp only at hSw); go_simp <;> with_reducible rfl)
                (try simp only [Act.put, List.setIfInBounds_toArray, List.set_cons_zero, List.set_cons_succ])
                refine wpAnyH_take (i := 7) (oi := { dst := some 104, op := Op.load 3 (Operand.tmp 103), type := 3, pos := "law.go:110", after := #[{ on := 6, ground := Ground.data }], guard := none }) (v := ?va7) rfl (by kernel_rfl) (by kernel_rfl) (by kernel_rfl) (fun _ _ _ h => h) (Or.inl ⟨by rfl, ?ya7⟩) (by assumption) ?ra7
                case ya7 => (intro w hSw; (try dsimp only at hSw); go_simp <;> with_reducible rfl)
                (try simp only [Act.put, List.setIfInBounds_toArray, List.set_cons_zero, List.set_cons_succ])
                refine wpAnyH_ready (rs := [2]) (by kernel_rfl) (by simp) ?_
                refine AllReadyH.cons (o := { dst := some 99, op := Op.call { callee := Callee.value (Operand.func 10), args := #[Operand.tmp 98], argTypes := #[3] }, type := 9, pos := "law.go:110", after := #[{ on := 1, ground := Ground.data }], guard := none }) rfl (fun K hK => ?_) AllReadyH.nil
                go_simp
                go_wp2_with (go_at_call 10; refine (lawC k _ hk16).mono ?_; rintro e w8 ⟨rfl, rfl⟩)
                clear hHeld
                refine hK.out _ _ ?_ (fun hHeld => ?_)
                · exact ⟨LK (n + 1), z1⟩
                clear hK K
                (try simp only [Act.put, List.setIfInBounds_toArray, List.set_cons_zero, List.set_cons_succ])
                refine wpAnyH_take (i := 3) (oi := { dst := some 100, op := Op.lookup 38 (Operand.tmp 97) (Operand.tmp 99) false, type := 3, pos := "law.go:110", after := #[{ on := 0, ground := Ground.data }, { on := 2, ground := Ground.data }], guard := none }) (v := ?va3) rfl (by kernel_rfl) (by kernel_rfl) (by kernel_rfl) (fun _ _ _ h => h) (Or.inl ⟨by rfl, ?ya3⟩) (by assumption) ?ra3
                case ya3 => (intro w hSw; (try dsimp only at hSw); go_simp <;> with_reducible rfl)
                (try simp only [Act.put, List.setIfInBounds_toArray, List.set_cons_zero, List.set_cons_succ])
                refine wpAnyH_take (i := 8) (oi := { dst := some 105, op := Op.binOp BinOp.neq 3 (Operand.tmp 100) (Operand.tmp 104) 3, type := 4, pos := "law.go:110", after := #[{ on := 3, ground := Ground.data }, { on := 7, ground := Ground.data }], guard := none }) (v := ?va8) rfl (by kernel_rfl) (by kernel_rfl) (by kernel_rfl) (fun _ _ _ h => h) (Or.inl ⟨by rfl, ?ya8⟩) (by assumption) ?ra8
                case ya8 => (intro w hSw; (try dsimp only at hSw); go_simp <;> with_reducible rfl)
                (try simp only [Act.put, List.setIfInBounds_toArray, List.set_cons_zero, List.set_cons_succ])
                refine wpAnyH_done (by kernel_rfl) ?_ _
                go_wp2_with fail
                go_roundw
                case rel => exact ⟨k + 1, n + 1, by omega, by go_num, rfl⟩
                case measure => simp [intOf]; omega
              · have hm9 : (wz.drewN n).ownsMap Try.prog 9 (plainElem (H := Unit) Try.prog 3) mb i (ownDs os i) := HMO.out
                have hkn : Kept wz (wz.drewN n) := kept_drewN (Below.refl _ _) n
                have hC2 := ref15_Round w1.heap.size (wz.drewN n) _ l gr vr (.slice an i cn) (.slice a1 i c1) (prs os i) (HTW.out.r.kept hkn) hl16 (by rw [HPL.out]; exact (Rd.of_own HRO.out).kept hkn) (by rw [HPL.out, show prs os i = prs os os.length by rw [← HQ.out], prs_owners]; exact (H1.out.kept KR2.out).kept hkn) (by rw [HPL.out]; exact hq16)
                rw [← HRB.out] at hC2
                have HC2 := Lib.hid hC2
                have hsz : size (ownDs os i) = i := size_ownDs os i hq16
                have HSZ := Lib.hid hsz
                have HKN := Lib.hid hkn
                clear hC2 hsz hkn
                go_wp2_with (at_len; refine wpList_len_own _ rfl _ 38 rfl 9 3 Try.underlying38 _ mb i _ rfl hm9 ?_; rw [HSZ.out])
                refine HC2.out.mono ?_
                rintro e w6 ⟨rfl, rfl⟩
                go_wp2_with fail
                go_ret
                exact ⟨by simp, Below.trans KR2.out (HKN.out.mono KR2.out.size)⟩
end Go.Proofs.Yteahbpcimnaioaa
