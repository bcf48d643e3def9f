/-
  Chapter 9's law KinChain, walked.
-/
import Derived.Test.YtjljfadfepidjaaRow
import Derived.Test.YtjljfadfepidjaaChainD
namespace Go.Proofs.Ytjljfadfepidjaa
open Go.RowKit
set_option maxRecDepth 100000

theorem letter_i (i : Int) (j : Nat) (w : World) (h : i = j) (hj : j < 26) : Calls Try.prog 20 #[.int .i64 i] w fun e w' => e = .returned (.string (letterS j)) ∧ w = w' := by
  subst h
  exact letter_ j w hj
theorem blk_at {w : World} {g : Nat} {t : TypeId} {cs : Array Value} (h : w.heap.size = g) : Blk (w.alloc (.cells cs t)) g t cs := h ▸ Blk.new w t cs
def facD (n i : Nat) (r : Bool) : List TD := [⟨letterS i, supS n i r, 33, [letterS (13 + i)], [], []⟩, ⟨letterS (13 + i), ⟨#[]⟩, 1537, [], [], []⟩]
theorem rowD_eq (n : Nat) (r : Bool) : rowD n r = (List.range n).flatMap fun i => facD n i r := rfl
/-- The row's list, so far. -/
structure ChnS (w W : World) (n k : Nat) (r : Bool) (v : Value) (R : List TypeV) : Prop where
  own : W.ownsRow w.heap.size 43 6 v (2 * k) (R.flatMap encTypeV)
  d : R.map TypeV.d = (List.range k).flatMap fun i => facD n i r
  rows : ∀ y ∈ R, RowT W y
  kept : Kept w W
theorem ChnS.len {w W : World} {n k : Nat} {r : Bool} {v : Value} {R : List TypeV} (h : ChnS w W n k r v R) : R.length = 2 * k := by
  have h1 := h.own.1
  rw [flat_length encTypeV 6 (fun _ => rfl)] at h1
  omega
theorem ChnS.tyR {w W : World} {n : Nat} {r : Bool} {v : Value} {R : List TypeV} (h : ChnS w W n n r v R) (hl : n ≤ 13) : TyR W v (rowD n r) := by
  refine ⟨R, h.d, ?_, fun y hy => (h.rows y hy).ok, by rw [h.len]; omega⟩
  rw [h.len]
  exact Rd.of_own h.own
def y1 (k : Nat) (sup : ByteArray) (hb : Nat) : TypeV := bare (letterS k) sup 33 (.slice (some ⟨hb, 0, none⟩) 1 1) [letterS (13 + k)]
def y2 (k : Nat) : TypeV := bare (letterS (13 + k)) sE 1537 (.slice none 0 0) []
theorem lsz {k : Nat} (h : k < 26) : (letterS k).size ≤ maxLen := by rw [letter_sz k h]; decide
theorem sup_sz (n k : Nat) (r : Bool) (h : k < 13) : (supS n k r).size ≤ maxLen := by
  unfold supS
  split
  · exact lsz (by omega)
  · split
    · exact lsz (by omega)
    · decide
theorem chn_next {w wr wq w5 : World} {n k hb : Nat} {r : Bool} {v v5 : Value} {R : List TypeV} {o : Obj} (hS : ChnS w wr n k r v R) (hk : k < 13) (kq : Kept wr wq) (hh : Blk wq hb 9 #[.string (letterS (13 + k))])
    (ho5 : w5.ownsRow w.heap.size 43 6 v5 (2 * k + 2) (R.flatMap encTypeV ++ (encTypeV (y1 k (supS n k r) hb) ++ encTypeV (y2 k)))) (hg5 : (wq.drew.alloc o).grownBy w5 v.ownBlock) :
    ChnS w w5 n (k + 1) r v5 (R ++ [y1 k (supS n k r) hb, y2 k]) := by
  have t0 : Touch (fun _ => False) wr wq := Touch.of_kept kq
  have oq := t0.own hS.own fun _ _ => id
  have t5 : Touch (fun b => v.ownBlock = some b) wq w5 := (((Touch.refl (fun b => v.ownBlock = some b) wq).drew.alloc o)).trans (Touch.of_grown hg5 (S := fun b => v.ownBlock = some b) (fun b hb => hb)) fun b hb => .inl hb
  refine ⟨by rw [List.flatMap_append, show 2 * (k + 1) = 2 * k + 2 by omega]; simpa using ho5, ?_, ?_, ?_⟩
  · rw [List.map_append, hS.d, List.range_succ, List.flatMap_append]
    rfl
  · intro y hy
    rcases List.mem_append.1 hy with hy | hy
    · exact ((hS.rows y hy).touch t0 (fun _ h => h.elim)).touch t5 fun b hb _ => own_ty oq b hb
    · simp only [List.mem_cons, List.not_mem_nil, or_false] at hy
      rcases hy with rfl | rfl
      · exact ⟨_, _, 33, lsz (by omega), sup_sz n k r hk, .inl rfl, .inr ⟨hb, _, lsz (by omega), rfl, hh.touch t5 fun e => TyAt.ne ⟨_, hh⟩ (own_ty oq hb e) (by decide) rfl⟩⟩
      · exact ⟨_, _, 1537, lsz (by omega), by decide, .inr rfl, .inl rfl⟩
  · have h1 : Below w.heap.size w wq := Below.trans hS.kept (kq.mono hS.kept.size)
    exact Below.trans h1 (t5.below (fun b hb => (oq.lt b hb).1) h1.size)
theorem wcs_one (k : Nat) (sup : ByteArray) (hb : Nat) : ∀ u ∈ encTypeV (y1 k sup hb) ++ encTypeV (y2 k), u.oneCell' = true := by
  intro u hu
  simp [encTypeV, y1, y2, bare] at hu
  rcases hu with rfl | rfl | rfl | rfl | rfl | rfl | rfl | rfl | rfl <;> rfl

set_option maxHeartbeats 8000000 in
theorem walk_KinChain (n f : Int) (r : Bool) (w : World) (hwf : (Lit.int .i64 n).wf = true) (hff : (Lit.int .i64 f).wf = true) :
    Calls Try.prog 4 #[.int .i64 n, .int .i64 f, .bool r] w fun e w' => e = .returned (.bool true) ∧ Below w.heap.size w w' := by
  go_enter Try.func4, Try.ntmps4
  go_wp2_with fail
  refine (alive9 _).mono ?_
  rintro e w1 ⟨rfl, k1⟩
  have K1 := Lib.hid k1
  clear k1
  by_cases hn1 : n < 1
  · go_wp2_with fail
    go_ret
    exact ⟨rfl, K1.out⟩
  by_cases hn2 : n > 13
  · go_wp2_with fail
    go_ret
    exact ⟨rfl, K1.out⟩
  by_cases hf1 : f < 0
  · go_wp2_with fail
    go_ret
    exact ⟨rfl, K1.out⟩
  obtain ⟨N, rfl⟩ : ∃ N : Nat, n = N := ⟨n.toNat, by omega⟩
  obtain ⟨F, rfl⟩ : ∃ N : Nat, f = N := ⟨f.toNat, by omega⟩
  have hN1 : 1 ≤ N := by omega
  have hN2 : N ≤ 13 := by omega
  clear hwf hff
  go_wp2_with fail
  go_loopw [8, 9] (fun s8 s9 wr => ∃ (k : Nat) (R : List TypeV), k ≤ N ∧ s9 = .int .i64 k ∧ ChnS w wr N k r s8 R) (fun _ s9 _ => N - (intOf s9).toNat)
  case atStart => exact ⟨0, [], by omega, rfl, ⟨World.ownsRow_nil _ _ _ _, rfl, by simp, K1.out⟩⟩
  case round =>
    obtain ⟨k, R, hk, rfl, hS⟩ := hrel
    have HS := Lib.hid hS
    clear hS
    by_cases hlt : k < N
    · have hkN : (k : Int) < (N : Int) := by omega
      have zr := HS.out.kept.size
      go_wp2_with fail
      refine (letter_ k _ (by omega)).mono ?_
      rintro e w2 ⟨rfl, rfl⟩
      go_wp2_with fail
      refine (letter_i _ (13 + k) _ (by omega) (by omega)).mono ?_
      rintro e w2 ⟨rfl, rfl⟩
      by_cases hs : k + 1 < N
      · have hs' : (k : Int) + 1 < (N : Int) := by omega
        go_wp2_with fail
        refine (letter_i _ (k + 1) _ (by omega) (by omega)).mono ?_
        rintro e w2 ⟨rfl, rfl⟩
        go_upto_region 13 with fail
        have HSUP : Hid (supS N k r = letterS (k + 1)) := Lib.hid (by unfold supS; rw [if_pos hs])
        obtain ⟨sup, hsup⟩ : ∃ s, s = letterS (k + 1) := ⟨_, rfl⟩
        rw [← hsup] at HSUP ⊢
        clear hsup
        have OW := Lib.hid ((HS.out.own.alloc (.cells #[.string (letterS (13 + k))] 9)).alloc (.cells #[.string (letterS k), .string sup, .int .i64 33, .slice (some ⟨wr.heap.size, 0, none⟩) 1 1, .slice none 0 0, .slice none 0 0] 43))
        have hW13 : IntKind.i64.wrap (13 + (k : Int)) = 13 + (k : Int) := IntWalk.i64_in _ (by omega)
        go_region_law
          (first
          | (rw [if_pos (by rfl)]; go_simp; go_at_call 20; refine (letter_i _ (13 + k) _ (by omega) (by omega)).mono ?_; rintro e w' ⟨rfl, rfl⟩; dsimp only)
          | (refine step_append (P := Try.prog) elem_typ rfl (.tmp 55) (.tmp 61) rfl w.heap.size u8 (2 * k) (R.flatMap encTypeV) ?_ (OW.out.drew.alloc _) _ 2 (encTypeV (y1 k sup wr.heap.size) ++ encTypeV (y2 k)) ?_ (rd_blk (cs := encTypeV (y1 k sup wr.heap.size) ++ encTypeV (y2 k)) (blk_at (g := wr.heap.size + 1 + 1) (by simp)) rfl (by decide)) (wcs_one _ _ _) (by omega) (by omega) (by simp; omega) ?_; rfl; rfl; intro v5 w5 ho5 hg5 hq5; have HO5 := Lib.hid ho5; have HG5 := Lib.hid hg5; clear ho5 hg5 hq5))
        all_goals
          go_wp2_with fail
          go_roundw
          case rel => exact ⟨k + 1, _, by omega, by go_num, chn_next HS.out (by omega) (((Below.refl _ _).alloc (Nat.le_refl _) _).alloc (by simp) _) ((Blk.new wr _ _).alloc _) (by rw [HSUP.out]; exact HO5.out) HG5.out⟩
          case measure => simp [intOf]; omega
      · have hs' : ¬ ((k : Int) + 1 < (N : Int)) := by omega
        cases r with
        | true =>
          go_wp2_with fail
          refine (letter_i _ 0 _ (by omega) (by omega)).mono ?_
          rintro e w2 ⟨rfl, rfl⟩
          go_upto_region 13 with fail
          have HSUP : Hid (supS N k true = letterS 0) := Lib.hid (by unfold supS; rw [if_neg hs]; rfl)
          obtain ⟨sup, hsup⟩ : ∃ s, s = letterS 0 := ⟨_, rfl⟩
          rw [← hsup] at HSUP ⊢
          clear hsup
          have OW := Lib.hid ((HS.out.own.alloc (.cells #[.string (letterS (13 + k))] 9)).alloc (.cells #[.string (letterS k), .string sup, .int .i64 33, .slice (some ⟨wr.heap.size, 0, none⟩) 1 1, .slice none 0 0, .slice none 0 0] 43))
          have hW13 : IntKind.i64.wrap (13 + (k : Int)) = 13 + (k : Int) := IntWalk.i64_in _ (by omega)
          go_region_law
            (first
            | (rw [if_pos (by rfl)]; go_simp; go_at_call 20; refine (letter_i _ (13 + k) _ (by omega) (by omega)).mono ?_; rintro e w' ⟨rfl, rfl⟩; dsimp only)
            | (refine step_append (P := Try.prog) elem_typ rfl (.tmp 55) (.tmp 61) rfl w.heap.size u8 (2 * k) (R.flatMap encTypeV) ?_ (OW.out.drew.alloc _) _ 2 (encTypeV (y1 k sup wr.heap.size) ++ encTypeV (y2 k)) ?_ (rd_blk (cs := encTypeV (y1 k sup wr.heap.size) ++ encTypeV (y2 k)) (blk_at (g := wr.heap.size + 1 + 1) (by simp)) rfl (by decide)) (wcs_one _ _ _) (by omega) (by omega) (by simp; omega) ?_; rfl; rfl; intro v5 w5 ho5 hg5 hq5; have HO5 := Lib.hid ho5; have HG5 := Lib.hid hg5; clear ho5 hg5 hq5))
          all_goals
            go_wp2_with fail
            go_roundw
            case rel => exact ⟨k + 1, _, by omega, by go_num, chn_next HS.out (by omega) (((Below.refl _ _).alloc (Nat.le_refl _) _).alloc (by simp) _) ((Blk.new wr _ _).alloc _) (by rw [HSUP.out]; exact HO5.out) HG5.out⟩
            case measure => simp [intOf]; omega
        | false =>
          go_upto_region 13 with fail
          have HSUP : Hid (supS N k false = (⟨#[]⟩ : ByteArray)) := Lib.hid (by unfold supS; rw [if_neg hs]; rfl)
          obtain ⟨sup, hsup⟩ : ∃ s, s = (⟨#[]⟩ : ByteArray) := ⟨_, rfl⟩
          rw [← hsup] at HSUP ⊢
          clear hsup
          have OW := Lib.hid ((HS.out.own.alloc (.cells #[.string (letterS (13 + k))] 9)).alloc (.cells #[.string (letterS k), .string sup, .int .i64 33, .slice (some ⟨wr.heap.size, 0, none⟩) 1 1, .slice none 0 0, .slice none 0 0] 43))
          have hW13 : IntKind.i64.wrap (13 + (k : Int)) = 13 + (k : Int) := IntWalk.i64_in _ (by omega)
          go_region_law
            (first
            | (rw [if_pos (by rfl)]; go_simp; go_at_call 20; refine (letter_i _ (13 + k) _ (by omega) (by omega)).mono ?_; rintro e w' ⟨rfl, rfl⟩; dsimp only)
            | (refine step_append (P := Try.prog) elem_typ rfl (.tmp 55) (.tmp 61) rfl w.heap.size u8 (2 * k) (R.flatMap encTypeV) ?_ (OW.out.drew.alloc _) _ 2 (encTypeV (y1 k sup wr.heap.size) ++ encTypeV (y2 k)) ?_ (rd_blk (cs := encTypeV (y1 k sup wr.heap.size) ++ encTypeV (y2 k)) (blk_at (g := wr.heap.size + 1 + 1) (by simp)) rfl (by decide)) (wcs_one _ _ _) (by omega) (by omega) (by simp; omega) ?_; rfl; rfl; intro v5 w5 ho5 hg5 hq5; have HO5 := Lib.hid ho5; have HG5 := Lib.hid hg5; clear ho5 hg5 hq5))
          all_goals
            go_wp2_with fail
            go_roundw
            case rel => exact ⟨k + 1, _, by omega, by go_num, chn_next HS.out (by omega) (((Below.refl _ _).alloc (Nat.le_refl _) _).alloc (by simp) _) ((Blk.new wr _ _).alloc _) (by rw [HSUP.out]; exact HO5.out) HG5.out⟩
            case measure => simp [intOf]; omega
    · have hkN : N = k := by omega
      subst hkN
      have hT := HS.out.tyR hN2
      have HT := Lib.hid hT
      have KR := Lib.hid HS.out.kept
      clear hT
      obtain ⟨q, hNq⟩ : ∃ q, N = q + 1 := ⟨N - 1, by omega⟩
      obtain ⟨K, hK⟩ : ∃ K, K = F % N := ⟨_, rfl⟩
      have hKN' : K < N := by rw [hK]; exact Nat.mod_lt _ (by omega)
      have e1 := row_chain q (by omega) K (by omega) r
      have e2 := row_all q (by omega) K (by omega) r
      have e3 := row_subs q (by omega) K (by omega) r
      rw [← hNq] at e1 e2 e3
      clear hNq
      have hrem : (F : Int) % (N : Int) = (K : Int) := by rw [hK]; push_cast; rfl
      have hN0 : (0 : Int) < (N : Int) := by omega
      have HE1 := Lib.hid e1
      have HE2 := Lib.hid e2
      have HE3 := Lib.hid e3
      clear e1 e2 e3 hK
      have hKN : (K : Int) < (N : Int) := by omega
      have hkN : ¬ ((N : Int) < (N : Int)) := by omega
      obtain ⟨M, hWN⟩ : ∃ M, M = wantN N K r := ⟨_, rfl⟩
      have hMN : M ≤ N := by rw [hWN]; unfold wantN; split <;> omega
      have hM1 : 1 ≤ M := by rw [hWN]; unfold wantN; split <;> omega
      have HWN := Lib.hid hWN
      clear hWN
      go_upto_if 69 with fail
      rw [hrem]
      go_cut [12] from 70 to 70 (fun s12 wx => s12 = .int .i64 M ∧ wr = wx)
      case first =>
        have hq := HWN.out
        cases r with
        | true =>
          obtain rfl : M = N := by simpa [wantN] using hq
          clear hq
          go_wp2_with fail
          go_meet
          exact ⟨rfl, rfl⟩
        | false =>
          have hM : (N : Int) - (K : Int) = (M : Int) := by have : M = N - K := by simpa [wantN] using hq
                                                            omega
          clear hq
          have HM := Lib.hid hM
          clear hM
          go_wp2_with fail
          go_meet
          exact ⟨val_int HM.out, rfl⟩
      case rest =>
        obtain ⟨rfl, rfl⟩ := hcut
        clear hN0 hrem hkN hlt hk
        skip
        go_wp2_with fail
        refine (letter_ K _ (by omega)).mono ?_
        rintro e w2 ⟨rfl, rfl⟩
        go_wp2_with fail
        refine (kin_Chain (rowD N r) (letterS K) _ wr HT.out (lsz (by omega))).mono ?_
        rintro e w6 ⟨v6, rfl, r6, k6⟩
        have r7 : Row w6 wr.heap.size 9 1 v6 M (((List.range M).map fun i => letterS ((K + i) % N)).flatMap encS) := by
          unfold RowS at r6
          rw [HE1.out] at r6
          rw [← HWN.out] at r6
          simpa using r6
        have K6 := Lib.hid k6
        have R7 := Lib.hid r7
        have T6 := Lib.hid (HT.out.kept k6)
        clear r6 k6 r7
        go_wp2_with fail
        refine (letter_ K _ (by omega)).mono ?_
        rintro e w2 ⟨rfl, rfl⟩
        go_wp2_with fail
        refine (kin_All (rowD N r) (letterS K) _ w6 T6.out (lsz (by omega))).mono ?_
        rintro e w8 ⟨v8, rfl, r8, k8⟩
        have r9 : Row w8 w6.heap.size 9 1 v8 M (((List.range M).map fun i => letterS (13 + (K + i) % N)).flatMap encS) := by
          unfold RowS at r8
          rw [HE2.out] at r8
          rw [← HWN.out] at r8
          simpa using r8
        obtain ⟨g6, c6, rfl, hc6, hd6⟩ := R7.out.addr (by omega)
        obtain ⟨g8, c8, rfl, hc8, hd8⟩ := r9.addr (by omega)
        have RC := Lib.hid (R7.out.kept k8).cells.1
        have RA := Lib.hid r9.cells.1
        have K8 := Lib.hid (Kept.trans (Below.trans KR.out (K6.out.mono KR.out.size)) k8)
        have T8 := Lib.hid (T6.out.kept k8)
        clear r8 k8 r9 R7
        go_wp2_with fail
        go_loopw [15] (fun s15 wq => ∃ j : Nat, j ≤ M ∧ s15 = .int .i64 j ∧ Kept w8 wq) (fun s15 _ => M - (intOf s15).toNat)
        case atStart => exact ⟨0, by omega, rfl, Below.refl _ _⟩
        case round =>
          obtain ⟨j, hj, rfl, hkq⟩ := hrel
          rename World => wq
          have KQ := Lib.hid hkq
          clear hkq
          by_cases hjl : j < M
          · obtain ⟨P, hP⟩ : ∃ P, P = (K + j) % N := ⟨_, rfl⟩
            have hPN : P < N := by rw [hP]; exact Nat.mod_lt _ (by omega)
            obtain ⟨Q, hQ⟩ : ∃ Q, Q = 13 + P := ⟨_, rfl⟩
            have cx : wq.cell? ⟨g6, j, none⟩ = some (.string (letterS P)) := Kept.cell KQ.out <| RC.out j _ (by
              have h1 := flat_get encS 1 (fun _ => rfl) ((List.range M).map fun i => letterS ((K + i) % N)) j 0 (letterS P) (by simp [hjl, hP]) (by omega)
              rw [Nat.mul_one, Nat.add_zero] at h1
              exact h1)
            have ax : wq.cell? ⟨g8, j, none⟩ = some (.string (letterS Q)) := Kept.cell KQ.out <| RA.out j _ (by
              have h1 := flat_get encS 1 (fun _ => rfl) ((List.range M).map fun i => letterS (13 + (K + i) % N)) j 0 (letterS Q) (by simp [hjl, hP, hQ]) (by omega)
              rw [Nat.mul_one, Nat.add_zero] at h1
              exact h1)
            have hs1 := HE3.out j (by have := HWN.out; omega)
            rw [← hP, ← hQ] at hs1
            obtain ⟨hs1, hs2⟩ := hs1
            have CS1 := Lib.hid (fun W (hk : Kept w8 W) => kin_Sub (rowD N r) (letterS K) (letterS P) _ W (T8.out.kept hk) (lsz (by omega)))
            have CS2 := Lib.hid (fun W (hk : Kept w8 W) => kin_Sub (rowD N r) (letterS K) (letterS Q) _ W (T8.out.kept hk) (lsz (by omega)))
            rw [hs1] at CS1
            rw [hs2] at CS2
            have hw1 : IntKind.i64.wrap ((K : Int) + (j : Int)) = (K : Int) + (j : Int) := IntWalk.i64_in _ (by omega)
            have hm0 : ((K : Int) + (j : Int)) % (N : Int) = (P : Int) := by rw [hP]; push_cast; rfl
            have hm1 : ((K : Int) + (j : Int)).tmod (N : Int) = (P : Int) := by rw [Int.tmod_eq_emod_of_nonneg (by omega)]; exact hm0
            have hw2 : IntKind.i64.wrap (13 + (P : Int)) = (Q : Int) := by rw [IntWalk.i64_in _ (by omega), hQ]; push_cast; rfl
            have hw3 : IntKind.i64.wrap (P : Int) = (P : Int) := IntWalk.i64_in _ (by omega)
            have hjN : (j : Int) < (M : Int) := by omega
            have hj0 : (0 : Int) ≤ (j : Int) := by omega
            have hN1 : ¬ ((N : Int) = 0) := by omega
            have hNz : ¬ (N = 0) := by omega
            have hQ26 : Q < 26 := by omega
            clear hP hQ hs1 hs2 hn1 hn2 hf1 hc6 hd6 hc8 hd8 hKN'
            go_wp2_with fail
            go_region_held2 (fun w' => w'.cell? ⟨g6, j, none⟩ = some (.string (letterS P)) ∧ w'.cell? ⟨g8, j, none⟩ = some (.string (letterS Q))) (go_keep)
              (first
              | (go_at_call 20; refine (letter_ _ _ (by omega)).mono ?_; rintro e w' ⟨rfl, rfl⟩)
              | (go_at_call 23; (with_reducible refine (CS1.out _ KQ.out.drew).mono ?_); rintro e w7 ⟨rfl, k7⟩; have K71 := Lib.hid (Below.trans KQ.out.drew (k7.mono KQ.out.drew.size)); have cx7 := Kept.cell k7 cx; have ax7 := Kept.cell k7 ax; clear k7)
              | (go_at_call 23; (with_reducible refine (CS2.out _ K71.out).mono ?_); rintro e w9 ⟨rfl, k9⟩; have K91 := Lib.hid (Below.trans K71.out (k9.mono K71.out.size)); have cx9 := Kept.cell k9 cx7; have ax9 := Kept.cell k9 ax7; clear k9))
            go_wp2_with fail
            go_roundw
            case rel => exact ⟨j + 1, by omega, by go_num, K91.out⟩
            case measure => simp [intOf]; omega
          · have hjN : ¬ ((j : Int) < (M : Int)) := by omega
            go_wp2_with fail
            go_ret
            exact ⟨rfl, Below.trans K8.out (KQ.out.mono K8.out.size)⟩
end Go.Proofs.Ytjljfadfepidjaa
