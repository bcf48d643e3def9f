/-
  Chapter 12's law FindSpecific, walked.
-/
import Derived.Test.YtccbdnlknijcbaaFs0
import Derived.Test.YtccbdnlknijcbaaFn2
namespace Go.Proofs.Ytccbdnlknijcbaa
open Go.RowKit
set_option maxRecDepth 100000

/-- The first that declares, and the last, of those gone over. -/
def FLR (dc : Nat → Bool) (k : Nat) (fi la : Int) : Prop := (fi = -1 ∧ la = -1 ∧ ∀ i, i < k → dc i = false) ∨
  ∃ p q : Nat, fi = p ∧ la = q ∧ p < k ∧ q < k ∧ dc p = true ∧ dc q = true ∧ (∀ i, i < p → dc i = false) ∧ ∀ i, q < i → i < k → dc i = false
def nfi (b : Bool) (fi k : Int) : Int := if b = true then (if fi < 0 then k else fi) else fi
def nla (b : Bool) (la k : Int) : Int := if b = true then k else la
theorem flr_next {dc : Nat → Bool} {k : Nat} {fi la : Int} (h : FLR dc k fi la) : FLR dc (k + 1) (nfi (dc k) fi k) (nla (dc k) la k) := by
  unfold nfi nla
  cases hd : dc k with
  | true =>
    rw [if_pos rfl, if_pos rfl]
    rcases h with ⟨rfl, rfl, h⟩ | ⟨p, q, rfl, rfl, hp, hq, h1, h2, h3, h4⟩
    · rw [if_pos (by decide)]
      exact .inr ⟨k, k, rfl, rfl, by omega, by omega, hd, hd, h, fun i h1 h2 => by omega⟩
    · rw [if_neg (by omega)]
      exact .inr ⟨p, k, rfl, rfl, by omega, by omega, h1, hd, h3, fun i h1 h2 => by omega⟩
  | false =>
    rw [if_neg (by decide), if_neg (by decide)]
    rcases h with ⟨rfl, rfl, h⟩ | ⟨p, q, rfl, rfl, hp, hq, h1, h2, h3, h4⟩
    · exact .inl ⟨rfl, rfl, fun i hi => by rcases Nat.lt_or_eq_of_le (Nat.le_of_lt_succ hi) with h5 | rfl; exact h i h5; exact hd⟩
    · exact .inr ⟨p, q, rfl, rfl, by omega, by omega, h1, h2, h3, fun i h5 h6 => by rcases Nat.lt_or_eq_of_le (Nat.le_of_lt_succ h6) with h7 | rfl; exact h4 i h5 h7; exact hd⟩
theorem flr_lo {dc : Nat → Bool} {k : Nat} {fi la : Int} (h : FLR dc k fi la) : -1 ≤ fi ∧ fi < k := by
  rcases h with ⟨rfl, rfl, h⟩ | ⟨p, q, rfl, rfl, hp, hq, _⟩ <;> omega
theorem mem_acc (c : Bool) : -9223372036854775808 ≤ (if c = true then (1025 : Int) else 1) ∧ (if c = true then (1025 : Int) else 1) ≤ 9223372036854775807 := by cases c <;> decide
set_option maxHeartbeats 8000000 in
theorem walk_FindSpecific (n d ab : Int) (w : World) (hwf : (Lit.int .i64 n).wf = true) (hdf : (Lit.int .i64 d).wf = true) (hcf : (Lit.int .i64 ab).wf = true) :
    Calls Try.prog 3 #[.int .i64 n, .int .i64 d, .int .i64 ab] w fun e w' => e = .returned (.bool true) ∧ Below w.heap.size w w' := by
  go_enter Try.func3, Try.ntmps3
  go_wp2_with fail
  refine (alive12 _).mono ?_
  rintro e w1 ⟨rfl, k1⟩
  have K1 := Lib.hid k1
  clear k1
  by_cases hn1 : n < 1
  · go_wp2_with fail
    go_ret
    exact ⟨rfl, K1.out⟩
  by_cases hn2 : n > 10
  · go_wp2_with fail
    go_ret
    exact ⟨rfl, K1.out⟩
  obtain ⟨N, rfl⟩ : ∃ N : Nat, n = N := ⟨n.toNat, by omega⟩
  have hN1 : 1 ≤ N := by omega
  have hN2 : N ≤ 10 := by omega
  clear hwf hdf hcf
  obtain ⟨dc, hdc⟩ : ∃ f : Nat → Bool, f = bitB d := ⟨_, rfl⟩
  obtain ⟨ac, hac⟩ : ∃ f : Nat → Bool, f = bitB ab := ⟨_, rfl⟩
  have HDC := Lib.hid (show ∀ i : Nat, dc i = (bits .and .i64 (d / 2 ^ i) 1 == 1) by intro i; rw [hdc]; rfl)
  have HAC := Lib.hid (show ∀ i : Nat, ac i = (bits .and .i64 (ab / 2 ^ i) 1 == 1) by intro i; rw [hac]; rfl)
  clear hdc hac
  have zw1 := K1.out.size
  go_wp2_with fail
  refine (letter12_ 0 0 _ rfl (by omega)).mono ?_
  rintro e w2 ⟨rfl, rfl⟩
  go_upto_region 5 with fail
  have kx : Kept w ((w1.alloc (.cells #[.string (letterS 0)] 9)).alloc (.cells #[.string ⟨#[83]⟩, .string ⟨#[]⟩, .int .i64 33, .slice (some ⟨w1.heap.size, 0, none⟩) 1 1, .slice none 0 0, .slice none 0 0] 27)) := (K1.out.alloc zw1 _).alloc (K1.out.alloc zw1 _).size _
  have bx : Blk ((w1.alloc (.cells #[.string (letterS 0)] 9)).alloc (.cells #[.string ⟨#[83]⟩, .string ⟨#[]⟩, .int .i64 33, .slice (some ⟨w1.heap.size, 0, none⟩) 1 1, .slice none 0 0, .slice none 0 0] 27)) (w1.heap.size + 1) 27 #[.string ⟨#[83]⟩, .string ⟨#[]⟩, .int .i64 33, .slice (some ⟨w1.heap.size, 0, none⟩) 1 1, .slice none 0 0, .slice none 0 0] := blkN (by simp)
  have bs : Blk ((w1.alloc (.cells #[.string (letterS 0)] 9)).alloc (.cells #[.string ⟨#[83]⟩, .string ⟨#[]⟩, .int .i64 33, .slice (some ⟨w1.heap.size, 0, none⟩) 1 1, .slice none 0 0, .slice none 0 0] 27)) w1.heap.size 9 #[.string (letterS 0)] := (blkN rfl).alloc _
  generalize ((w1.alloc (.cells #[.string (letterS 0)] 9)).alloc (.cells #[.string ⟨#[83]⟩, .string ⟨#[]⟩, .int .i64 33, .slice (some ⟨w1.heap.size, 0, none⟩) 1 1, .slice none 0 0, .slice none 0 0] 27)) = X at *
  have hS0 : ListS w X (1 + 0) (fsK N 0 dc ac) (.slice (some ⟨w1.heap.size + 1, 0, none⟩) 1 1) [⟨sUp, ⟨#[]⟩, 33, .slice (some ⟨w1.heap.size, 0, none⟩) 1 1, [letterS 0], .slice none 0 0, [], .slice none 0 0, []⟩] := by
    refine ⟨rfl, ⟨rfl, .inr ⟨w1.heap.size + 1, 1, _, rfl, by omega, bx, Nat.le_refl _, by decide, rfl, rfl⟩⟩, rfl, ?_, kx⟩
    intro y hy
    simp only [List.mem_cons, List.not_mem_nil, or_false] at hy
    subst hy
    exact ⟨by show sUp.size ≤ maxLen; decide, by show (ByteArray.mk #[]).size ≤ maxLen; decide, by show -9223372036854775808 ≤ (33 : Int) ∧ (33 : Int) ≤ 9223372036854775807; decide, .inl ⟨rfl, rfl⟩, .inr ⟨w1.heap.size, letterS 0, lsz12 (by omega), rfl, rfl, bs⟩, .inl ⟨rfl, rfl⟩⟩
  have HS0 := Lib.hid hS0
  clear hS0 kx bx bs
  generalize w1.heap.size = h0 at *
  go_wp2_with fail
  go_loopw [8, 9, 10, 11] (fun s8 s9 s10 s11 wr => ∃ (k : Nat) (fi la : Int) (R : List TypeV), k ≤ N ∧ s9 = .int .i64 fi ∧ s10 = .int .i64 la ∧ s11 = .int .i64 k ∧ FLR dc k fi la ∧ ListS w wr (1 + k) (fsK N k dc ac) s8 R) (fun _ _ _ s11 _ => N - (intOf s11).toNat)
  case atStart => exact ⟨0, -1, -1, _, by omega, rfl, rfl, rfl, .inl ⟨rfl, rfl, fun i hi => by omega⟩, HS0.out⟩
  case round =>
    obtain ⟨k, fi, la, R, hk, rfl, rfl, rfl, hFL, hS⟩ := hrel
    have HS := Lib.hid hS
    have HFL := Lib.hid hFL
    obtain ⟨zf1, zf2⟩ := flr_lo hFL
    clear hS HS0 hFL
    by_cases hlt : k < N
    · have hkN : (k : Int) < (N : Int) := by omega
      have zr := HS.out.kept.size
      go_wp2_with fail
      refine (letter12_ k k _ rfl (by omega)).mono ?_
      rintro e w2 ⟨rfl, rfl⟩
      go_upto_region 11 with fail
      have kx : Kept wr (wr.alloc (.cells #[.string (letterS k), .string ⟨#[]⟩, .int .i64 1537, .slice none 0 0, .slice none 0 0, .slice none 0 0] 27)) := (Below.refl _ _).alloc (Nat.le_refl _) _
      have bx := Blk.new wr 27 #[.string (letterS k), .string ⟨#[]⟩, .int .i64 1537, .slice none 0 0, .slice none 0 0, .slice none 0 0]
      obtain ⟨gt, hgt⟩ : ∃ x, x = wr.heap.size := ⟨_, rfl⟩
      generalize (wr.alloc (.cells #[.string (letterS k), .string ⟨#[]⟩, .int .i64 1537, .slice none 0 0, .slice none 0 0, .slice none 0 0] 27)) = X1 at *
      rw [← hgt] at bx ⊢
      have ZG := Lib.hid (show wr.heap.size ≤ gt by omega)
      have KX := Lib.hid kx
      have BX := Lib.hid bx
      clear hgt kx bx
      go_upto_if 45 with fail
      go_cut [12] from 45 to 50 (fun s12 wx => ∃ iv, s12 = .pointer (some ⟨gt, 0, none⟩) ∧ Kept wr wx ∧ Blk wx gt 27 #[.string (letterS k), .string ⟨#[]⟩, .int .i64 1537, iv, .slice none 0 0, .slice none 0 0] ∧ OneS wx iv (fsI N k))
      case first =>
        have c3 := BX.out.cell 3
        have f3 := BX.out.frozen 3
        have zq := BX.out.lt
        have zn : ¬ (gt = X1.heap.size) := Nat.ne_of_lt zq
        simp only [List.getElem?_toArray, List.getElem?_cons_succ, List.getElem?_cons_zero] at c3
        by_cases hs : k + 1 < N
        · have hs' : (k : Int) + 1 < (N : Int) := by omega
          have HSUP := Lib.hid (show fsI N k = [letterS (k + 1)] by unfold fsI; rw [if_pos hs])
          go_wp2_with fail
          refine (letter12_ _ (k + 1) _ (by omega) (by omega)).mono ?_
          rintro e w2 ⟨rfl, rfl⟩
          go_wp2_with fail
          go_meet
          exact ⟨_, rfl, (KX.out.setCell ZG.out _).alloc (KX.out.setCell ZG.out _).size _, by simpa using (BX.out.set_ 3 (.slice (some ⟨X1.heap.size, 0, none⟩) 1 1)).alloc _, .inr ⟨X1.heap.size, letterS (k + 1), lsz12 (by omega), rfl, HSUP.out, blkN (by simp)⟩⟩
        · have hs' : ¬ ((k : Int) + 1 < (N : Int)) := by omega
          have HSUP := Lib.hid (show fsI N k = [] by unfold fsI; rw [if_neg hs])
          go_wp2_with fail
          go_meet
          exact ⟨_, rfl, KX.out, BX.out, .inl ⟨rfl, HSUP.out⟩⟩
      case rest =>
      clear KX BX
      obtain ⟨iv, rfl, kx, bx, os⟩ := hcut
      rename World => X2
      have KX := Lib.hid kx
      have BX := Lib.hid bx
      have OS := Lib.hid os
      clear kx bx os
      obtain ⟨b, hb⟩ : ∃ b, b = dc k := ⟨_, rfl⟩
      have HB := Lib.hid hb
      clear hb
      obtain ⟨c, hc⟩ : ∃ c, c = ac k := ⟨_, rfl⟩
      have HC := Lib.hid hc
      clear hc
      go_upto_region 13 with fail
      go_cut [56] from 51 to 56 (fun s wx => s = .bool b ∧ X2 = wx)
      case first =>
        go_wp2_with fail
        go_meet
        exact ⟨by rw [HB.out, HDC.out], rfl⟩
      case rest =>
      obtain ⟨rfl, rfl⟩ := hcut
      go_upto_if 56 with fail
      go_cut [9, 10, 12, 13] from 56 to 72 (fun s9 s10 s12 _ wx => ∃ mv, s9 = .int .i64 (nfi b fi k) ∧ s10 = .int .i64 (nla b la k) ∧ s12 = .pointer (some ⟨gt, 0, none⟩) ∧ Kept wr wx ∧ Blk wx gt 27 #[.string (letterS k), .string ⟨#[]⟩, .int .i64 1537, iv, .slice none 0 0, mv] ∧ OneS wx iv (fsI N k) ∧ OneY wx mv (fsM b c))
      case first =>
        have c5 := BX.out.cell 5
        have f5 := BX.out.frozen 5
        have zq := BX.out.lt
        have zn : ¬ (gt = X2.heap.size) := Nat.ne_of_lt zq
        simp only [List.getElem?_toArray, List.getElem?_cons_succ, List.getElem?_cons_zero] at c5
        cases b with
        | true =>
          go_upto_region 15 with fail
          go_cut [62] from 57 to 62 (fun s wx => s = .bool c ∧ X2 = wx)
          case first =>
            go_wp2_with fail
            go_meet
            exact ⟨by rw [HC.out, HAC.out], rfl⟩
          case rest =>
          obtain ⟨rfl, rfl⟩ := hcut
          have ts : ∀ V o, Touch (fun b => b = gt) X2 ((X2.setCell ⟨gt, 5, none⟩ V).alloc o) := fun V o => ((Touch.refl (fun b => b = gt) _).setCell (p := ⟨gt, 5, none⟩) (.inl rfl) _).alloc _
          have ty : ∀ k, k = gt → k < X2.heap.size → TyAt X2 k 27 := fun k hk _ => by rw [hk]; exact ⟨_, BX.out⟩
          by_cases hf : fi < 0
          · have HNF := Lib.hid (show nfi true fi k = k by unfold nfi; rw [if_pos rfl, if_pos hf])
            cases c with
            | true =>
              go_wp2_with fail
              go_meet
              exact ⟨_, by rw [HNF.out], rfl, rfl, (KX.out.setCell ZG.out _).alloc (KX.out.setCell ZG.out _).size _, by simpa using (BX.out.set_ 5 (.slice (some ⟨X2.heap.size, 0, none⟩) 1 1)).alloc _, OS.out.touch (ts _ _) ty, .inr ⟨X2.heap.size, ⟨1025, mB, dV, false, 0⟩, mem12 _ (by decide) (by decide), rfl, rfl, blkN (by simp)⟩⟩
            | false =>
              go_wp2_with fail
              go_meet
              exact ⟨_, by rw [HNF.out], rfl, rfl, (KX.out.setCell ZG.out _).alloc (KX.out.setCell ZG.out _).size _, by simpa using (BX.out.set_ 5 (.slice (some ⟨X2.heap.size, 0, none⟩) 1 1)).alloc _, OS.out.touch (ts _ _) ty, .inr ⟨X2.heap.size, ⟨1, mB, dV, true, 0⟩, mem12 _ (by decide) (by decide), rfl, rfl, blkN (by simp)⟩⟩
          · have HNF := Lib.hid (show nfi true fi k = fi by unfold nfi; rw [if_pos rfl, if_neg hf])
            cases c with
            | true =>
              go_wp2_with fail
              go_meet
              exact ⟨_, by rw [HNF.out], rfl, rfl, (KX.out.setCell ZG.out _).alloc (KX.out.setCell ZG.out _).size _, by simpa using (BX.out.set_ 5 (.slice (some ⟨X2.heap.size, 0, none⟩) 1 1)).alloc _, OS.out.touch (ts _ _) ty, .inr ⟨X2.heap.size, ⟨1025, mB, dV, false, 0⟩, mem12 _ (by decide) (by decide), rfl, rfl, blkN (by simp)⟩⟩
            | false =>
              go_wp2_with fail
              go_meet
              exact ⟨_, by rw [HNF.out], rfl, rfl, (KX.out.setCell ZG.out _).alloc (KX.out.setCell ZG.out _).size _, by simpa using (BX.out.set_ 5 (.slice (some ⟨X2.heap.size, 0, none⟩) 1 1)).alloc _, OS.out.touch (ts _ _) ty, .inr ⟨X2.heap.size, ⟨1, mB, dV, true, 0⟩, mem12 _ (by decide) (by decide), rfl, rfl, blkN (by simp)⟩⟩
        | false =>
          go_wp2_with fail
          go_meet
          exact ⟨_, rfl, rfl, rfl, KX.out, BX.out, OS.out, .inl ⟨rfl, rfl⟩⟩
      case rest =>
      clear KX BX OS
      obtain ⟨mv, rfl, rfl, rfl, kx, bx, os, om⟩ := hcut
      rename World => X3
      obtain ⟨ma, mn, mq, rfl⟩ := oneY_form om
      have hif : ∃ ia ine ic, iv = .slice ia ine ic := by
        rcases os with ⟨rfl, _⟩ | ⟨h, s, _, rfl, _, _⟩
        · exact ⟨_, _, _, rfl⟩
        · exact ⟨_, _, _, rfl⟩
      obtain ⟨ia, ine, ic, rfl⟩ := hif
      have HY := Lib.hid (And.intro os om)
      have KX := Lib.hid kx
      have OW := Lib.hid ((Touch.of_kept kx).own HS.out.own fun _ _ => id)
      have zw : w.heap.size ≤ X3.heap.size := Nat.le_trans zr kx.size
      have c0 := bx.cell 0
      have c1 := bx.cell 1
      have c2 := bx.cell 2
      have c3 := bx.cell 3
      have c4 := bx.cell 4
      have c5 := bx.cell 5
      simp only [List.getElem?_toArray, List.getElem?_cons_succ, List.getElem?_cons_zero] at c0 c1 c2 c3 c4 c5
      clear kx bx os om
      go_wp2_with (at_builtin; refine wpl_pushN _ elem_typ rfl _ _ rfl w.heap.size _ (1 + k) _ rfl OW.out 1 (encTypeV ⟨letterS k, ⟨#[]⟩, 1537, .slice ia ine ic, fsI N k, .slice none 0 0, [], .slice ma mn mq, fsM b c⟩) _ X3.heap.size rfl (by simp) rfl (typ_one _ rfl rfl rfl) (by omega) (by omega) zw ?_; intro v5 w5 ho5 hg5; have HO5 := Lib.hid ho5; have HG5 := Lib.hid hg5; clear ho5 hg5)
      go_roundw
      case rel =>
        refine ⟨k + 1, _, _, R ++ [⟨letterS k, ⟨#[]⟩, 1537, .slice ia ine ic, fsI N k, .slice none 0 0, [], .slice ma mn mq, fsM b c⟩], by omega, rfl, rfl, by go_num, by rw [HB.out]; exact flr_next HFL.out, ?_⟩
        have h5 := HS.out.next KX.out [⟨letterS k, ⟨#[]⟩, 1537, .slice ia ine ic, fsI N k, .slice none 0 0, [], .slice ma mn mq, fsM b c⟩] rfl (by
          obtain ⟨q1, q2⟩ := HY.out
          intro y hy
          simp only [List.mem_cons, List.not_mem_nil, or_false] at hy
          subst hy
          exact ⟨lsz12 (by omega), by show (ByteArray.mk #[]).size ≤ maxLen; decide, by show -9223372036854775808 ≤ (1537 : Int) ∧ (1537 : Int) ≤ 9223372036854775807; decide, .inl ⟨rfl, rfl⟩, q1, q2⟩) (by simpa using HO5.out) HG5.out
        rw [show 1 + (k + 1) = 1 + k + 1 by omega, fsK_next]
        have e1 : fsT N dc ac k = ⟨letterS k, ⟨#[]⟩, 1537, fsI N k, [], fsM b c⟩ := by rw [HB.out, HC.out]; rfl
        rw [e1]
        exact h5
      case measure => simp [intOf]; omega
    · obtain rfl : k = N := by omega
      have hT := HS.out.tyR (by omega)
      have HKR := Lib.hid HS.out.kept
      obtain ⟨D, hD⟩ : ∃ D, D = fsK k k dc ac := ⟨_, rfl⟩
      rw [← hD] at hT
      have HT := Lib.hid hT
      have HD := Lib.hid hD
      clear hT hD HS
      have hkN : ¬ ((k : Int) < (k : Int)) := by omega
      go_upto_region 23 with fail
      have k2 : Kept w (wr.alloc (.cells #[.string ⟨#[83]⟩, .string ⟨#[109]⟩, .string ⟨#[40, 41, 86]⟩] 33)) := HKR.out.alloc HKR.out.size _
      have t2 : TyR (wr.alloc (.cells #[.string ⟨#[83]⟩, .string ⟨#[109]⟩, .string ⟨#[40, 41, 86]⟩] 33)) u8 D := HT.out.kept ((Below.refl _ _).alloc (Nat.le_refl _) _)
      have b2 := Blk.new wr 33 #[.string ⟨#[83]⟩, .string ⟨#[109]⟩, .string ⟨#[40, 41, 86]⟩]
      obtain ⟨gr, hgr⟩ : ∃ x, x = wr.heap.size := ⟨_, rfl⟩
      rw [← hgr] at b2 ⊢
      generalize (wr.alloc (.cells #[.string ⟨#[83]⟩, .string ⟨#[109]⟩, .string ⟨#[40, 41, 86]⟩] 33)) = X2 at *
      have K2 := Lib.hid k2
      have T2 := Lib.hid t2
      have B2 := Lib.hid b2
      have q0 := b2.cell 0
      have q1 := b2.cell 1
      have q2 := b2.cell 2
      simp only [List.getElem?_toArray, List.getElem?_cons_succ, List.getElem?_cons_zero] at q0 q1 q2
      clear k2 t2 b2 hgr
      go_wp2_with fail
      refine (find_Most D sUp sUp mB dV _ X2 T2.out (by decide)).mono ?_
      rintro e x3 ⟨v3, rfl, hr, k3⟩
      have K3 := Lib.hid (Below.trans K2.out (k3.mono K2.out.size))
      have T3 := Lib.hid (T2.out.kept k3)
      have b3 := B2.out.kept k3
      clear q0 q1 q2
      have q0 := b3.cell 0
      have q1 := b3.cell 1
      have q2 := b3.cell 2
      simp only [List.getElem?_toArray, List.getElem?_cons_succ, List.getElem?_cons_zero] at q0 q1 q2
      have HR := Lib.hid hr
      clear hr k3 b3
      rcases HFL.out with ⟨rfl, rfl, hno⟩ | ⟨p, q, rfl, rfl, hp, hq, hd1, hd2, hn1, hn2⟩
      · obtain ⟨hm, hme⟩ := fs_none (ac := ac) (by omega) (by omega) hno
        rw [← HD.out] at hm hme
        have hr := HR.out
        rw [hm] at hr
        have R1 := Lib.hid (show resV (methR D sUp mB dV) = .tuple #[.agg #[.string ⟨#[]⟩, .int .i64 0], .string nmB] by rw [hme]; rfl)
        obtain ⟨_, a3, c3, rfl, -⟩ := hr.rd
        clear hr hm hme
        simp only [List.length_nil]
        go_wp2_with fail
        refine (find_Method D sUp mB dV _ x3 T3.out (by decide)).mono ?_
        rintro e x4 ⟨rfl, k4⟩
        rw [R1.out]
        have K4 := Lib.hid (Below.trans K3.out (k4.mono K3.out.size))
        have a1 := nm_lit
        clear k4
        go_wp2_with fail
        go_ret
        exact ⟨rfl, K4.out.alloc K4.out.size _⟩
      · have hm := fs_most (ac := ac) (by omega) hp hd1 hn1
        have hme := fs_some (ac := ac) (by omega) hp hd1 hn1 hq hd2 hn2
        rw [← HD.out] at hm hme
        have hr := HR.out
        rw [hm] at hr
        obtain ⟨b, hb⟩ : ∃ b, b = ac p := ⟨_, rfl⟩
        rw [← hb] at hme
        have HB := Lib.hid hb
        obtain ⟨f, hf⟩ : ∃ f, f = (if b = true then q else p) := ⟨_, rfl⟩
        rw [← hf] at hme
        have R1 := Lib.hid (show resV (methR D sUp mB dV) = .tuple #[.agg #[.string (letterS f), .int .i64 0], .string ⟨#[]⟩] by rw [hme]; rfl)
        have HF := Lib.hid hf
        obtain ⟨g3, o3, c3, rfl, y0, y1⟩ := fnd_cell (l := [gF p]) (k := 0) rfl hr.rd rfl
        clear hr hm hme hb hf
        simp only [List.length_cons, List.length_nil, Nat.zero_add]
        simp only [Nat.zero_mul, Nat.add_zero, gF] at y0 y1
        go_wp2_with fail
        refine (find_Method D sUp mB dV _ x3 T3.out (by decide)).mono ?_
        rintro e x4 ⟨rfl, k4⟩
        rw [R1.out]
        have yl : g3 < x3.heap.size := World.block_lt_of_cell? x3 _ y0
        have y0' := k4.cell y0
        have y1' := k4.cell y1
        have yl4 : g3 < x4.heap.size := World.block_lt_of_cell? x4 _ y0'
        have K4 := Lib.hid (Below.trans K3.out (k4.mono K3.out.size))
        clear y0 y1 k4
        go_upto_region 25 with fail
        have b5 := Blk.new x4 37 #[.string (letterS f), .int .i64 0]
        have k5 : Kept x4 (x4.alloc (.cells #[.string (letterS f), .int .i64 0] 37)) := (Below.refl _ _).alloc (Nat.le_refl _) _
        have K5 := Lib.hid (K4.out.alloc K4.out.size (.cells #[.string (letterS f), .int .i64 0] 37))
        obtain ⟨g5, hg5⟩ : ∃ x, x = x4.heap.size := ⟨_, rfl⟩
        rw [← hg5] at b5 ⊢
        have z0 := k5.cell y0'
        have z1 := k5.cell y1'
        generalize (x4.alloc (.cells #[.string (letterS f), .int .i64 0] 37)) = X5 at *
        have p0 := b5.cell 0
        have p1 := b5.cell 1
        simp only [List.getElem?_toArray, List.getElem?_cons_succ, List.getElem?_cons_zero] at p0 p1
        clear k5 b5 y0' y1' yl yl4 hg5
        go_upto_region 27 with fail
        go_quiet ((go_at_call 6; exact quiet_l (letter12_ p p _ rfl (by omega))))
        go_upto_region 29 with fail
        generalize hX6 : World.drewN X5 _ = X6 at *
        have p0 : X6.cell? ⟨g5, 0, none⟩ = some (.string (letterS f)) := by rw [← hX6]; exact p0
        have p1 : X6.cell? ⟨g5, 1, none⟩ = some (.int .i64 0) := by rw [← hX6]; exact p1
        have z0 : X6.cell? ⟨g3, o3, none⟩ = some (.string (letterS p)) := by rw [← hX6]; exact z0
        have z1 : X6.cell? ⟨g3, o3 + 1, none⟩ = some (.int .i64 0) := by rw [← hX6]; exact z1
        have K6 : Hid (Kept w X6) := Lib.hid (by rw [← hX6]; exact kept_drewN K5.out _)
        clear hX6
        go_cut [117] from 112 to 117 (fun s wx => s = .bool b ∧ X6 = wx)
        case first =>
          go_wp2_with fail
          go_meet
          exact ⟨by rw [HB.out, HAC.out], rfl⟩
        case rest =>
        obtain ⟨rfl, rfl⟩ := hcut
        cases b with
        | true =>
          obtain rfl : f = q := HF.out
          go_upto_region 30 with fail
          go_quiet ((go_at_call 6; exact quiet_l (letter12_ _ f _ rfl (by omega))))
          go_wp2_with fail
          go_ret
          exact ⟨rfl, kept_drewN K6.out _⟩
        | false =>
          obtain rfl : f = p := HF.out
          go_upto_region 31 with fail
          go_quiet (fail)
          go_wp2_with fail
          go_ret
          exact ⟨rfl, kept_drewN K6.out _⟩
end Go.Proofs.Ytccbdnlknijcbaa
