/-
  Package file by contract: code.
-/
import Derived.Test.YtbalmfoboaapjaaFileA
namespace Go.Proofs.Ytbalmfoboaapjaa
set_option linter.unusedVariables false
set_option linter.unusedSimpArgs false
open Go.RowKit
set_option maxRecDepth 100000

set_option maxHeartbeats 4000000 in
theorem file_code (g B : Nat) (L : List UInt8) (vb : Value) (pool : List ConstC) (vp : Value) (z base : Nat) (hB : B ≤ z) (m : MethC) (p : Nat) (long : Int) (s : PS) (w : World) (h : RS w g B L vb pool vp s) (hj : ∃ vc vt, MB z base m vc vt w) (htr : m.traps = []) (hp : p ≤ 65536) (hl0 : 0 ≤ long) (hl1 : long ≤ 4294967295) :
    Calls Try.prog 49 #[.pointer (some ⟨g, 0, none⟩), .pointer (some ⟨z, 0, none⟩), .int .i64 p, .int .i64 long] w (Ans (codeP L pool m p long s) (MS g z) w (TellG g B L vb pool vp (MS g z) (fun m w => ∃ vc vt, MB z base m vc vt w) w)) := by
  obtain ⟨mA, mN, mD, mH, mS, mL, mC, mT⟩ := m
  dsimp only at htr
  subst htr
  obtain ⟨vc, vt, hm⟩ := hj
  obtain ⟨R, hR⟩ : ∃ R, R = codeP L pool ⟨mA, mN, mD, mH, mS, mL, mC, []⟩ p long s := ⟨_, rfl⟩
  rw [← hR]
  have HR := Lib.hid hR
  have hat : (s.at_ : Int) ≤ 65536 := by have := h.at_; have := h.len; omega
  have hC0 : CB w g B L vb pool vp z base ⟨mA, mN, mD, mH, mS, mL, mC, []⟩ vc vt s w := ⟨h, hm, Touch.refl _ _, hB⟩
  have HC1 := Lib.hid ((hC0.most (s.at_ + long) p ⟨by omega, by omega⟩ ⟨by omega, by omega⟩).put 3 (.bool true) ⟨mA, mN, mD, true, mS, mL, mC, []⟩ rfl rfl rfl)
  obtain ⟨c0, c1, c2, c3, c4⟩ := h.cells
  obtain ⟨z0, z1, z2, z3, z4, z5, z6, z7⟩ := hm.cells
  have f2 := h.blk.frozen 2
  have f3 := h.blk.frozen 3
  have i3 := hm.blk.frozen 3
  have lg := h.blk.lt
  have lz := hm.blk.lt
  have ne1 : ¬ (g = z) := by have := h.lt; omega
  have ne2 : ¬ (z = g) := by omega
  have hwr : IntKind.i64.wrap ((s.at_ : Int) + long) = s.at_ + long := IntWalk.i64_in _ (by omega)
  clear h hm hC0 hR
  go_enter Try.func49, Try.ntmps49
  go_upto_region 3 with fail
  clear c0 c1 c2 c3 c4 z0 z1 z2 z3 z4 z5 z6 z7 f2 f3 i3 lg lz hwr hat
  generalize ((w.setCell ⟨g, 2, none⟩ (.int .i64 ((s.at_ : Int) + long))).setCell ⟨g, 3, none⟩ (.int .i64 p)).setCell ⟨z, 3, none⟩ (.bool true) = W0 at *
  go_wp2_with fail
  refine (ans_k (file_number g B L vb pool vp _ 2 W0 HC1.out.rs (by omega) (by omega) 2 rfl) HR.out).mono ?_
  rintro e w1 (⟨st, s1, -, hr, rfl, hrs, ht, -, -⟩ | ⟨q, k, hr, rfl, ht⟩)
  rotate_left
  · refine ⟨rfl, ?_⟩
    rw [hr]
    exact ⟨rfl, HC1.out.bad ht⟩
  have HR1 := Lib.hid hr
  have HC2 := Lib.hid (HC1.out.next hrs ht)
  clear hr hrs ht HC1 HR
  go_wp2_with fail
  refine (ans_k (file_number g B L vb pool vp _ 2 w1 HC2.out.rs (by omega) (by omega) 2 rfl) HR1.out).mono ?_
  rintro e w2 (⟨lo, s2, -, hr, rfl, hrs, ht, -, -⟩ | ⟨q, k, hr, rfl, ht⟩)
  rotate_left
  · refine ⟨rfl, ?_⟩
    rw [hr]
    exact ⟨rfl, HC2.out.bad ht⟩
  have HR2 := Lib.hid hr
  have HC3 := Lib.hid (HC2.out.next hrs ht)
  clear hr hrs ht HC2 HR1
  have HC4 := Lib.hid ((HC3.out.put 4 (.int .i64 st) ⟨mA, mN, mD, true, st, mL, mC, []⟩ rfl rfl rfl).put 5 (.int .i64 lo) ⟨mA, mN, mD, true, st, lo, mC, []⟩ rfl rfl rfl)
  have z4 := HC3.out.mb.cells.2.2.2.2.1
  have z5 := HC3.out.mb.cells.2.2.2.2.2.1
  have i4 := HC3.out.mb.blk.frozen 4
  have i5 := HC3.out.mb.blk.frozen 5
  have lz := HC3.out.mb.blk.lt
  go_upto_region 4 with fail
  clear z4 z5 i4 i5 lz HC3
  generalize (w2.setCell ⟨z, 4, none⟩ (.int .i64 st)).setCell ⟨z, 5, none⟩ (.int .i64 lo) = W4 at *
  have c1 := HC4.out.rs.cells.2.1
  go_wp2_with fail
  refine (ans_k (file_number g B L vb pool vp _ 4 W4 HC4.out.rs (by omega) (by omega) 4 rfl) HR2.out).mono ?_
  rintro e w5 (⟨n, s3, -, hr, rfl, hrs, ht, hn0, hn1⟩ | ⟨q, k, hr, rfl, ht⟩)
  rotate_left
  · refine ⟨rfl, ?_⟩
    rw [hr]
    exact ⟨rfl, HC4.out.bad ht⟩
  have HR3 := Lib.hid hr
  have HC5 := Lib.hid (HC4.out.next hrs ht)
  have hn2 : n ≤ 4294967295 := by have : n < 4294967296 := hn1; omega
  clear hr hrs ht HC4 HR2 c1 hn1
  by_cases hbig : 4096 < n
  · have HB := Lib.hid (show R = .bad s2.at_ 2 by rw [HR3.out, if_pos hbig])
    go_wp2_with fail
    refine (file_wrong _ _ _ _).mono ?_
    rintro e w6 ⟨rfl, rfl⟩
    refine ⟨rfl, ?_⟩
    rw [HB.out]
    exact ⟨rfl, HC5.out.tch⟩
  have HR4 := Lib.hid (HR3.out.trans (if_neg hbig))
  clear HR3
  go_wp2_with fail
  refine (ans_k (file_bytes g B L vb pool vp _ n w5 HC5.out.rs ⟨hn0, hn2⟩) HR4.out).mono ?_
  rintro e w6 (⟨l, s4, hle, hr, v, rfl, hrd, hrs, ht, -⟩ | ⟨q, k, hr, rfl, ht⟩)
  rotate_left
  · refine ⟨rfl, ?_⟩
    rw [hr]
    exact ⟨rfl, HC5.out.bad ht⟩
  have HL := Lib.hid (bytesP_len hle hn0)
  have hl2 : l.length ≤ 4096 := by have := HL.out; omega
  have HR5 := Lib.hid hr
  have HC6 := Lib.hid (HC5.out.next hrs ht)
  have HRD := Lib.hid hrd
  clear hr hrs ht HC5 HR4 hle hrd HL hn0 hn2 hbig
  go_wp2_with (at_builtin; refine wpl_append_at _ elem_byte rfl (.const (.slice none 0 0)) (.tmp 52) rfl base (.slice none 0 0) 0 [] rfl (World.ownsRow_nil _ _ _ _) v l.length _ rfl HRD.out (by intro u hu; obtain ⟨x, _, rfl⟩ := List.mem_map.1 hu; rfl) (by omega) (by omega) HC6.out.mb.le ?_; intro v4 w7 ho4 hg4 hk4; rw [Nat.zero_add, List.nil_append] at ho4; obtain ⟨a4, c4, rfl, -, -⟩ := own_slice ho4; have HO := Lib.hid ho4; have HG := Lib.hid hg4; have HK := Lib.hid hk4; clear ho4 hg4 hk4; have HC6' := Lib.hid (HC6.out.same (Touch.of_grown (S := fun _ => False) HG.out fun k hk => by cases hk)); have z6 := HC6'.out.mb.cells.2.2.2.2.2.2.1; have i6 := HC6'.out.mb.blk.frozen 6; have lz := HC6'.out.mb.blk.lt)
  have HC7 : Hid (CB w g B L vb pool vp z base ⟨mA, mN, mD, true, st, lo, l, []⟩ (.slice a4 l.length c4) vt s4 (w7.setCell ⟨z, 6, none⟩ (.slice a4 l.length c4))) := Lib.hid (HC6.out.code HG.out HO.out fun k hk => (HK.out k hk).resolve_left (fun e => by cases e))
  clear z6 i6 lz HC6' HC6 HG HO HK HRD
  generalize w7.setCell ⟨z, 6, none⟩ (.slice a4 l.length c4) = W7 at *
  refine (ans_k (file_count g B L vb pool vp _ 64 W7 HC7.out.rs) HR5.out).mono ?_
  rintro e w8 (⟨n8, s5, hcn, hr, rfl, hrs, ht, hk0, -⟩ | ⟨q, k, hr, rfl, ht⟩)
  rotate_left
  · refine ⟨rfl, ?_⟩
    rw [hr]
    exact ⟨rfl, HC7.out.bad ht⟩
  have hk1 := countP_le hcn
  obtain ⟨N, rfl⟩ : ∃ N : Nat, n8 = N := ⟨n8.toNat, by omega⟩
  have HR6 := Lib.hid (show R = (manyP (trapP L) N s5).bind (fun tr s6 => codeK L pool ⟨mA, mN, mD, mH, mS, mL, mC, []⟩ p st lo l ([] ++ tr) s6) from hr)
  have HC8 := Lib.hid (HC7.out.next hrs ht)
  clear hr hrs ht hcn HC7 HR5
  go_wp2_with fail
  go_loopw [58] (fun s58 wr => ∃ (k : Nat) (sk : PS) (done : List TrapC) (v : Value), k ≤ N ∧ s58 = .int .i64 k ∧ done.length = k ∧ CB w g B L vb pool vp z base ⟨mA, mN, mD, true, st, lo, l, done⟩ (.slice a4 l.length c4) v sk wr ∧ R = (manyP (trapP L) (N - k) sk).bind (fun tr s6 => codeK L pool ⟨mA, mN, mD, mH, mS, mL, mC, []⟩ p st lo l (done ++ tr) s6)) (fun s58 _ => N - (intOf s58).toNat)
  case atStart => exact ⟨0, s5, [], vt, by omega, rfl, rfl, HC8.out, HR6.out⟩
  case round =>
    obtain ⟨k, sk, done, v, hk, rfl, rfl, hC, hr⟩ := hrel
    clear HC8 HR6
    by_cases hlt : done.length < N
    · obtain ⟨j, hj⟩ : ∃ j, N - done.length = j + 1 := ⟨N - done.length - 1, by omega⟩
      have hjk : j = N - (done.length + 1) := by omega
      rw [hj, traps_succ] at hr
      have hltI : (done.length : Int) < (N : Int) := by omega
      obtain ⟨av, cv, rfl, -, -⟩ := own_slice hC.mb.rows.traps
      have t7 := hC.mb.cells.2.2.2.2.2.2.2
      have D0 := Lib.hid hC
      have R0 := Lib.hid hr
      have zw := hC.mb.blk.lt
      clear hr hC hj
      go_wp2_with fail
      go_region_law (first
        | (refine step_pushH _ elem_trap rfl (.tmp 64) (.tmp 74) rfl base _ done.length _ rfl D4.out.mb.rows.traps (encT ⟨b1, b2, b3, b4⟩) _ _ rfl rfl rfl (by intro u hu; simp [encT] at hu; rcases hu with rfl | rfl | rfl | rfl <;> rfl) (by omega) (by omega) D4.out.mb.le ?_
           intro v5 w9 ho5 hg5 hk5
           obtain ⟨a5, c5, rfl, -, -⟩ := own_slice (n := done.length + 1) ho5
           obtain ⟨y7, i7, l7⟩ := D4.out.grow hg5
           have D5 := Lib.hid (D4.out.trap hg5 ho5 hk5)
           clear ho5 hg5 hk5)
        | (go_simp
           go_at_call 38
           refine (ans_k (file_number g B L vb pool vp _ 2 _ D3.out.rs (by omega) (by omega) 2 rfl) R3.out).mono ?_
           rintro e x4 (⟨b4, q4, -, hr, rfl, hrs, ht, -, -⟩ | ⟨q, kk, hr, rfl, ht⟩)
           rotate_left
           · refine ⟨rfl, ?_⟩
             rw [hr]
             exact ⟨rfl, D3.out.bad ht⟩
           have D4 := Lib.hid (D3.out.next hrs ht)
           have R4 := Lib.hid hr
           have t7 := D4.out.mb.cells.2.2.2.2.2.2.2
           have zw := D4.out.mb.blk.lt
           clear hr hrs ht)
        | (go_simp
           go_at_call 38
           refine (ans_k (file_number g B L vb pool vp _ 2 _ D2.out.rs (by omega) (by omega) 2 rfl) R2.out).mono ?_
           rintro e x3 (⟨b3, q3, -, hr, rfl, hrs, ht, -, -⟩ | ⟨q, kk, hr, rfl, ht⟩)
           rotate_left
           · refine ⟨rfl, ?_⟩
             rw [hr]
             exact ⟨rfl, D2.out.bad ht⟩
           have D3 := Lib.hid (D2.out.next hrs ht)
           have R3 := Lib.hid hr
           have t7 := D3.out.mb.cells.2.2.2.2.2.2.2
           have zw := D3.out.mb.blk.lt
           clear hr hrs ht)
        | (go_simp
           go_at_call 38
           refine (ans_k (file_number g B L vb pool vp _ 2 _ D1.out.rs (by omega) (by omega) 2 rfl) R1.out).mono ?_
           rintro e x2 (⟨b2, q2, -, hr, rfl, hrs, ht, -, -⟩ | ⟨q, kk, hr, rfl, ht⟩)
           rotate_left
           · refine ⟨rfl, ?_⟩
             rw [hr]
             exact ⟨rfl, D1.out.bad ht⟩
           have D2 := Lib.hid (D1.out.next hrs ht)
           have R2 := Lib.hid hr
           have t7 := D2.out.mb.cells.2.2.2.2.2.2.2
           have zw := D2.out.mb.blk.lt
           clear hr hrs ht)
        | (go_simp
           go_at_call 38
           refine (ans_k (file_number g B L vb pool vp _ 2 _ (by first | exact D0.out.rs | exact D0.out.drew.rs) (by omega) (by omega) 2 rfl) R0.out).mono ?_
           rintro e x1 (⟨b1, q1, -, hr, rfl, hrs, ht, -, -⟩ | ⟨q, kk, hr, rfl, ht⟩)
           rotate_left
           · refine ⟨rfl, ?_⟩
             rw [hr]
             exact ⟨rfl, D0.out.drew.bad ht⟩
           have D1 := Lib.hid (D0.out.drew.next hrs ht)
           have R1 := Lib.hid hr
           have t7 := D1.out.mb.cells.2.2.2.2.2.2.2
           have zw := D1.out.mb.blk.lt
           clear hr hrs ht))
      all_goals
        (have RR := Lib.hid (show R = (manyP (trapP L) (N - (done.length + 1)) q4).bind (fun tr s6 => codeK L pool ⟨mA, mN, mD, mH, mS, mL, mC, []⟩ p st lo l ((done ++ [⟨b1, b2, b3, b4⟩]) ++ tr) s6) by
           refine R4.out.trans ?_
           show (manyP (trapP L) j q4).bind (fun tr s6 => codeK L pool ⟨mA, mN, mD, mH, mS, mL, mC, []⟩ p st lo l (done ++ (⟨b1, b2, b3, b4⟩ :: tr)) s6) = _
           rw [hjk]
           simp only [List.append_assoc, List.singleton_append])
         have DD : Hid (CB w g B L vb pool vp z base ⟨mA, mN, mD, true, st, lo, l, done ++ [⟨b1, b2, b3, b4⟩]⟩ (.slice a4 l.length c4) (.slice a5 (done.length + 1) c5) q4 (w9.setCell ⟨z, 7, none⟩ (.slice a5 (done.length + 1) c5))) := D5
         clear D0 D1 D2 D3 D4 D5 R0 R1 R2 R3 R4 t7 zw y7 i7 l7
         generalize w9.setCell ⟨z, 7, none⟩ (.slice a5 (done.length + 1) c5) = W9 at *
         go_wp2_with fail
         go_roundw
         case rel => exact ⟨done.length + 1, q4, done ++ [⟨b1, b2, b3, b4⟩], _, by omega, by go_num, by simp, DD.out, RR.out⟩
         case measure => simp [intOf]; omega)
    · obtain hlN : done.length = N := by omega
      have HRk := Lib.hid (show R = (skipP L pool sk).bind (fun _ s7 => if (s7.at_ : Int) ≠ s7.most then .bad p 25 else .ok ⟨mA, mN, mD, true, st, lo, l, done⟩ { s7 with most := far }) by
        rw [hr, hlN, Nat.sub_self]
        show codeK L pool ⟨mA, mN, mD, mH, mS, mL, mC, []⟩ p st lo l (done ++ []) sk = _
        rw [List.append_nil]
        rfl)
      have D0 := Lib.hid hC
      have hltI : ¬ (done.length : Int) < (N : Int) := by omega
      clear hr hC
      go_wp2_with fail
      refine (ans_k (file_skip g B L vb pool vp sk wr D0.out.rs) HRk.out).mono ?_
      rintro e w9 (⟨_, s7, -, hr, rfl, hrs, ht⟩ | ⟨q, kk, hr, rfl, ht⟩)
      rotate_left
      · refine ⟨rfl, ?_⟩
        rw [hr]
        exact ⟨rfl, D0.out.bad ht⟩
      have D1 := Lib.hid (D0.out.next hrs ht)
      have R1 := Lib.hid hr
      obtain ⟨-, c1, c2, -, -⟩ := hrs.cells
      have f2 := hrs.blk.frozen 2
      have lg := hrs.blk.lt
      clear hr hrs ht HRk D0
      by_cases hne : (s7.at_ : Int) = s7.most
      · have R2 := Lib.hid (R1.out.trans (if_neg (fun h => h hne)))
        clear R1
        go_wp2_with fail
        go_quiet (fail)
        go_wp2_with fail
        refine bodyPost_end (results_none rfl _ _ _) rfl ?_
        rw [R2.out, Ans.ok_]
        exact ⟨rfl, (D1.out.drewN _).far.rs, (D1.out.drewN _).far.tch, _, _, (D1.out.drewN _).far.mb⟩
      · have R2 := Lib.hid (R1.out.trans (if_pos hne))
        clear R1
        go_wp2_with fail
        go_quiet (fail)
        go_wp2_with fail
        refine (file_wrong _ _ _ _).mono ?_
        rintro e wa ⟨rfl, rfl⟩
        refine ⟨rfl, ?_⟩
        rw [R2.out]
        exact ⟨rfl, (D1.out.drewN _).tch⟩
end Go.Proofs.Ytbalmfoboaapjaa
