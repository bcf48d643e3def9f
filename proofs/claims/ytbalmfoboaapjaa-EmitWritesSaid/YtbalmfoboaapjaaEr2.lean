/-
  The document's answer for emit by contract: fair.
-/
import Derived.Test.YtbalmfoboaapjaaEr1
namespace Go.Proofs.Ytbalmfoboaapjaa
set_option linter.unusedVariables false
set_option linter.unusedSimpArgs false
open Go.RowKit
set_option maxRecDepth 100000

set_option maxHeartbeats 4000000 in
theorem ref4_fair (t n a b : Int) (s : ByteArray) (w : World) (hkd : kindC t) (p : Prop) (hp : p ↔ fairC ⟨t, s, n, a, b⟩) :
    Calls Try.prog 35 #[.agg #[.int .i64 t, .string s, .int .i64 n, .int .i64 a, .int .i64 b]] w (MethB p w) := by
  have HKD := Lib.hid hkd
  clear hkd
  have HP := Lib.hid hp
  clear hp
  have hk : Kept w (w.alloc (.cells #[.int .i64 t, .string s, .int .i64 n, .int .i64 a, .int .i64 b] 41)) := (Below.refl _ _).alloc (Nat.le_refl _) _
  have HK := Lib.hid hk
  have HB := Lib.hid (Blk.new w 41 #[.int .i64 t, .string s, .int .i64 n, .int .i64 a, .int .i64 b])
  clear hk
  go_enter Try.func35, Try.ntmps35
  go_upto_region 1 with fail
  generalize (w.alloc (.cells #[.int .i64 t, .string s, .int .i64 n, .int .i64 a, .int .i64 b] 41)) = W at *
  have c0 := HB.out.cell 0
  have c1 := HB.out.cell 1
  have c2 := HB.out.cell 2
  have c3 := HB.out.cell 3
  have c4 := HB.out.cell 4
  simp only [List.getElem?_toArray, List.getElem?_cons_succ, List.getElem?_cons_zero] at c0 c1 c2 c3 c4
  have C := ref4_twosN [a, b] W (by simp)
  go_wp2_with fail
  refine C.mono ?_
  rintro e w1 ⟨bT, rfl, hb, hw⟩
  have K1 := Lib.hid (show Kept W w1 from hw ▸ (Below.refl _ W).alloc (Nat.le_refl _) _)
  have HbT := Lib.hid hb
  have c0 := K1.out.cell c0
  have c1 := K1.out.cell c1
  have c2 := K1.out.cell c2
  have c3 := K1.out.cell c3
  have c4 := K1.out.cell c4
  clear hb hw C
  cases bT
  · have HN := Lib.hid (show ¬ p from fun e => by
      have h1 := HP.out.1 e
      have h2 := HbT.out.2 (by simp only [List.mem_cons, List.not_mem_nil, or_false]; rintro x (rfl | rfl) <;> first | exact h1.1 | exact h1.2.1)
      cases h2)
    clear HbT
    go_wp2_with fail
    go_quiet (fail)
    go_wp2_with fail
    go_ret
    exact ⟨false, rfl, ⟨fun e => (by cases e), fun e => absurd e HN.out⟩, Kept.trans HK.out (kept_drewN K1.out _)⟩
  have HTW := Lib.hid (HbT.out.1 rfl)
  clear HbT
  by_cases hs : s.size ≤ 65535
  rotate_left
  · have HN := Lib.hid (show ¬ p from fun e => hs (HP.out.1 e).2.2.1)
    have hsI : (65535 : Int) < (s.size : Int) := by omega
    clear hs
    go_wp2_with fail
    go_quiet (fail)
    go_wp2_with fail
    go_ret
    exact ⟨false, rfl, ⟨fun e => (by cases e), fun e => absurd e HN.out⟩, Kept.trans HK.out (kept_drewN K1.out _)⟩
  have hsI : ¬ (65535 : Int) < (s.size : Int) := by omega
  have HS := Lib.hid hs
  clear hs
  obtain ⟨m, hm⟩ : ∃ m, m = wrap32 n := ⟨_, rfl⟩
  have CW := fun W => ref1_Wrap n W
  rw [← hm] at CW
  have HM := Lib.hid hm
  have HCW := Lib.hid CW
  clear hm CW
  by_cases hn : n = m
  rotate_left
  · have HN := Lib.hid (show ¬ p from fun e => hn (by rw [HM.out]; exact (wrap32_of n (HP.out.1 e).2.2.2.1.1 (HP.out.1 e).2.2.2.1.2).symm))
    have hne : (n != m) = true := by simpa using hn
    clear hn
    go_wp2_with fail
    go_quiet ((go_at_call 45; exact quiet_l (HCW.out _)))
    go_wp2_with fail
    go_ret
    exact ⟨false, rfl, ⟨fun e => (by cases e), fun e => absurd e HN.out⟩, Kept.trans HK.out (kept_drewN K1.out _)⟩
  subst hn
  have HNR := Lib.hid (show -2147483648 ≤ n ∧ n ≤ 2147483647 by rw [HM.out]; exact wrap32_bd n)
  rcases HKD.out with h | h | h | h
  · have HT := Lib.hid h
    subst h
    by_cases hn : n = 0
    rotate_left
    · have hne := (show (n == 0) = false by simpa using hn)
      have HN := Lib.hid (show ¬ p from fun e => hn ((HP.out.1 e).2.2.2.2.2.1 (by dsimp only; have := HT.out; omega)))
      clear hn
      go_wp2_with fail
      go_quiet ((go_at_call 45; exact quiet_l (HCW.out _)))
      go_wp2_with fail
      go_ret
      exact ⟨false, rfl, ⟨fun e => (by cases e), fun e => absurd e HN.out⟩, Kept.trans HK.out (kept_drewN K1.out _)⟩
    subst hn
    by_cases ha : a = 0
    rotate_left
    · have hne := (show (a == 0) = false by simpa using ha)
      have HN := Lib.hid (show ¬ p from fun e => ha ((HP.out.1 e).2.2.2.2.2.2.1 (by dsimp only; have := HT.out; omega)))
      clear ha
      go_wp2_with fail
      go_quiet ((go_at_call 45; exact quiet_l (HCW.out _)))
      go_wp2_with fail
      go_ret
      exact ⟨false, rfl, ⟨fun e => (by cases e), fun e => absurd e HN.out⟩, Kept.trans HK.out (kept_drewN K1.out _)⟩
    subst ha
    by_cases hb : b = 0
    rotate_left
    · have hne := (show (b == 0) = false by simpa using hb)
      have HN := Lib.hid (show ¬ p from fun e => hb ((HP.out.1 e).2.2.2.2.2.2.2 (by dsimp only; have := HT.out; omega)))
      clear hb
      go_wp2_with fail
      go_quiet ((go_at_call 45; exact quiet_l (HCW.out _)))
      go_wp2_with fail
      go_ret
      exact ⟨false, rfl, ⟨fun e => (by cases e), fun e => absurd e HN.out⟩, Kept.trans HK.out (kept_drewN K1.out _)⟩
    subst hb
    go_wp2_with fail
    go_quiet ((go_at_call 45; exact quiet_l (HCW.out _)))
    go_wp2_with fail
    go_ret
    refine ⟨true, rfl, ⟨fun _ => HP.out.2 ⟨HTW.out _ (by simp), HTW.out _ (by simp), HS.out, HNR.out, fun e => absurd rfl e, fun _ => rfl, fun _ => rfl, fun _ => rfl⟩, fun _ => rfl⟩, Kept.trans HK.out (kept_drewN K1.out _)⟩
  · have HT := Lib.hid h
    subst h
    by_cases hs : s.size = 0
    rotate_left
    · have hne := str_some2 hs
      have HN := Lib.hid (show ¬ p from fun e => hs ((HP.out.1 e).2.2.2.2.1 (by dsimp only; have := HT.out; omega)))
      clear hs
      go_wp2_with fail
      go_quiet ((go_at_call 45; exact quiet_l (HCW.out _)))
      go_wp2_with fail
      go_ret
      exact ⟨false, rfl, ⟨fun e => (by cases e), fun e => absurd e HN.out⟩, Kept.trans HK.out (kept_drewN K1.out _)⟩
    obtain rfl := bytes_empty hs
    clear hs
    by_cases ha : a = 0
    rotate_left
    · have hne := (show (a == 0) = false by simpa using ha)
      have HN := Lib.hid (show ¬ p from fun e => ha ((HP.out.1 e).2.2.2.2.2.2.1 (by dsimp only; have := HT.out; omega)))
      clear ha
      go_wp2_with fail
      go_quiet ((go_at_call 45; exact quiet_l (HCW.out _)))
      go_wp2_with fail
      go_ret
      exact ⟨false, rfl, ⟨fun e => (by cases e), fun e => absurd e HN.out⟩, Kept.trans HK.out (kept_drewN K1.out _)⟩
    subst ha
    by_cases hb : b = 0
    rotate_left
    · have hne := (show (b == 0) = false by simpa using hb)
      have HN := Lib.hid (show ¬ p from fun e => hb ((HP.out.1 e).2.2.2.2.2.2.2 (by dsimp only; have := HT.out; omega)))
      clear hb
      go_wp2_with fail
      go_quiet ((go_at_call 45; exact quiet_l (HCW.out _)))
      go_wp2_with fail
      go_ret
      exact ⟨false, rfl, ⟨fun e => (by cases e), fun e => absurd e HN.out⟩, Kept.trans HK.out (kept_drewN K1.out _)⟩
    subst hb
    go_wp2_with fail
    go_quiet ((go_at_call 45; exact quiet_l (HCW.out _)))
    go_wp2_with fail
    go_ret
    refine ⟨true, rfl, ⟨fun _ => HP.out.2 ⟨HTW.out _ (by simp), HTW.out _ (by simp), HS.out, HNR.out, fun _ => rfl, fun e => absurd rfl e, fun _ => rfl, fun _ => rfl⟩, fun _ => rfl⟩, Kept.trans HK.out (kept_drewN K1.out _)⟩
  · have HT := Lib.hid h
    subst h
    by_cases hs : s.size = 0
    rotate_left
    · have hne := str_some2 hs
      have HN := Lib.hid (show ¬ p from fun e => hs ((HP.out.1 e).2.2.2.2.1 (by dsimp only; have := HT.out; omega)))
      clear hs
      go_wp2_with fail
      go_quiet ((go_at_call 45; exact quiet_l (HCW.out _)))
      go_wp2_with fail
      go_ret
      exact ⟨false, rfl, ⟨fun e => (by cases e), fun e => absurd e HN.out⟩, Kept.trans HK.out (kept_drewN K1.out _)⟩
    obtain rfl := bytes_empty hs
    clear hs
    by_cases hn : n = 0
    rotate_left
    · have hne := (show (n == 0) = false by simpa using hn)
      have HN := Lib.hid (show ¬ p from fun e => hn ((HP.out.1 e).2.2.2.2.2.1 (by dsimp only; have := HT.out; omega)))
      clear hn
      go_wp2_with fail
      go_quiet ((go_at_call 45; exact quiet_l (HCW.out _)))
      go_wp2_with fail
      go_ret
      exact ⟨false, rfl, ⟨fun e => (by cases e), fun e => absurd e HN.out⟩, Kept.trans HK.out (kept_drewN K1.out _)⟩
    subst hn
    by_cases hb : b = 0
    rotate_left
    · have hne := (show (b == 0) = false by simpa using hb)
      have HN := Lib.hid (show ¬ p from fun e => hb ((HP.out.1 e).2.2.2.2.2.2.2 (by dsimp only; have := HT.out; omega)))
      clear hb
      go_wp2_with fail
      go_quiet ((go_at_call 45; exact quiet_l (HCW.out _)))
      go_wp2_with fail
      go_ret
      exact ⟨false, rfl, ⟨fun e => (by cases e), fun e => absurd e HN.out⟩, Kept.trans HK.out (kept_drewN K1.out _)⟩
    subst hb
    go_wp2_with fail
    go_quiet ((go_at_call 45; exact quiet_l (HCW.out _)))
    go_wp2_with fail
    go_ret
    refine ⟨true, rfl, ⟨fun _ => HP.out.2 ⟨HTW.out _ (by simp), HTW.out _ (by simp), HS.out, HNR.out, fun _ => rfl, fun _ => rfl, fun e => by dsimp only at e; have := HT.out; omega, fun _ => rfl⟩, fun _ => rfl⟩, Kept.trans HK.out (kept_drewN K1.out _)⟩
  · have HT := Lib.hid h
    have e1 : (t == 1) = false := by simp; have := HT.out; omega
    have e3 : (t == 3) = false := by simp; have := HT.out; omega
    have e7 : (t == 7) = false := by simp; have := HT.out; omega
    clear h
    by_cases hs : s.size = 0
    rotate_left
    · have hne := str_some2 hs
      have HN := Lib.hid (show ¬ p from fun e => hs ((HP.out.1 e).2.2.2.2.1 (by dsimp only; have := HT.out; omega)))
      clear hs
      go_wp2_with fail
      go_quiet ((go_at_call 45; exact quiet_l (HCW.out _)))
      go_wp2_with fail
      go_ret
      exact ⟨false, rfl, ⟨fun e => (by cases e), fun e => absurd e HN.out⟩, Kept.trans HK.out (kept_drewN K1.out _)⟩
    obtain rfl := bytes_empty hs
    clear hs
    by_cases hn : n = 0
    rotate_left
    · have hne := (show (n == 0) = false by simpa using hn)
      have HN := Lib.hid (show ¬ p from fun e => hn ((HP.out.1 e).2.2.2.2.2.1 (by dsimp only; have := HT.out; omega)))
      clear hn
      go_wp2_with fail
      go_quiet ((go_at_call 45; exact quiet_l (HCW.out _)))
      go_wp2_with fail
      go_ret
      exact ⟨false, rfl, ⟨fun e => (by cases e), fun e => absurd e HN.out⟩, Kept.trans HK.out (kept_drewN K1.out _)⟩
    subst hn
    go_wp2_with fail
    go_quiet ((go_at_call 45; exact quiet_l (HCW.out _)))
    go_wp2_with fail
    go_ret
    refine ⟨true, rfl, ⟨fun _ => HP.out.2 ⟨HTW.out _ (by simp), HTW.out _ (by simp), HS.out, HNR.out, fun _ => rfl, fun _ => rfl, fun e => by dsimp only at e; have := HT.out; omega, fun e => by dsimp only at e; have := HT.out; omega⟩, fun _ => rfl⟩, Kept.trans HK.out (kept_drewN K1.out _)⟩
theorem ref4_fair' (c : ConstC) (w : World) (hk : kindC c.tag) : Calls Try.prog 35 #[.agg (encC c).toArray] w (MethB (fairC c) w) := by
  obtain ⟨t, s, n, a, b⟩ := c
  exact ref4_fair t n a b s w hk _ Iff.rfl
end Go.Proofs.Ytbalmfoboaapjaa
