/-
  Package check by contract: a method's code and traps.
-/
import Derived.Test.YtcklmhbcjgiplaaCkA
namespace Go.Proofs.Ytcklmhbcjgiplaa
set_option linter.unusedVariables false
set_option linter.unusedSimpArgs false
open Go.RowKit
open Go.Maps Go.WideMaps
set_option maxRecDepth 100000

theorem any_at {α : Type} {l : List α} {p : α → Bool} {k : Nat} {x : α} (h : l[k]? = some x) (hp : p x = true) : l.any p = true := List.any_eq_true.2 ⟨x, List.mem_of_getElem? h, hp⟩
theorem any_take {α : Type} {l : List α} {p : α → Bool} {k : Nat} {x : α} (h : l[k]? = some x) (h0 : (l.take k).any p = false) (hp : p x = false) : (l.take (k + 1)).any p = false := by
  rw [List.take_add_one, h, List.any_append, h0]
  simp [hp]
def badT (n : Nat) (t : TrapC) : Bool := decide (t.fr < 0) || decide (t.to ≤ t.fr) || decide ((n : Int) < t.to) || decide (t.at_ < 0) || decide ((n : Int) ≤ t.at_)
def badC (pool : List ConstC) (h : Bool) (t : TrapC) : Bool := h && t.ty != 0 && !(getC pool t.ty 7).isSome
/-- As codeF, its parts as they lie in memory. -/
def codeQ (xa : Int) (xh : Bool) (xs xl : Int) (nC : Nat) (traps : List TrapC) (args : Nat) : Bool :=
  if xh = hasF xa 1024 then true
  else if xh = false then false
  else if nC = 0 ∨ xs < 0 ∨ 64 < xs ∨ xl < 0 ∨ 64 < xl ∨ xl < (args : Int) + (if hasF xa 8 = true then 0 else 1) then true
  else traps.any (badT nC)
theorem codeF_P (m : MethC) (n : Nat) : codeF m n = codeQ m.access m.has m.stack m.locals m.code.length m.traps n := rfl
theorem trapF_P (pool : List ConstC) (m : MethC) : trapF pool m = m.traps.any (badC pool m.has) := rfl
set_option maxHeartbeats 8000000 in
theorem check_code (xa xn xd : Int) (xh : Bool) (xs xl : Int) (aC aT : Option Addr) (nC kC nT kT : Nat) (traps : List TrapC) (s : ByteArray) (w : World) (hn : s.size ≤ 255) (hl : nC ≤ 4611686018427387904) (ht : Rd w 4 (.slice aT nT kT) traps.length (traps.flatMap encT)) (hnt : nT = traps.length) :
    Calls Try.prog 73 #[.agg #[.int .i64 xa, .int .i64 xn, .int .i64 xd, .bool xh, .int .i64 xs, .int .i64 xl, .slice aC nC kC, .slice aT nT kT], .string s] w (BoolG (codeQ xa xh xs xl nC traps s.size) w) := by
  have hk : Kept w (w.alloc (.cells #[.int .i64 xa, .int .i64 xn, .int .i64 xd, .bool xh, .int .i64 xs, .int .i64 xl, .slice aC nC kC, .slice aT nT kT] 52)) := (Below.refl _ _).alloc (Nat.le_refl _) _
  have HK := Lib.hid hk
  have HB := Lib.hid (Blk.new w 52 #[.int .i64 xa, .int .i64 xn, .int .i64 xd, .bool xh, .int .i64 xs, .int .i64 xl, .slice aC nC kC, .slice aT nT kT])
  obtain ⟨R, hR⟩ : ∃ R, R = codeQ xa xh xs xl nC traps s.size := ⟨_, rfl⟩
  rw [← hR]
  unfold codeQ at hR
  have N1 := Lib.hid hnt
  have HTN := Lib.hid (show Rd w 4 (.slice aT nT kT) nT (traps.flatMap encT) by rw [hnt] at ht ⊢; exact ht)
  have ht2 := ht.kept hk
  rw [← hnt] at ht2
  have HT := Lib.hid ht2
  obtain ⟨N, hN⟩ : ∃ N, N = s.size := ⟨_, rfl⟩
  have hw1 : IntKind.i64.wrap ((N : Int) + 1) = (N : Int) + 1 := IntWalk.i64_in _ (by omega)
  have hs1 : (s.size : Int) = (N : Int) := by omega
  rw [← hN] at hR
  have hnb : nT ≤ 9223372036854775807 := by obtain ⟨_, _, _, e, q1, q2, _⟩ := ht2; cases e; omega
  clear hk ht ht2 hnt hn hN
  go_enter Try.func73, Try.ntmps73
  go_upto_region 1 with fail
  generalize (w.alloc (.cells #[.int .i64 xa, .int .i64 xn, .int .i64 xd, .bool xh, .int .i64 xs, .int .i64 xl, .slice aC nC kC, .slice aT nT kT] 52)) = W at *
  have c0 := HB.out.cell 0
  have c1 := HB.out.cell 1
  have c2 := HB.out.cell 2
  have c3 := HB.out.cell 3
  have c4 := HB.out.cell 4
  have c5 := HB.out.cell 5
  have c6 := HB.out.cell 6
  have c7 := HB.out.cell 7
  simp only [List.getElem?_toArray, List.getElem?_cons_succ, List.getElem?_cons_zero] at c0 c1 c2 c3 c4 c5 c6 c7
  cases h1024 : hasF xa 1024
  · rw [h1024] at hR
    cases xh
    · rw [if_pos rfl] at hR
      have HR := Lib.hid hR
      clear hR
      (go_wp2_with (go_at_call 52; refine (some_q _ _ _).mono ?_; rintro e w9 ⟨rfl, rfl⟩)
       go_ret
       exact ⟨by rw [HR.out]; rfl, HK.out⟩)
    rw [if_neg (by decide), if_neg (by decide)] at hR
    obtain ⟨nd, hnd⟩ : ∃ z : Int, z = (N : Int) + (if hasF xa 8 = true then 0 else 1) := ⟨_, rfl⟩
    rw [← hnd] at hR
    have HND := Lib.hid hnd
    clear hnd
    cases h8 : hasF xa 8 <;>
    (have hnd2 := HND.out
     rw [h8] at hnd2
     first
     | (have hz : nd = (N : Int) := by simpa using hnd2
        subst hz)
     | (have hz : nd = (N : Int) + 1 := by simpa using hnd2
        subst hz)
     clear hnd2 HND
     by_cases g1 : nC = 0
     · rw [if_pos (.inl g1)] at hR
       have HR := Lib.hid hR
       subst g1
       clear hR
       (go_wp2_with (go_at_call 52; refine (some_q _ _ _).mono ?_; rintro e w9 ⟨rfl, rfl⟩)
        go_ret
        exact ⟨by rw [HR.out]; rfl, HK.out⟩)
     have g1I : ((nC : Int) == 0) = false := by simpa using g1
     by_cases g2 : xs < 0
     · rw [if_pos (.inr (.inl g2))] at hR
       have HR := Lib.hid hR
       clear hR
       (go_wp2_with (go_at_call 52; refine (some_q _ _ _).mono ?_; rintro e w9 ⟨rfl, rfl⟩)
        go_ret
        exact ⟨by rw [HR.out]; rfl, HK.out⟩)
     by_cases g3 : 64 < xs
     · rw [if_pos (.inr (.inr (.inl g3)))] at hR
       have HR := Lib.hid hR
       clear hR
       (go_wp2_with (go_at_call 52; refine (some_q _ _ _).mono ?_; rintro e w9 ⟨rfl, rfl⟩)
        go_ret
        exact ⟨by rw [HR.out]; rfl, HK.out⟩)
     by_cases g4 : xl < 0
     · rw [if_pos (.inr (.inr (.inr (.inl g4))))] at hR
       have HR := Lib.hid hR
       clear hR
       (go_wp2_with (go_at_call 52; refine (some_q _ _ _).mono ?_; rintro e w9 ⟨rfl, rfl⟩)
        go_ret
        exact ⟨by rw [HR.out]; rfl, HK.out⟩)
     by_cases g5 : 64 < xl
     · rw [if_pos (.inr (.inr (.inr (.inr (.inl g5)))))] at hR
       have HR := Lib.hid hR
       clear hR
       (go_wp2_with (go_at_call 52; refine (some_q _ _ _).mono ?_; rintro e w9 ⟨rfl, rfl⟩)
        go_ret
        exact ⟨by rw [HR.out]; rfl, HK.out⟩)
     first
     | (by_cases g6 : xl < (N : Int)
        · rw [if_pos (.inr (.inr (.inr (.inr (.inr g6)))))] at hR
          have HR := Lib.hid hR
          clear hR
          (go_wp2_with (go_at_call 52; refine (some_q _ _ _).mono ?_; rintro e w9 ⟨rfl, rfl⟩)
           go_ret
           exact ⟨by rw [HR.out]; rfl, HK.out⟩)
        rw [if_neg (fun h => by rcases h with h | h | h | h | h | h <;> contradiction)] at hR
        have HR := Lib.hid hR
        clear hR g1
        go_wp2_with (go_at_call 52; refine (some_q _ _ _).mono ?_; rintro e w9 ⟨rfl, rfl⟩)
        go_loopw [62] (fun sl wr => ∃ k : Nat, k ≤ nT ∧ sl = .int .i64 k ∧ Kept w wr ∧ (traps.take k).any (badT nC) = false) (fun sl _ => nT - (intOf sl).toNat)
        case atStart => exact ⟨0, by omega, rfl, HK.out, by simp⟩
        case round =>
          obtain ⟨k, hk, rfl, hkw, hno⟩ := hrel
          have HNO := Lib.hid hno
          have KW := Lib.hid hkw
          clear hno hkw
          by_cases hlt : k < nT
          rotate_left
          · obtain rfl : k = nT := by omega
            have HR2 := Lib.hid (show R = false by rw [HR.out, ← HNO.out, List.take_of_length_le (by have := N1.out; omega)])
            go_wp2_with fail
            go_ret
            exact ⟨by rw [HR2.out]; rfl, KW.out⟩
          obtain ⟨⟨fr, tq, at_, ty⟩, hx⟩ : ∃ x, traps[k]? = some x := ⟨_, List.getElem?_eq_getElem (by have := N1.out; omega)⟩
          obtain ⟨b1, o1, d1, hv1, e0, e1, e2, e3⟩ := trap_cell N1.out (HTN.out.kept KW.out) hx
          simp only [Value.slice.injEq] at hv1
          obtain ⟨rfl, -, rfl⟩ := hv1
          dsimp only at e0 e1 e2 e3
          have hkI : (k : Int) < (nT : Int) := by omega
          have h0I : (0 : Int) ≤ (k : Int) := by omega
          have HX := Lib.hid hx
          clear hx
          have HRT : badT nC ⟨fr, tq, at_, ty⟩ = true → R = true := fun h => by rw [HR.out]; exact any_at HX.out h
          have HRH := Lib.hid HRT
          clear HRT
          by_cases t1 : fr < 0
          · have HR2 := Lib.hid (HRH.out (by unfold badT; dsimp only; simp [t1]))
            go_wp2_with fail
            go_ret
            exact ⟨by rw [HR2.out]; rfl, Kept.trans KW.out ((Below.refl _ _).alloc (Nat.le_refl _) _)⟩
          by_cases t2 : tq ≤ fr
          · have HR2 := Lib.hid (HRH.out (by unfold badT; dsimp only; simp [t2]))
            go_wp2_with fail
            go_ret
            exact ⟨by rw [HR2.out]; rfl, Kept.trans KW.out ((Below.refl _ _).alloc (Nat.le_refl _) _)⟩
          by_cases t3 : (nC : Int) < tq
          · have HR2 := Lib.hid (HRH.out (by unfold badT; dsimp only; simp [t3]))
            go_wp2_with fail
            go_ret
            exact ⟨by rw [HR2.out]; rfl, Kept.trans KW.out ((Below.refl _ _).alloc (Nat.le_refl _) _)⟩
          by_cases t4 : at_ < 0
          · have HR2 := Lib.hid (HRH.out (by unfold badT; dsimp only; simp [t4]))
            go_wp2_with fail
            go_ret
            exact ⟨by rw [HR2.out]; rfl, Kept.trans KW.out ((Below.refl _ _).alloc (Nat.le_refl _) _)⟩
          by_cases t5 : (nC : Int) ≤ at_
          · have HR2 := Lib.hid (HRH.out (by unfold badT; dsimp only; simp [t5]))
            go_wp2_with fail
            go_ret
            exact ⟨by rw [HR2.out]; rfl, Kept.trans KW.out ((Below.refl _ _).alloc (Nat.le_refl _) _)⟩
          have HB0 := Lib.hid (show badT nC ⟨fr, tq, at_, ty⟩ = false by unfold badT; dsimp only; simp [t1, t2, t3, t4, t5])
          go_wp2_with fail
          go_roundw
          case rel => exact ⟨k + 1, by omega, by go_num, Kept.trans KW.out ((Below.refl _ _).alloc (Nat.le_refl _) _), any_take HX.out HNO.out HB0.out⟩
          case measure => simp [intOf]; omega)
     | (by_cases g6 : xl < (N : Int) + 1
        · rw [if_pos (.inr (.inr (.inr (.inr (.inr g6)))))] at hR
          have HR := Lib.hid hR
          clear hR
          (go_wp2_with (go_at_call 52; refine (some_q _ _ _).mono ?_; rintro e w9 ⟨rfl, rfl⟩)
           go_ret
           exact ⟨by rw [HR.out]; rfl, HK.out⟩)
        rw [if_neg (fun h => by rcases h with h | h | h | h | h | h <;> contradiction)] at hR
        have HR := Lib.hid hR
        clear hR g1
        go_wp2_with (go_at_call 52; refine (some_q _ _ _).mono ?_; rintro e w9 ⟨rfl, rfl⟩)
        go_loopw [62] (fun sl wr => ∃ k : Nat, k ≤ nT ∧ sl = .int .i64 k ∧ Kept w wr ∧ (traps.take k).any (badT nC) = false) (fun sl _ => nT - (intOf sl).toNat)
        case atStart => exact ⟨0, by omega, rfl, HK.out, by simp⟩
        case round =>
          obtain ⟨k, hk, rfl, hkw, hno⟩ := hrel
          have HNO := Lib.hid hno
          have KW := Lib.hid hkw
          clear hno hkw
          by_cases hlt : k < nT
          rotate_left
          · obtain rfl : k = nT := by omega
            have HR2 := Lib.hid (show R = false by rw [HR.out, ← HNO.out, List.take_of_length_le (by have := N1.out; omega)])
            go_wp2_with fail
            go_ret
            exact ⟨by rw [HR2.out]; rfl, KW.out⟩
          obtain ⟨⟨fr, tq, at_, ty⟩, hx⟩ : ∃ x, traps[k]? = some x := ⟨_, List.getElem?_eq_getElem (by have := N1.out; omega)⟩
          obtain ⟨b1, o1, d1, hv1, e0, e1, e2, e3⟩ := trap_cell N1.out (HTN.out.kept KW.out) hx
          simp only [Value.slice.injEq] at hv1
          obtain ⟨rfl, -, rfl⟩ := hv1
          dsimp only at e0 e1 e2 e3
          have hkI : (k : Int) < (nT : Int) := by omega
          have h0I : (0 : Int) ≤ (k : Int) := by omega
          have HX := Lib.hid hx
          clear hx
          have HRT : badT nC ⟨fr, tq, at_, ty⟩ = true → R = true := fun h => by rw [HR.out]; exact any_at HX.out h
          have HRH := Lib.hid HRT
          clear HRT
          by_cases t1 : fr < 0
          · have HR2 := Lib.hid (HRH.out (by unfold badT; dsimp only; simp [t1]))
            go_wp2_with fail
            go_ret
            exact ⟨by rw [HR2.out]; rfl, Kept.trans KW.out ((Below.refl _ _).alloc (Nat.le_refl _) _)⟩
          by_cases t2 : tq ≤ fr
          · have HR2 := Lib.hid (HRH.out (by unfold badT; dsimp only; simp [t2]))
            go_wp2_with fail
            go_ret
            exact ⟨by rw [HR2.out]; rfl, Kept.trans KW.out ((Below.refl _ _).alloc (Nat.le_refl _) _)⟩
          by_cases t3 : (nC : Int) < tq
          · have HR2 := Lib.hid (HRH.out (by unfold badT; dsimp only; simp [t3]))
            go_wp2_with fail
            go_ret
            exact ⟨by rw [HR2.out]; rfl, Kept.trans KW.out ((Below.refl _ _).alloc (Nat.le_refl _) _)⟩
          by_cases t4 : at_ < 0
          · have HR2 := Lib.hid (HRH.out (by unfold badT; dsimp only; simp [t4]))
            go_wp2_with fail
            go_ret
            exact ⟨by rw [HR2.out]; rfl, Kept.trans KW.out ((Below.refl _ _).alloc (Nat.le_refl _) _)⟩
          by_cases t5 : (nC : Int) ≤ at_
          · have HR2 := Lib.hid (HRH.out (by unfold badT; dsimp only; simp [t5]))
            go_wp2_with fail
            go_ret
            exact ⟨by rw [HR2.out]; rfl, Kept.trans KW.out ((Below.refl _ _).alloc (Nat.le_refl _) _)⟩
          have HB0 := Lib.hid (show badT nC ⟨fr, tq, at_, ty⟩ = false by unfold badT; dsimp only; simp [t1, t2, t3, t4, t5])
          go_wp2_with fail
          go_roundw
          case rel => exact ⟨k + 1, by omega, by go_num, Kept.trans KW.out ((Below.refl _ _).alloc (Nat.le_refl _) _), any_take HX.out HNO.out HB0.out⟩
          case measure => simp [intOf]; omega))
  · rw [h1024] at hR
    cases xh
    · rw [if_neg (by decide), if_pos rfl] at hR
      have HR := Lib.hid hR
      clear hR
      (go_wp2_with (go_at_call 52; refine (some_q _ _ _).mono ?_; rintro e w9 ⟨rfl, rfl⟩)
       go_ret
       exact ⟨by rw [HR.out]; rfl, HK.out⟩)
    · rw [if_pos rfl] at hR
      have HR := Lib.hid hR
      clear hR
      (go_wp2_with (go_at_call 52; refine (some_q _ _ _).mono ?_; rintro e w9 ⟨rfl, rfl⟩)
       go_ret
       exact ⟨by rw [HR.out]; rfl, HK.out⟩)
end Go.Proofs.Ytcklmhbcjgiplaa
