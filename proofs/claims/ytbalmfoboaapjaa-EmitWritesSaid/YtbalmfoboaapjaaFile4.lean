/-
  Package file by contract: name.
-/
import Derived.Test.YtbalmfoboaapjaaFile3
namespace Go.Proofs.Ytbalmfoboaapjaa
set_option linter.unusedVariables false
set_option linter.unusedSimpArgs false
open Go.RowKit
set_option maxRecDepth 100000

def NameG (g B : Nat) (L : List UInt8) (vb : Value) (pool : List ConstC) (vp : Value) (p : Nat) (w : World) (nm : ByteArray) (s' : PS) (e : Ending) (w' : World) : Prop :=
  e = .returned (.tuple #[.int .i64 p, .string nm]) ∧ RS w' g B L vb pool vp s' ∧ Touch (fun b => b = g) w w'
theorem pool_cell {w : World} {pool : List ConstC} {vp : Value} (h : Rd w 5 vp pool.length (pool.flatMap encC)) {i : Nat} {c : ConstC} (hi : pool[i]? = some c) :
    ∃ b off k, vp = .slice (some ⟨b, off, none⟩) pool.length k ∧ w.cell? ⟨b, off + i * 5, none⟩ = some (.int .i64 c.tag) ∧ w.cell? ⟨b, off + i * 5 + 1, none⟩ = some (.string c.text) := by
  obtain ⟨_, a, k, rfl, h1, h2, h3⟩ := h
  have hl := (List.getElem?_eq_some_iff.1 hi).1
  obtain ⟨b, off, rfl, hc⟩ := h3 (by omega)
  exact ⟨b, off, k, rfl, hc _ _ (flat_get encC 5 (fun _ => rfl) pool i 0 c hi (by omega)), hc _ _ (flat_get encC 5 (fun _ => rfl) pool i 1 c hi (by omega))⟩
theorem pool_form {w : World} {pool : List ConstC} {vp : Value} (h : Rd w 5 vp pool.length (pool.flatMap encC)) : ∃ a k, vp = .slice a pool.length k := by
  obtain ⟨_, a, k, rfl, _⟩ := h
  exact ⟨a, k, rfl⟩

set_option maxHeartbeats 4000000 in
theorem file_name (g B : Nat) (L : List UInt8) (vb : Value) (pool : List ConstC) (vp : Value) (s : PS) (w : World) (h : RS w g B L vb pool vp s) :
    Calls Try.prog 50 #[.pointer (some ⟨g, 0, none⟩)] w (Ans (nameP L pool s) (fun b => b = g) w (NameG g B L vb pool vp s.at_ w)) := by
  have C := file_number g B L vb pool vp s 2 w h (by omega) (by omega) 2 rfl
  obtain ⟨ap, kp, rfl⟩ := pool_form h.rp
  have hpl := h.plen
  unfold nameP
  obtain ⟨c0, c1, c2, c3, c4⟩ := h.cells
  clear h
  cases hb : numP L 2 s with
  | bad p k =>
    rw [hb, Ans.bad_] at C
    rw [Out.bind_bad, Ans.bad_]
    clear hb
    go_enter Try.func50, Try.ntmps50
    go_wp2_with fail
    refine C.mono ?_
    rintro e w1 ⟨rfl, ht⟩
    exact ⟨rfl, rfl, ht⟩
  | ok n t =>
    rw [hb, Ans.ok_] at C
    rw [Out.bind_ok]
    clear hb
    by_cases h1 : n < 1
    · rw [if_neg (by omega), Ans.bad_]
      go_enter Try.func50, Try.ntmps50
      go_wp2_with fail
      refine C.mono ?_
      rintro e w1 ⟨rfl, hrs, ht, hn0, hn1⟩
      have HT := Lib.hid ht
      clear hrs ht C
      go_wp2_with fail
      refine (file_wrong _ _ _ _).mono ?_
      rintro e w2 ⟨rfl, rfl⟩
      exact ⟨rfl, rfl, HT.out⟩
    obtain ⟨i, hi⟩ : ∃ i : Nat, n = (i : Int) + 1 := ⟨(n - 1).toNat, by omega⟩
    subst hi
    have hti : ((i : Int) + 1).toNat - 1 = i := by omega
    rw [if_pos (by omega), hti]
    clear hti
    cases hp : pool[i]? with
    | none =>
      rw [Ans.bad_]
      have hil : pool.length ≤ i := by
        rcases Nat.lt_or_ge i pool.length with h2 | h2
        · rw [List.getElem?_eq_getElem h2] at hp; cases hp
        · exact h2
      have h2 : (pool.length : Int) < (i : Int) + 1 := by omega
      clear hp
      go_enter Try.func50, Try.ntmps50
      go_wp2_with fail
      refine C.mono ?_
      rintro e w1 ⟨rfl, hrs, ht, hn0, hn1⟩
      have HT := Lib.hid ht
      obtain ⟨-, -, -, -, d4⟩ := hrs.cells
      clear hrs ht C c0 c1 c2 c3 c4
      go_wp2_with fail
      refine (file_wrong _ _ _ _).mono ?_
      rintro e w2 ⟨rfl, rfl⟩
      exact ⟨rfl, rfl, HT.out⟩
    | some c =>
      have hil := (List.getElem?_eq_some_iff.1 hp).1
      have h2 : ¬ (pool.length : Int) < (i : Int) + 1 := by omega
      have h3 : IntKind.i64.wrap ((i : Int) + 1 - 1) = (i : Int) := by rw [show (i : Int) + 1 - 1 = i by omega]; exact IntWalk.i64_in _ (by omega)
      have h4 : (i : Int) < (pool.length : Int) := by omega
      have h5 : (0 : Int) ≤ (i : Int) := by omega
      simp only
      obtain ⟨tag, text, num, ca, cb⟩ := c
      by_cases ht1 : tag = 1
      · rw [if_pos ht1, Ans.ok_]
        subst ht1
        have HP := Lib.hid hp
        clear hp
        go_enter Try.func50, Try.ntmps50
        go_wp2_with fail
        refine C.mono ?_
        rintro e w1 ⟨rfl, hrs, ht, hn0, hn1⟩
        have HT := Lib.hid ht
        have HRS := Lib.hid hrs
        obtain ⟨-, -, -, -, d4⟩ := hrs.cells
        obtain ⟨b, off, k, hv, x0, x1⟩ := pool_cell hrs.rp HP.out
        simp only [Value.slice.injEq] at hv
        obtain ⟨rfl, -, -⟩ := hv
        dsimp only at x0 x1
        clear hrs ht C c0 c1 c2 c3 c4 h3
        go_upto_if 34 with fail
        clear hn1
        go_upto_region 5 with fail
        go_quiet (fail)
        go_wp2_with fail
        go_ret2
        exact ⟨rfl, HRS.out.drewN _, HT.out.drewN _⟩
      · rw [if_neg ht1, Ans.bad_]
        have e1 : (tag != 1) = true := by simp [ht1]
        have HP := Lib.hid hp
        clear hp ht1
        go_enter Try.func50, Try.ntmps50
        go_wp2_with fail
        refine C.mono ?_
        rintro e w1 ⟨rfl, hrs, ht, hn0, hn1⟩
        have HT := Lib.hid ht
        obtain ⟨-, -, -, -, d4⟩ := hrs.cells
        obtain ⟨b, off, k, hv, x0, x1⟩ := pool_cell hrs.rp HP.out
        simp only [Value.slice.injEq] at hv
        obtain ⟨rfl, -, -⟩ := hv
        dsimp only at x0 x1
        clear hrs ht C c0 c1 c2 c3 c4
        go_wp2_with fail
        refine (file_wrong _ _ _ _).mono ?_
        rintro e w2 ⟨rfl, rfl⟩
        exact ⟨rfl, rfl, HT.out⟩
end Go.Proofs.Ytbalmfoboaapjaa
