/-
  The law SchedMany of chapter 18, walked.
-/
import Derived.Test.YtgophanpnaenkaaSchedFair
namespace Go.Proofs.Ytgophanpnaenkaa
open Go.RowKit
set_option maxRecDepth 100000

theorem ixs_len' (q : Th → Bool) : ∀ (l : List Th) (n : Nat), ((l.zipIdx n).filterMap fun y => if q y.1 then some (y.2 : Int) else none).length = l.countP q
  | [], n => by simp
  | x :: l, n => by
    have ih := ixs_len' q l (n + 1)
    rw [List.zipIdx_cons, List.filterMap_cons, List.countP_cons]
    cases h : q x
    · simp only [h, Bool.false_eq_true, if_false]
      rw [ih]; rfl
    · simp only [h, if_true, List.length_cons]
      rw [ih]
theorem ixs_len (q : Th → Bool) (l : List Th) : (ixs q l).length = l.countP q := ixs_len' q l 0
theorem ixs_at {q : Th → Bool} {l : List Th} {i : Nat} {z : Int} (h : (ixs q l)[i]? = some z) : ∃ (p : Nat) (x : Th), z = p ∧ l[p]? = some x ∧ q x = true := by
  have hm := List.mem_of_getElem? h
  unfold ixs at hm
  obtain ⟨y, hy, hya⟩ := List.mem_filterMap.1 hm
  have hz := List.mem_zipIdx hy
  split at hya
  · rename_i hq
    simp at hya
    refine ⟨y.2, y.1, hya.symm, ?_, hq⟩
    rw [hz.2.2]
    simp
  · cases hya

/-- What the second loop keeps: M threads, c of them ready, none waits. -/
def Many (M c : Nat) (l : List Th) : Prop := l.length = M ∧ (∀ x ∈ l, wtP x = false) ∧ l.countP rdP = c
theorem Many.any {M c : Nat} {l : List Th} (h : Many M c l) : l.any wtP = false := by
  rw [List.any_eq_false]
  intro x hx
  simp [h.2.1 x hx]
theorem Many.start (M : Nat) : Many M M (List.replicate M ⟨0, ⟨#[]⟩⟩) := by
  refine ⟨by simp, fun x hx => ?_, ?_⟩
  · rw [List.mem_replicate] at hx; rw [hx.2]; rfl
  · rw [List.countP_replicate]; simp [rdP]
/-- What a pick finds, and what two calls of Finish do to it. -/
theorem Many.step {M c : Nat} {l : List Th} (h : Many M (c + 1) l) (raw : Int) (s : ByteArray) : ∃ p : Nat, pickA (ixs rdP l) false raw = ((p : Int), 0) ∧ turnE l p 0 (finTo s) = 0 ∧ Many M c (turnL l p 0 (finTo s)) ∧
    turnE (turnL l p 0 (finTo s)) p 0 (finTo ⟨#[]⟩) = 1 ∧ turnL (turnL l p 0 (finTo s)) p 0 (finTo ⟨#[]⟩) = turnL l p 0 (finTo s) := by
  have hl : (ixs rdP l).length = c + 1 := by rw [ixs_len, h.2.2]
  have hne : ixs rdP l ≠ [] := by intro e; rw [e] at hl; simp at hl
  have m0 := Int.emod_nonneg raw (show ((c + 1 : Nat) : Int) ≠ 0 by omega)
  have m1 := Int.emod_lt_of_pos raw (show (0 : Int) < ((c + 1 : Nat) : Int) by omega)
  obtain ⟨z, hz⟩ : ∃ z, (ixs rdP l)[(raw % ((c + 1 : Nat) : Int)).toNat]? = some z := ⟨_, List.getElem?_eq_getElem (by rw [hl]; omega)⟩
  obtain ⟨p, x, rfl, hx, hq⟩ := ixs_at hz
  have hpl := (List.getElem?_eq_some_iff.1 hx).1
  have hst : x.st = 0 := by simp [rdP] at hq; exact hq.1
  have hf := finTo_st s
  have hf0 : (finTo s).st ≠ 0 := by unfold finTo; split <;> simp
  have t := turn_ready (y := finTo s) hx hst hf.1
  have e1 : turnE (l.set p (finTo s)) p 0 (finTo ⟨#[]⟩) = 1 := by
    unfold turnE
    rw [if_pos ⟨by omega, by simp; omega⟩, if_neg]
    rw [Int.toNat_natCast, List.getElem?_set]
    simp [hpl, hf0]
  refine ⟨p, ?_, t.1, ?_, ?_, ?_⟩
  · unfold pickA
    rw [if_neg hne, hl, hz]; rfl
  · rw [t.2]
    refine ⟨by simpa using h.1, fun y hy => ?_, ?_⟩
    · rcases List.mem_or_eq_of_mem_set hy with hy | rfl
      · exact h.2.1 y hy
      · have := hf.1; simp [wtP, this]
    · rw [List.countP_set hpl, h.2.2]
      have : l[p] = x := (List.getElem?_eq_some_iff.1 hx).2
      rw [this, hq]
      have : rdP (finTo s) = false := by simp [rdP, hf0]
      rw [this]; rfl
  · rw [t.2]; exact e1
  · rw [t.2, turnL, if_neg (by rw [e1]; decide)]
theorem Many.none_ {M : Nat} {l : List Th} (h : Many M 0 l) (raw : Int) : pickA (ixs rdP l) false raw = (-1, 1) := by
  have hl : (ixs rdP l).length = 0 := by rw [ixs_len, h.2.2]
  have : ixs rdP l = [] := List.eq_nil_of_length_eq_zero hl
  simp [pickA, this]

theorem and_one : ∀ q : Nat, q < 16 → bits BinOp.and IntKind.i64 (q : Int) 1 = ((q % 2 : Nat) : Int) := by decide +kernel

set_option maxHeartbeats 1000000 in
theorem walk_SchedMany (n raw : Int) (w : World) (_ : (Lit.int .i64 n).wf = true) (hrw : (Lit.int .i64 raw).wf = true) :
    Calls Try.prog 6 #[.int .i64 n, .int .i64 raw] w fun e w' => e = .returned (.bool true) ∧ Below w.heap.size w w' := by
  have hr1 : -9223372036854775808 ≤ raw ∧ raw ≤ 9223372036854775807 := by
    have h0 : IntKind.i64.min = -9223372036854775808 := rfl
    simp [Lit.wf] at hrw
    omega
  have r1 := hr1.1
  have r2 := hr1.2
  clear hrw hr1
  by_cases h1 : n < 0 ∨ 20 < n
  · rcases (by omega : n < 0 ∨ (¬ n < 0 ∧ 20 < n)) with h | h
    all_goals
      have h := h
      clear h1
      go_enter Try.func6, Try.ntmps6
      go_wp2_with (go_at_call 30; ((with_reducible refine (alive18 _).mono ?_); rintro e w1 ⟨rfl, k1⟩))
      go_ret
      exact ⟨rfl, k1⟩
  · obtain ⟨N, rfl⟩ : ∃ N : Nat, n = N := ⟨n.toNat, by omega⟩
    have a2 : N ≤ 20 := by omega
    clear h1
    go_enter Try.func6, Try.ntmps6
    go_wp2_with (go_at_call 30; ((with_reducible refine (alive18 _).mono ?_); rintro e w1 ⟨rfl, k1⟩))
    refine (sched_New _).mono ?_
    rintro e w2 ⟨rfl, t2, k2⟩
    go_wp2_with fail
    have Q0 : ∃ v, PTab w1.heap.size w2 (Value.pointer (some { block := w1.heap.size, off := 0 })) (List.replicate (min 0 16) ⟨0, ⟨#[]⟩⟩) w1.heap.size v := ⟨_, t2⟩
    have B0 : Below w.heap.size w w2 := Kept.trans k1 k2
    have Z0 := k1.size
    have Z2 := k2.size
    clear t2 k1 k2
    have Q0' := Lib.hid Q0
    clear Q0
    go_loopw [7] (fun s7 wr => ∃ k : Nat, k ≤ N ∧ s7 = .int .i64 k ∧ (∃ v, PTab w1.heap.size wr (Value.pointer (some { block := w1.heap.size, off := 0 })) (List.replicate (min k 16) ⟨0, ⟨#[]⟩⟩) w1.heap.size v) ∧ Below w.heap.size w wr ∧ w1.heap.size ≤ wr.heap.size) (fun s7 _ => N - (intOf s7).toNat)
    case atStart => exact ⟨0, by omega, rfl, Q0'.out, B0, Z2⟩
    case round =>
      obtain ⟨k, hk, rfl, ⟨v, hP⟩, hB, hZ⟩ := hrel
      by_cases hlt : k < N
      · by_cases h16 : k < 16
        · rw [Nat.min_eq_left (by omega)] at hP
          have C := sched_Start_lt _ _ _ _ _ _ hP hZ (by simp; omega)
          rw [List.length_replicate] at C
          have BB := fun w4 => hP.below (w' := w4)
          have HB := Lib.hid BB
          clear BB hP
          go_wp2_with fail
          refine C.mono ?_
          rintro e w4 ⟨rfl, v4, t4, b4, _⟩
          have hB4 := Below.trans hB ((HB.out w4 b4 hZ).mono Z0)
          have hZ4 := Nat.le_trans hZ b4.size
          have T4 := Lib.hid t4
          clear t4 b4 C
          go_wp2_with (go_at_call 35; ((with_reducible refine (num18 _ _).mono ?_); rintro e w' ⟨rfl, rfl⟩))
          go_roundw
          case rel => exact ⟨k + 1, by omega, by go_num, ⟨v4, by rw [Nat.min_eq_left (by omega), List.replicate_succ']; exact T4.out⟩, hB4, hZ4⟩
          case measure => simp [intOf]; omega
        · have hm : min k 16 = 16 := by omega
          have hm1 : min (k + 1) 16 = 16 := by omega
          rw [hm] at hP
          have C := sched_Start_full _ _ _ _ _ _ hP hZ (by simp)
          have HP := Lib.hid hP
          clear hP hm
          go_wp2_with fail
          refine C.mono ?_
          rintro e w4 ⟨rfl, rfl⟩
          clear C
          go_wp2_with (go_at_call 35; ((with_reducible refine (num18 _ _).mono ?_); rintro e w' ⟨rfl, rfl⟩))
          go_roundw
          case rel => exact ⟨k + 1, by omega, by go_num, ⟨v, by rw [hm1]; exact HP.out⟩, hB, hZ⟩
          case measure => simp [intOf]; omega
      · obtain rfl : k = N := by omega
        obtain ⟨M, hM⟩ : ∃ M, M = min k 16 := ⟨_, rfl⟩
        rw [← hM] at hP
        have R0 : ∃ l v, PTab w1.heap.size wr (Value.pointer (some { block := w1.heap.size, off := 0 })) l w1.heap.size v ∧ Many M (M - 0) l := ⟨_, v, hP, Many.start M⟩
        have R0' := Lib.hid R0
        have HM := Lib.hid hM
        clear R0 hP hM
        go_wp2_with fail
        go_loopw [10] (fun s10 wq => ∃ q : Nat, q ≤ M ∧ s10 = .int .i64 q ∧ (∃ l v, PTab w1.heap.size wq (Value.pointer (some { block := w1.heap.size, off := 0 })) l w1.heap.size v ∧ Many M (M - q) l) ∧ Below w.heap.size w wq ∧ w1.heap.size ≤ wq.heap.size) (fun s10 _ => M - (intOf s10).toNat)
        case atStart => exact ⟨0, by omega, rfl, R0'.out, hB, hZ⟩
        case round =>
          obtain ⟨q, hq, rfl, ⟨l, vl, hP, hS⟩, hBq, hZq⟩ := hrel
          have hl16 : l.length ≤ 16 := by rw [hS.1]; have := HM.out; omega
          by_cases hlt : q < M
          · have hq1 : q < 16 := by have := HM.out; omega
            have hq2 : q < k := by have := HM.out; omega
            obtain ⟨c, hc⟩ : ∃ c, M - q = c + 1 := ⟨M - q - 1, by omega⟩
            rw [hc] at hS
            have C := sched_Pick _ _ _ _ _ _ raw hP hl16 r1 r2
            rw [hS.any] at C
            have hbit := and_one q hq1
            have HP := Lib.hid hP
            have HS := Lib.hid hS
            rcases (by omega : q % 2 = 0 ∨ q % 2 = 1) with hpar | hpar
            · obtain ⟨t, ht, h1, h2, h3, h4⟩ := hS.step raw ⟨#[]⟩
              rw [ht] at C
              rw [hpar] at hbit
              have hbit' : bits BinOp.and IntKind.i64 (q : Int) 1 = 0 := hbit
              have hl2 : (turnL l t 0 (finTo ⟨#[]⟩)).length ≤ 16 := by rw [h2.1, ← hS.1]; exact hl16
              have h1 := Lib.hid h1
              have h2 := Lib.hid h2
              have h3 := Lib.hid h3
              have h4 := Lib.hid h4
              clear hS hP ht hbit
              go_wp2_with fail
              refine C.mono ?_
              rintro e w4 ⟨rfl, b4⟩
              have hB4 := Below.trans hBq (b4.mono hBq.size)
              have hZ4 := Nat.le_trans hZq b4.size
              have P4 := Lib.hid (HP.out.kept b4)
              clear b4 C
              go_wp2_with fail
              have P5 := P4.out.still ((Touch.refl (fun _ => False) w4).alloc (Obj.cells #[Value.string { data := #[] }, Value.string { data := #[69] }] 9))
              have hZ5 : w1.heap.size ≤ (w4.alloc (Obj.cells #[Value.string { data := #[] }, Value.string { data := #[69] }] 9)).heap.size := by simp; omega
              have C5 := sched_Finish _ _ _ _ _ _ t ⟨#[]⟩ P5 hZ5 hl16
              rw [h1.out] at C5
              refine C5.mono ?_
              rintro e w6 ⟨rfl, t6, b6⟩
              have hB6 := Below.trans (hB4.alloc hB4.size (Obj.cells #[Value.string { data := #[] }, Value.string { data := #[69] }] 9)) ((P5.below b6 hZ5).mono Z0)
              have hZ6 := Nat.le_trans hZ5 b6.size
              have T6 := Lib.hid t6
              clear t6 b6 C5 P5
              go_wp2_with fail
              have C7 := sched_Finish _ _ _ _ _ _ t ⟨#[]⟩ T6.out hZ6 hl2
              rw [h3.out, h4.out] at C7
              refine C7.mono ?_
              rintro e w8 ⟨rfl, t8, b8⟩
              have hB8 := Below.trans hB6 ((T6.out.below b8 hZ6).mono Z0)
              have hZ8 := Nat.le_trans hZ6 b8.size
              have T8 := Lib.hid t8
              clear t8 b8 C7
              go_wp2_with (go_at_call 35; ((with_reducible refine (num18 _ _).mono ?_); rintro e w' ⟨rfl, rfl⟩))
              have hcq : c = M - (q + 1) := by omega
              go_roundw
              case rel => exact ⟨q + 1, by omega, by go_num, ⟨_, _, T8.out, hcq ▸ h2.out⟩, hB8, hZ8⟩
              case measure => simp [intOf]; omega
            · obtain ⟨t, ht, h1, h2, h3, h4⟩ := hS.step raw ⟨#[69]⟩
              rw [ht] at C
              rw [hpar] at hbit
              have hbit' : bits BinOp.and IntKind.i64 (q : Int) 1 = 1 := hbit
              have hl2 : (turnL l t 0 (finTo ⟨#[69]⟩)).length ≤ 16 := by rw [h2.1, ← hS.1]; exact hl16
              have h1 := Lib.hid h1
              have h2 := Lib.hid h2
              have h3 := Lib.hid h3
              have h4 := Lib.hid h4
              clear hS hP ht hbit
              go_wp2_with fail
              refine C.mono ?_
              rintro e w4 ⟨rfl, b4⟩
              have hB4 := Below.trans hBq (b4.mono hBq.size)
              have hZ4 := Nat.le_trans hZq b4.size
              have P4 := Lib.hid (HP.out.kept b4)
              clear b4 C
              go_wp2_with fail
              have P5 := P4.out.still ((Touch.refl (fun _ => False) w4).alloc (Obj.cells #[Value.string { data := #[] }, Value.string { data := #[69] }] 9))
              have hZ5 : w1.heap.size ≤ (w4.alloc (Obj.cells #[Value.string { data := #[] }, Value.string { data := #[69] }] 9)).heap.size := by simp; omega
              have C5 := sched_Finish _ _ _ _ _ _ t ⟨#[69]⟩ P5 hZ5 hl16
              rw [h1.out] at C5
              refine C5.mono ?_
              rintro e w6 ⟨rfl, t6, b6⟩
              have hB6 := Below.trans (hB4.alloc hB4.size (Obj.cells #[Value.string { data := #[] }, Value.string { data := #[69] }] 9)) ((P5.below b6 hZ5).mono Z0)
              have hZ6 := Nat.le_trans hZ5 b6.size
              have T6 := Lib.hid t6
              clear t6 b6 C5 P5
              go_wp2_with fail
              have C7 := sched_Finish _ _ _ _ _ _ t ⟨#[]⟩ T6.out hZ6 hl2
              rw [h3.out, h4.out] at C7
              refine C7.mono ?_
              rintro e w8 ⟨rfl, t8, b8⟩
              have hB8 := Below.trans hB6 ((T6.out.below b8 hZ6).mono Z0)
              have hZ8 := Nat.le_trans hZ6 b8.size
              have T8 := Lib.hid t8
              clear t8 b8 C7
              go_wp2_with (go_at_call 35; ((with_reducible refine (num18 _ _).mono ?_); rintro e w' ⟨rfl, rfl⟩))
              have hcq : c = M - (q + 1) := by omega
              go_roundw
              case rel => exact ⟨q + 1, by omega, by go_num, ⟨_, _, T8.out, hcq ▸ h2.out⟩, hB8, hZ8⟩
              case measure => simp [intOf]; omega
          · obtain rfl : q = M := by omega
            have h0 : q - q = 0 := by omega
            rw [h0] at hS
            have C := sched_Pick _ _ _ _ _ _ raw hP hl16 r1 r2
            rw [hS.any, hS.none_ raw] at C
            have hend : ¬ q < 16 ∨ (q < 16 ∧ q = k) := by have := HM.out; omega
            clear hS hP
            rcases hend with hend | ⟨hend, rfl⟩
            all_goals
              go_wp2_with fail
              refine C.mono ?_
              rintro e w4 ⟨rfl, b4⟩
              have hB4 := Below.trans hBq (b4.mono hBq.size)
              clear b4 C
              go_wp2
              go_ret
              exact ⟨rfl, hB4⟩

end Go.Proofs.Ytgophanpnaenkaa
