/-
  Package emit by contract: two, parts, constant, long.
-/
import Derived.Test.YtbalmfoboaapjaaEp1
import Derived.Test.YtbalmfoboaapjaaSm2
namespace Go.Proofs.Ytbalmfoboaapjaa
set_option linter.unusedVariables false
set_option linter.unusedSimpArgs false
open Go.RowKit
set_option maxRecDepth 100000

theorem all_snoc {α : Type} {p : α → Prop} {l : List α} {k : Nat} {x : α} (h : ∀ y ∈ l.take k, p y) (hx : l[k]? = some x) (hp : p x) : ∀ y ∈ l.take (k + 1), p y := by
  intro y hy
  rw [List.take_add_one, hx] at hy
  simp only [Option.toList_some, List.mem_append, List.mem_singleton] at hy
  rcases hy with h1 | rfl
  · exact h y h1
  · exact hp
theorem all_end {α : Type} {p : α → Prop} {l : List α} {k : Nat} (h : ∀ y ∈ l.take k, p y) (hk : l.length ≤ k) : ∀ y ∈ l, p y := by
  rwa [List.take_of_length_le hk] at h
/-- A test that leaves the world. -/
def BoolE (p : Prop) (w : World) (e : Ending) (w' : World) : Prop := ∃ b, e = .returned (.bool b) ∧ (b = true ↔ p) ∧ w = w'
theorem emit_two (xs : List Int) (vl : Value) (w : World) (hl : Rd w 1 vl xs.length (xs.flatMap encI)) (p : Prop) (hp : p ↔ ∀ x ∈ xs, twoC x) :
    Calls Try.prog 36 #[vl] w (BoolE p w) := by
  have HP := Lib.hid hp
  obtain ⟨N, hN⟩ : ∃ N, N = xs.length := ⟨_, rfl⟩
  have HN := Lib.hid hN
  rw [← hN] at hl
  have HLD := Lib.hid hl
  obtain ⟨_, al, cl, rfl, hcl1, hcl2, _⟩ := hl
  clear hp hN
  go_enter Try.func36, Try.ntmps36
  go_wp2_with fail
  go_loopw [7] (fun s wr => ∃ k : Nat, k ≤ N ∧ s = .int .i64 k ∧ w = wr ∧ (∀ x ∈ xs.take k, twoC x)) (fun s _ => N - (intOf s).toNat)
  case atStart => exact ⟨0, Nat.zero_le _, rfl, rfl, by simp⟩
  case round =>
    obtain ⟨k, hk, rfl, rfl, ha⟩ := hrel
    have HA := Lib.hid ha
    clear ha
    by_cases hlt : k < N
    · obtain ⟨x, hx⟩ : ∃ x, xs[k]? = some x := ⟨_, List.getElem?_eq_getElem (by have := HN.out; omega)⟩
      obtain ⟨bl, ol, dl, hv, xc⟩ := ints_cell HN.out HLD.out hx
      simp only [Value.slice.injEq] at hv
      obtain ⟨rfl, -, rfl⟩ := hv
      have hltI : (k : Int) < (N : Int) := by omega
      have h0I : (0 : Int) ≤ (k : Int) := by omega
      have HX := Lib.hid hx
      clear hx
      by_cases hn : x < 0
      · go_wp2_with fail
        go_ret
        exact ⟨false, rfl, ⟨fun e => (by cases e), fun e => by have := (HP.out.1 e x (List.mem_of_getElem? HX.out)).1; omega⟩, rfl⟩
      · by_cases hm : x > 65535
        · go_wp2_with fail
          go_ret
          exact ⟨false, rfl, ⟨fun e => (by cases e), fun e => by have := (HP.out.1 e x (List.mem_of_getElem? HX.out)).2; omega⟩, rfl⟩
        · go_wp2_with fail
          go_roundw
          case rel => exact ⟨k + 1, by omega, by go_num, trivial, all_snoc HA.out HX.out ⟨by omega, by omega⟩⟩
          case measure => simp [intOf]; omega
    · go_wp2_with fail
      go_ret
      exact ⟨true, rfl, ⟨fun _ => HP.out.2 (all_end HA.out (by have := HN.out; omega)), fun _ => rfl⟩, rfl⟩
/-- What parts tells. -/
def partsV (t : Int) : Array Value := if t = 1 then #[.bool true, .bool false, .bool false, .bool false, .bool true] else if t = 3 then #[.bool false, .bool true, .bool false, .bool false, .bool true] else
  if t = 7 then #[.bool false, .bool false, .bool true, .bool false, .bool true] else if 9 ≤ t ∧ t ≤ 12 then #[.bool false, .bool false, .bool true, .bool true, .bool true] else #[.bool false, .bool false, .bool false, .bool false, .bool false]
theorem emit_parts (t : Int) (w : World) : Calls Try.prog 20 #[.int .i64 t] w fun e w' => e = .returned (.tuple (partsV t)) ∧ w = w' := by
  by_cases h1 : t = 1
  · subst h1
    go_enter Try.func20, Try.ntmps20
    go_wp2_with fail
    go_returns
    exact ⟨rfl, rfl⟩
  by_cases h3 : t = 3
  · subst h3
    go_enter Try.func20, Try.ntmps20
    go_wp2_with fail
    go_returns
    exact ⟨rfl, rfl⟩
  by_cases h7 : t = 7
  · subst h7
    go_enter Try.func20, Try.ntmps20
    go_wp2_with fail
    go_returns
    exact ⟨rfl, rfl⟩
  by_cases h9 : 9 ≤ t ∧ t ≤ 12
  · rcases (by omega : t = 9 ∨ t = 10 ∨ t = 11 ∨ t = 12) with rfl | rfl | rfl | rfl
    all_goals
      (go_enter Try.func20, Try.ntmps20
       go_wp2_with fail
       go_returns
       exact ⟨rfl, rfl⟩)
  have HV : partsV t = #[.bool false, .bool false, .bool false, .bool false, .bool false] := by unfold partsV; rw [if_neg h1, if_neg h3, if_neg h7, if_neg h9]
  rw [HV]
  have e1 : (t == 1) = false := by simpa using h1
  have e3 : (t == 3) = false := by simpa using h3
  have e7 : (t == 7) = false := by simpa using h7
  have e9 : (t == 9) = false := by simp; omega
  have e10 : (t == 10) = false := by simp; omega
  have e11 : (t == 11) = false := by simp; omega
  have e12 : (t == 12) = false := by simp; omega
  clear HV h1 h3 h7 h9
  go_enter Try.func20, Try.ntmps20
  go_wp2_with fail
  go_returns
  exact ⟨rfl, rfl⟩
/-- A new row of whole numbers. -/
theorem rd_new (w : World) (l : List Int) (t : TypeId) (h : l.length ≤ 9223372036854775807) : Rd (w.alloc (.cells (l.map (Value.int .i64)).toArray t)) 1 (.slice (some ⟨w.heap.size, 0, none⟩) l.length l.length) l.length (l.flatMap encI) := by
  have e : l.flatMap encI = l.map (Value.int .i64) := by
    unfold encI
    induction l with
    | nil => rfl
    | cons x l ih => simp only [List.flatMap_cons, List.map_cons, List.singleton_append, List.cons.injEq, true_and]; exact ih (by simp only [List.length_cons] at h; omega)
  rw [e]
  refine ⟨by simp, _, _, rfl, Nat.le_refl _, h, fun _ => ⟨_, _, rfl, fun j u hu => ?_⟩⟩
  rw [Nat.zero_add, cell_of_row _ _ j _ t (0, 0) (heap_alloc_new w _)]
  simpa using hu
/-- A new row of two. -/
theorem Rd.two (w : World) (x y : Int) (t : TypeId) : Rd (w.alloc (.cells #[.int .i64 x, .int .i64 y] t)) 1 (.slice (some ⟨w.heap.size, 0, none⟩) 2 2) 2 ([x, y].flatMap encI) := rd_new w [x, y] t (by simp)

theorem bytes_empty {s : ByteArray} (h : s.size = 0) : s = ⟨#[]⟩ := by
  obtain ⟨d⟩ := s
  have : d.size = 0 := h
  rw [Array.eq_empty_of_size_eq_zero this]
theorem str_some {s : ByteArray} (h : ¬ s.size = 0) : (s.toList != (⟨#[]⟩ : ByteArray).toList) = true := by
  rw [ByteArray.toList_eq, ByteArray.toList_eq]
  obtain ⟨⟨l⟩⟩ := s
  have h : ¬ l.length = 0 := h
  cases l with
  | nil => exact absurd rfl h
  | cons a l => simp
theorem str_some2 {s : ByteArray} (h : ¬ s.size = 0) : s.toList.isEmpty = false := by
  rw [ByteArray.toList_eq]
  obtain ⟨⟨l⟩⟩ := s
  have h : ¬ l.length = 0 := h
  cases l with
  | nil => exact absurd rfl h
  | cons a l => simp
theorem i32_in {n : Int} (h : -2147483648 ≤ n ∧ n ≤ 2147483647) : IntKind.i32.wrap n = n := by
  rw [IntKind.wrap_i32]
  omega
theorem conv_32 (n : Int) (W : World) : (convert 3 21 (.int .i64 n)).run Try.prog W = .ok (.int .i32 (IntKind.i32.wrap n)) W := by go_simp
theorem conv_23 (m : Int) (hm : -2147483648 ≤ m ∧ m ≤ 2147483647) (W : World) : (convert 21 3 (.int .i32 m)).run Try.prog W = .ok (.int .i64 m) W := by
  have e : IntKind.i64.wrap m = m := by rw [IntKind.wrap_i64]; omega
  have h : (convert 21 3 (.int .i32 m)).run Try.prog W = .ok (.int .i64 (IntKind.i64.wrap m)) W := by go_simp
  rw [h, e]
theorem i32_rng (n : Int) : -2147483648 ≤ IntKind.i32.wrap n ∧ IntKind.i32.wrap n ≤ 2147483647 := by
  rw [IntKind.wrap_i32]
  omega
theorem i32_out {n : Int} (h : ¬ (-2147483648 ≤ n ∧ n ≤ 2147483647)) : (n == IntKind.i32.wrap n) = false := by
  rw [IntKind.wrap_i32]
  simp
  omega
set_option maxHeartbeats 4000000 in
theorem emit_constant_1 (t n a b : Int) (s : ByteArray) (w : World) (ht : t = 1) (p : Prop) (hp : p ↔ fairC ⟨t, s, n, a, b⟩) :
    Calls Try.prog 37 #[.agg #[.int .i64 t, .string s, .int .i64 n, .int .i64 a, .int .i64 b]] w (MethB p w) := by
  have HP := Lib.hid hp
  clear hp
  have HT := Lib.hid ht
  have hv : partsV t = #[.bool true, .bool false, .bool false, .bool false, .bool true] := by unfold partsV; rw [ht]; rfl
  have HV := Lib.hid hv
  clear ht hv
  have hk : Kept w (w.alloc (.cells #[.int .i64 t, .string s, .int .i64 n, .int .i64 a, .int .i64 b] 41)) := (Below.refl _ _).alloc (Nat.le_refl _) _
  have HK := Lib.hid hk
  have HB := Lib.hid (Blk.new w 41 #[.int .i64 t, .string s, .int .i64 n, .int .i64 a, .int .i64 b])
  clear hk
  go_enter Try.func37, Try.ntmps37
  go_upto_region 1 with fail
  generalize (w.alloc (.cells #[.int .i64 t, .string s, .int .i64 n, .int .i64 a, .int .i64 b] 41)) = W at *
  have c0 := HB.out.cell 0
  have c1 := HB.out.cell 1
  have c2 := HB.out.cell 2
  have c3 := HB.out.cell 3
  have c4 := HB.out.cell 4
  simp only [List.getElem?_toArray, List.getElem?_cons_succ, List.getElem?_cons_zero] at c0 c1 c2 c3 c4
  have C := emit_parts t W
  rw [HV.out] at C
  go_wp2_with fail
  refine C.mono ?_
  rintro e w1 ⟨rfl, rfl⟩
  clear C
  by_cases hn : n = 0
  rotate_left
  · have hne := (show (n != 0) = true by simpa using hn)
    have HN := Lib.hid hn
    clear hn
    go_wp2_with fail
    go_ret
    exact ⟨false, rfl, ⟨fun e => (by cases e), fun e => absurd ((HP.out.1 e).2.2.2.2.2.1 (by dsimp only; have := HT.out; omega)) HN.out⟩, HK.out⟩
  subst hn
  by_cases ha : a = 0
  rotate_left
  · have hne := (show (a != 0) = true by simpa using ha)
    have HN := Lib.hid ha
    clear ha
    go_wp2_with fail
    go_ret
    exact ⟨false, rfl, ⟨fun e => (by cases e), fun e => absurd ((HP.out.1 e).2.2.2.2.2.2.1 (by dsimp only; have := HT.out; omega)) HN.out⟩, HK.out⟩
  subst ha
  by_cases hb : b = 0
  rotate_left
  · have hne := (show (b != 0) = true by simpa using hb)
    have HN := Lib.hid hb
    clear hb
    go_wp2_with fail
    go_ret
    exact ⟨false, rfl, ⟨fun e => (by cases e), fun e => absurd ((HP.out.1 e).2.2.2.2.2.2.2 (by dsimp only; have := HT.out; omega)) HN.out⟩, HK.out⟩
  subst hb
  by_cases hs : s.size ≤ 65535
  rotate_left
  · have hne := (show ¬ ((s.size : Int) ≤ 65535) by omega)
    have HN := Lib.hid hs
    clear hs
    go_wp2_with fail
    go_ret
    exact ⟨false, rfl, ⟨fun e => (by cases e), fun e => absurd ((HP.out.1 e).2.2.1) HN.out⟩, HK.out⟩
  have hsI : (s.size : Int) ≤ 65535 := by omega
  have HS := Lib.hid hs
  clear hs
  have C2 := emit_two [0, 0] (.slice (some ⟨W.heap.size, 0, none⟩) 2 2) (W.alloc (.cells #[.int .i64 0, .int .i64 0] 3)) (Rd.two W _ _ 3) (twoC 0 ∧ twoC 0) (by simp)
  go_wp2_with fail
  refine C2.mono ?_
  rintro e w2 ⟨bb, rfl, hb2, rfl⟩
  have HB2 := Lib.hid hb2
  have HK2 := Lib.hid (Kept.trans HK.out ((Below.refl _ W).alloc (Nat.le_refl _) (.cells #[.int .i64 0, .int .i64 0] 3)))
  clear hb2 C2
  go_wp2_with fail
  go_ret
  refine ⟨bb, rfl, HB2.out.trans ⟨fun h => HP.out.2 ⟨h.1, h.2, HS.out, by dsimp only; omega, fun e => absurd HT.out e, fun _ => rfl, fun _ => rfl, fun _ => rfl⟩, fun h => ⟨(HP.out.1 h).1, (HP.out.1 h).2.1⟩⟩, HK2.out⟩
set_option maxHeartbeats 4000000 in
theorem emit_constant_3 (t n a b : Int) (s : ByteArray) (w : World) (ht : t = 3) (p : Prop) (hp : p ↔ fairC ⟨t, s, n, a, b⟩) :
    Calls Try.prog 37 #[.agg #[.int .i64 t, .string s, .int .i64 n, .int .i64 a, .int .i64 b]] w (MethB p w) := by
  have HP := Lib.hid hp
  clear hp
  have HT := Lib.hid ht
  have hv : partsV t = #[.bool false, .bool true, .bool false, .bool false, .bool true] := by unfold partsV; rw [ht]; rfl
  have HV := Lib.hid hv
  clear ht hv
  have hk : Kept w (w.alloc (.cells #[.int .i64 t, .string s, .int .i64 n, .int .i64 a, .int .i64 b] 41)) := (Below.refl _ _).alloc (Nat.le_refl _) _
  have HK := Lib.hid hk
  have HB := Lib.hid (Blk.new w 41 #[.int .i64 t, .string s, .int .i64 n, .int .i64 a, .int .i64 b])
  clear hk
  go_enter Try.func37, Try.ntmps37
  go_upto_region 1 with fail
  generalize (w.alloc (.cells #[.int .i64 t, .string s, .int .i64 n, .int .i64 a, .int .i64 b] 41)) = W at *
  have c0 := HB.out.cell 0
  have c1 := HB.out.cell 1
  have c2 := HB.out.cell 2
  have c3 := HB.out.cell 3
  have c4 := HB.out.cell 4
  simp only [List.getElem?_toArray, List.getElem?_cons_succ, List.getElem?_cons_zero] at c0 c1 c2 c3 c4
  have C := emit_parts t W
  rw [HV.out] at C
  go_wp2_with fail
  refine C.mono ?_
  rintro e w1 ⟨rfl, rfl⟩
  clear C
  by_cases hs : s.size = 0
  rotate_left
  · have hne := str_some2 hs
    have HN := Lib.hid hs
    clear hs
    go_wp2_with fail
    go_ret
    exact ⟨false, rfl, ⟨fun e => (by cases e), fun e => absurd ((HP.out.1 e).2.2.2.2.1 (by dsimp only; have := HT.out; omega)) HN.out⟩, HK.out⟩
  obtain rfl := bytes_empty hs
  clear hs
  by_cases ha : a = 0
  rotate_left
  · have hne := (show (a != 0) = true by simpa using ha)
    have HN := Lib.hid ha
    clear ha
    go_wp2_with fail
    go_ret
    exact ⟨false, rfl, ⟨fun e => (by cases e), fun e => absurd ((HP.out.1 e).2.2.2.2.2.2.1 (by dsimp only; have := HT.out; omega)) HN.out⟩, HK.out⟩
  subst ha
  by_cases hb : b = 0
  rotate_left
  · have hne := (show (b != 0) = true by simpa using hb)
    have HN := Lib.hid hb
    clear hb
    go_wp2_with fail
    go_ret
    exact ⟨false, rfl, ⟨fun e => (by cases e), fun e => absurd ((HP.out.1 e).2.2.2.2.2.2.2 (by dsimp only; have := HT.out; omega)) HN.out⟩, HK.out⟩
  subst hb
  obtain ⟨m, hm⟩ : ∃ m, m = IntKind.i32.wrap n := ⟨_, rfl⟩
  have q1 := conv_32 n W
  have q2 := conv_23 (IntKind.i32.wrap n) (i32_rng n) W
  rw [← hm] at q1 q2
  have HM := Lib.hid hm
  clear hm
  by_cases hn : -2147483648 ≤ n ∧ n ≤ 2147483647
  rotate_left
  · have hne := (HM.out ▸ i32_out hn : (n == m) = false)
    have HN := Lib.hid hn
    clear hn
    go_wp2_with fail
    go_ret
    exact ⟨false, rfl, ⟨fun e => (by cases e), fun e => absurd ((HP.out.1 e).2.2.2.1) HN.out⟩, HK.out⟩
  have hni : m = n := HM.out.trans (i32_in hn)
  subst hni
  have HNI := Lib.hid hn
  clear hn
  have C2 := emit_two [0, 0] (.slice (some ⟨W.heap.size, 0, none⟩) 2 2) (W.alloc (.cells #[.int .i64 0, .int .i64 0] 3)) (Rd.two W _ _ 3) (twoC 0 ∧ twoC 0) (by simp)
  go_wp2_with fail
  refine C2.mono ?_
  rintro e w2 ⟨bb, rfl, hb2, rfl⟩
  have HB2 := Lib.hid hb2
  have HK2 := Lib.hid (Kept.trans HK.out ((Below.refl _ W).alloc (Nat.le_refl _) (.cells #[.int .i64 0, .int .i64 0] 3)))
  clear hb2 C2
  go_wp2_with fail
  go_ret
  refine ⟨bb, rfl, HB2.out.trans ⟨fun h => HP.out.2 ⟨h.1, h.2, Nat.zero_le _, HNI.out, fun _ => rfl, fun e => absurd HT.out e, fun _ => rfl, fun _ => rfl⟩, fun h => ⟨(HP.out.1 h).1, (HP.out.1 h).2.1⟩⟩, HK2.out⟩
set_option maxHeartbeats 4000000 in
theorem emit_constant_7 (t n a b : Int) (s : ByteArray) (w : World) (ht : t = 7) (p : Prop) (hp : p ↔ fairC ⟨t, s, n, a, b⟩) :
    Calls Try.prog 37 #[.agg #[.int .i64 t, .string s, .int .i64 n, .int .i64 a, .int .i64 b]] w (MethB p w) := by
  have HP := Lib.hid hp
  clear hp
  have HT := Lib.hid ht
  have hv : partsV t = #[.bool false, .bool false, .bool true, .bool false, .bool true] := by unfold partsV; rw [ht]; rfl
  have HV := Lib.hid hv
  clear ht hv
  have hk : Kept w (w.alloc (.cells #[.int .i64 t, .string s, .int .i64 n, .int .i64 a, .int .i64 b] 41)) := (Below.refl _ _).alloc (Nat.le_refl _) _
  have HK := Lib.hid hk
  have HB := Lib.hid (Blk.new w 41 #[.int .i64 t, .string s, .int .i64 n, .int .i64 a, .int .i64 b])
  clear hk
  go_enter Try.func37, Try.ntmps37
  go_upto_region 1 with fail
  generalize (w.alloc (.cells #[.int .i64 t, .string s, .int .i64 n, .int .i64 a, .int .i64 b] 41)) = W at *
  have c0 := HB.out.cell 0
  have c1 := HB.out.cell 1
  have c2 := HB.out.cell 2
  have c3 := HB.out.cell 3
  have c4 := HB.out.cell 4
  simp only [List.getElem?_toArray, List.getElem?_cons_succ, List.getElem?_cons_zero] at c0 c1 c2 c3 c4
  have C := emit_parts t W
  rw [HV.out] at C
  go_wp2_with fail
  refine C.mono ?_
  rintro e w1 ⟨rfl, rfl⟩
  clear C
  by_cases hs : s.size = 0
  rotate_left
  · have hne := str_some2 hs
    have HN := Lib.hid hs
    clear hs
    go_wp2_with fail
    go_ret
    exact ⟨false, rfl, ⟨fun e => (by cases e), fun e => absurd ((HP.out.1 e).2.2.2.2.1 (by dsimp only; have := HT.out; omega)) HN.out⟩, HK.out⟩
  obtain rfl := bytes_empty hs
  clear hs
  by_cases hn : n = 0
  rotate_left
  · have hne := (show (n != 0) = true by simpa using hn)
    have HN := Lib.hid hn
    clear hn
    go_wp2_with fail
    go_ret
    exact ⟨false, rfl, ⟨fun e => (by cases e), fun e => absurd ((HP.out.1 e).2.2.2.2.2.1 (by dsimp only; have := HT.out; omega)) HN.out⟩, HK.out⟩
  subst hn
  by_cases hb : b = 0
  rotate_left
  · have hne := (show (b != 0) = true by simpa using hb)
    have HN := Lib.hid hb
    clear hb
    go_wp2_with fail
    go_ret
    exact ⟨false, rfl, ⟨fun e => (by cases e), fun e => absurd ((HP.out.1 e).2.2.2.2.2.2.2 (by dsimp only; have := HT.out; omega)) HN.out⟩, HK.out⟩
  subst hb
  have C2 := emit_two [a, 0] (.slice (some ⟨W.heap.size, 0, none⟩) 2 2) (W.alloc (.cells #[.int .i64 a, .int .i64 0] 3)) (Rd.two W _ _ 3) (twoC a ∧ twoC 0) (by simp)
  go_wp2_with fail
  refine C2.mono ?_
  rintro e w2 ⟨bb, rfl, hb2, rfl⟩
  have HB2 := Lib.hid hb2
  have HK2 := Lib.hid (Kept.trans HK.out ((Below.refl _ W).alloc (Nat.le_refl _) (.cells #[.int .i64 a, .int .i64 0] 3)))
  clear hb2 C2
  go_wp2_with fail
  go_ret
  refine ⟨bb, rfl, HB2.out.trans ⟨fun h => HP.out.2 ⟨h.1, h.2, Nat.zero_le _, by dsimp only; omega, fun _ => rfl, fun _ => rfl, fun e => by dsimp only at e; have := HT.out; omega, fun _ => rfl⟩, fun h => ⟨(HP.out.1 h).1, (HP.out.1 h).2.1⟩⟩, HK2.out⟩
set_option maxHeartbeats 4000000 in
theorem emit_constant_9 (t n a b : Int) (s : ByteArray) (w : World) (ht : 9 ≤ t ∧ t ≤ 12) (p : Prop) (hp : p ↔ fairC ⟨t, s, n, a, b⟩) :
    Calls Try.prog 37 #[.agg #[.int .i64 t, .string s, .int .i64 n, .int .i64 a, .int .i64 b]] w (MethB p w) := by
  have HP := Lib.hid hp
  clear hp
  have HT := Lib.hid ht
  have hv : partsV t = #[.bool false, .bool false, .bool true, .bool true, .bool true] := by unfold partsV; rw [if_neg (by omega), if_neg (by omega), if_neg (by omega), if_pos ht]
  have HV := Lib.hid hv
  clear ht hv
  have hk : Kept w (w.alloc (.cells #[.int .i64 t, .string s, .int .i64 n, .int .i64 a, .int .i64 b] 41)) := (Below.refl _ _).alloc (Nat.le_refl _) _
  have HK := Lib.hid hk
  have HB := Lib.hid (Blk.new w 41 #[.int .i64 t, .string s, .int .i64 n, .int .i64 a, .int .i64 b])
  clear hk
  go_enter Try.func37, Try.ntmps37
  go_upto_region 1 with fail
  generalize (w.alloc (.cells #[.int .i64 t, .string s, .int .i64 n, .int .i64 a, .int .i64 b] 41)) = W at *
  have c0 := HB.out.cell 0
  have c1 := HB.out.cell 1
  have c2 := HB.out.cell 2
  have c3 := HB.out.cell 3
  have c4 := HB.out.cell 4
  simp only [List.getElem?_toArray, List.getElem?_cons_succ, List.getElem?_cons_zero] at c0 c1 c2 c3 c4
  have C := emit_parts t W
  rw [HV.out] at C
  go_wp2_with fail
  refine C.mono ?_
  rintro e w1 ⟨rfl, rfl⟩
  clear C
  by_cases hs : s.size = 0
  rotate_left
  · have hne := str_some2 hs
    have HN := Lib.hid hs
    clear hs
    go_wp2_with fail
    go_ret
    exact ⟨false, rfl, ⟨fun e => (by cases e), fun e => absurd ((HP.out.1 e).2.2.2.2.1 (by dsimp only; have := HT.out; omega)) HN.out⟩, HK.out⟩
  obtain rfl := bytes_empty hs
  clear hs
  by_cases hn : n = 0
  rotate_left
  · have hne := (show (n != 0) = true by simpa using hn)
    have HN := Lib.hid hn
    clear hn
    go_wp2_with fail
    go_ret
    exact ⟨false, rfl, ⟨fun e => (by cases e), fun e => absurd ((HP.out.1 e).2.2.2.2.2.1 (by dsimp only; have := HT.out; omega)) HN.out⟩, HK.out⟩
  subst hn
  have C2 := emit_two [a, b] (.slice (some ⟨W.heap.size, 0, none⟩) 2 2) (W.alloc (.cells #[.int .i64 a, .int .i64 b] 3)) (Rd.two W _ _ 3) (twoC a ∧ twoC b) (by simp)
  go_wp2_with fail
  refine C2.mono ?_
  rintro e w2 ⟨bb, rfl, hb2, rfl⟩
  have HB2 := Lib.hid hb2
  have HK2 := Lib.hid (Kept.trans HK.out ((Below.refl _ W).alloc (Nat.le_refl _) (.cells #[.int .i64 a, .int .i64 b] 3)))
  clear hb2 C2
  go_wp2_with fail
  go_ret
  refine ⟨bb, rfl, HB2.out.trans ⟨fun h => HP.out.2 ⟨h.1, h.2, Nat.zero_le _, by dsimp only; omega, fun _ => rfl, fun _ => rfl, fun e => by dsimp only at e; have := HT.out; omega, fun e => by dsimp only at e; have := HT.out; omega⟩, fun h => ⟨(HP.out.1 h).1, (HP.out.1 h).2.1⟩⟩, HK2.out⟩

theorem emit_constant (c : ConstC) (w : World) (hk : kindC c.tag) :
    Calls Try.prog 37 #[.agg (encC c).toArray] w (MethB (fairC c) w) := by
  obtain ⟨t, s, n, a, b⟩ := c
  rcases hk with h | h | h | h
  · exact emit_constant_1 t n a b s w h _ Iff.rfl
  · exact emit_constant_3 t n a b s w h _ Iff.rfl
  · exact emit_constant_7 t n a b s w h _ Iff.rfl
  · exact emit_constant_9 t n a b s w h _ Iff.rfl
end Go.Proofs.Ytbalmfoboaapjaa
