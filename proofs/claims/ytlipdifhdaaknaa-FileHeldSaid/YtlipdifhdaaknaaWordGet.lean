/-
  word.Get, word.Signed and the document's own Get, by contract.
-/
import Derived.Test.YtlipdifhdaaknaaWordBytes
namespace Go.Proofs.Ytlipdifhdaaknaa
open Go.RowKit

theorem drop_cons {α : Type} {l : List α} {k : Nat} {x : α} (h : l[k]? = some x) : l.drop k = x :: l.drop (k + 1) := by
  obtain ⟨hk, rfl⟩ := List.getElem?_eq_some_iff.1 h
  exact List.drop_eq_getElem_cons hk
theorem take1 {α : Type} {l : List α} {k : Nat} {x : α} (h : l[k]? = some x) : (l.drop k).take 1 = [x] := by rw [drop_cons h]; simp
theorem take2 {α : Type} {l : List α} {k : Nat} {x y : α} (h : l[k]? = some x) (h1 : l[k + 1]? = some y) : (l.drop k).take 2 = [x, y] := by rw [drop_cons h, drop_cons h1]; simp
theorem take4 {α : Type} {l : List α} {k : Nat} {x y z t : α} (h : l[k]? = some x) (h1 : l[k + 1]? = some y) (h2 : l[k + 2]? = some z) (h3 : l[k + 3]? = some t) : (l.drop k).take 4 = [x, y, z, t] := by
  rw [drop_cons h, drop_cons h1, drop_cons h2, drop_cons h3]; simp
theorem some_at {α : Type} (l : List α) (k : Nat) (h : k < l.length) : ∃ x, l[k]? = some x := ⟨l[k], List.getElem?_eq_getElem h⟩
theorem be_small (l : List UInt8) (h : l.length ≤ 4) : be l < 4294967296 := Nat.lt_of_lt_of_le (be_bd l 4 h) (by decide)
theorem be_next {l : List UInt8} {k j : Nat} {x : UInt8} (h : l[k + j]? = some x) : be ((l.drop k).take (j + 1)) = be ((l.drop k).take j) * 256 + x.toNat := by
  rw [List.take_add_one, List.getElem?_drop, h]; exact be_snoc _ _
theorem okAt_true {l : List UInt8} {at_ n : Int} (h : okAt l at_ n = true) : (n = 1 ∨ n = 2 ∨ n = 4) ∧ ∃ k : Nat, at_ = k ∧ (k : Int) + n ≤ l.length := by
  simp only [okAt, decide_eq_true_eq] at h
  exact ⟨h.1, at_.toNat, by omega, by omega⟩
theorem okAt_false {l : List UInt8} {at_ n : Int} (h : okAt l at_ n = false) : ¬ ((n = 1 ∨ n = 2 ∨ n = 4) ∧ 0 ≤ at_ ∧ at_ + n ≤ l.length) := by
  simpa only [okAt, decide_eq_false_iff_not] using h

set_option maxHeartbeats 1000000 in
theorem ref1_Get (l : List UInt8) (v : Value) (at_ n : Int) (w : World) (h : Rd w 1 v l.length (l.map byteV)) :
    Calls Try.prog 32 #[v, .int .i64 at_, .int .i64 n] w fun e w' => e = .returned (.tuple #[.int .i64 (getU l at_ n), .bool (okAt l at_ n)]) ∧ w = w' := by
  cases hok : okAt l at_ n
  · obtain ⟨hl, a, c, rfl, h1, h2, _⟩ := h
    have hno := okAt_false hok
    have hs : getU l at_ n = 0 := by simp [getU, hok]
    rw [hs]
    clear hs hok
    rcases (by omega : n = 1 ∨ n = 2 ∨ n = 4 ∨ (¬ n = 1 ∧ ¬ n = 2 ∧ ¬ n = 4)) with rfl | rfl | rfl | ⟨n1, n2, n4⟩
    all_goals
      go_enter Try.func32, Try.ntmps32
      go_wp2
      all_goals (go_ret2; exact ⟨rfl, rfl⟩)
  · obtain ⟨hn, k, rfl, hk⟩ := okAt_true hok
    rcases h.parts with ⟨h0, _, _⟩ | ⟨b, off, c, rfl, h0, h1, h2, hc⟩
    · rcases hn with rfl | rfl | rfl <;> omega
    · obtain ⟨m, rfl⟩ : ∃ m : Nat, n = m := ⟨n.toNat, by omega⟩
      have hs : getU l (k : Int) m = (be ((l.drop k).take m) : Int) := by simp [getU, hok]
      rw [hs]
      have hm : m ≤ 4 := by omega
      clear hs hok
      rcases (by omega : m = 1 ∨ m = 2 ∨ m = 4) with rfl | rfl | rfl
      · go_enter Try.func32, Try.ntmps32
        go_wp2
        go_loop [8, 9] (fun v i => ∃ j : Nat, j ≤ 1 ∧ i = .int .i64 j ∧ v = .int .i64 (be ((l.drop k).take j) : Int)) (fun _ i => 1 - (intOf i).toNat)
        case atStart => exact ⟨0, Nat.zero_le _, rfl, rfl⟩
        case round =>
          obtain ⟨j, hj, rfl, rfl⟩ := hrel
          by_cases hlt : j < 1
          · obtain ⟨x, hx⟩ := some_at l (k + j) (by omega)
            have hcx : w.cell? ⟨b, off + (k + j), none⟩ = some (.int .u8 x.toNat) := hc _ _ (by rw [List.getElem?_map, hx]; rfl)
            have hb := be_small ((l.drop k).take j) (by have := List.length_take_le j (l.drop k); omega)
            have hx' := u8_lt x
            have hnext := Lib.hid (be_next hx)
            clear hc h hx
            go_wp2
            go_round
            case rel => exact ⟨j + 1, by omega, by go_num, val_int (by have := hnext.out; omega)⟩
            case measure => simp [intOf]; omega
          · obtain rfl : j = 1 := by omega
            go_wp2
            go_ret2
            exact ⟨rfl, rfl⟩
      · go_enter Try.func32, Try.ntmps32
        go_wp2
        go_loop [8, 9] (fun v i => ∃ j : Nat, j ≤ 2 ∧ i = .int .i64 j ∧ v = .int .i64 (be ((l.drop k).take j) : Int)) (fun _ i => 2 - (intOf i).toNat)
        case atStart => exact ⟨0, Nat.zero_le _, rfl, rfl⟩
        case round =>
          obtain ⟨j, hj, rfl, rfl⟩ := hrel
          by_cases hlt : j < 2
          · obtain ⟨x, hx⟩ := some_at l (k + j) (by omega)
            have hcx : w.cell? ⟨b, off + (k + j), none⟩ = some (.int .u8 x.toNat) := hc _ _ (by rw [List.getElem?_map, hx]; rfl)
            have hb := be_small ((l.drop k).take j) (by have := List.length_take_le j (l.drop k); omega)
            have hx' := u8_lt x
            have hnext := Lib.hid (be_next hx)
            clear hc h hx
            go_wp2
            go_round
            case rel => exact ⟨j + 1, by omega, by go_num, val_int (by have := hnext.out; omega)⟩
            case measure => simp [intOf]; omega
          · obtain rfl : j = 2 := by omega
            go_wp2
            go_ret2
            exact ⟨rfl, rfl⟩
      · go_enter Try.func32, Try.ntmps32
        go_wp2
        go_loop [8, 9] (fun v i => ∃ j : Nat, j ≤ 4 ∧ i = .int .i64 j ∧ v = .int .i64 (be ((l.drop k).take j) : Int)) (fun _ i => 4 - (intOf i).toNat)
        case atStart => exact ⟨0, Nat.zero_le _, rfl, rfl⟩
        case round =>
          obtain ⟨j, hj, rfl, rfl⟩ := hrel
          by_cases hlt : j < 4
          · obtain ⟨x, hx⟩ := some_at l (k + j) (by omega)
            have hcx : w.cell? ⟨b, off + (k + j), none⟩ = some (.int .u8 x.toNat) := hc _ _ (by rw [List.getElem?_map, hx]; rfl)
            have hb := be_small ((l.drop k).take j) (by have := List.length_take_le j (l.drop k); omega)
            have hx' := u8_lt x
            have hnext := Lib.hid (be_next hx)
            clear hc h hx
            go_wp2
            go_round
            case rel => exact ⟨j + 1, by omega, by go_num, val_int (by have := hnext.out; omega)⟩
            case measure => simp [intOf]; omega
          · obtain rfl : j = 4 := by omega
            go_wp2
            go_ret2
            exact ⟨rfl, rfl⟩

end Go.Proofs.Ytlipdifhdaaknaa
