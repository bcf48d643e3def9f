/-
  The law FileLong: its walk.
-/
import Derived.Test.YtlipdifhdaaknaaFileI
import Derived.Laws.CopyOwn
import Derived.Laws.OwnMore
import Derived.OwnWalk
import Derived.Deep.OwnRows
namespace Go.Proofs.Ytlipdifhdaaknaa
open Go.RowKit
set_option maxRecDepth 100000

theorem small_len : smallL.length = 53 := by kernel_rfl
def longL (k : Nat) : List UInt8 := smallL ++ List.replicate (k - 53) 0
theorem longL_length {k : Nat} (h : 53 ≤ k) : (longL k).length = k := by
  unfold longL
  rw [List.length_append, List.length_replicate, small_len]
  omega
theorem long_read1 {k : Nat} (h : 65536 < k) : (readP (longL k)).2 = (0, 2) := by
  unfold readP
  rw [if_pos (by rw [longL_length (by omega)]; exact h)]
theorem long_read2 {k : Nat} (h1 : 53 < k) (h : ¬ 65536 < k) : (readP (longL k)).2 = (53, 14) := by
  obtain ⟨c, hc, _⟩ := small_read
  have h3 := read_more (L := smallL) (M := List.replicate (k - 53) 0) (by rw [hc]) (by intro e; have := congrArg List.length e; rw [List.length_replicate] at this; simp at this; omega) (by have := longL_length (k := k) (by omega); unfold longL at this; omega)
  unfold longL
  rw [h3, small_len]
  rfl
theorem long_row {k : Nat} : splice (List.replicate k (Value.int .u8 0)) 0 (smallL.map byteV) = (longL k).map byteV := by
  have h53 := small_len
  unfold splice longL
  rw [List.take_zero, List.nil_append, List.map_append, List.map_replicate, List.length_map, small_len, List.drop_replicate, Nat.zero_add]
  rfl
theorem made_row (k : Nat) (z : Value) : madeCells #[z] k = (List.replicate k z).toArray := by
  apply Array.toList_inj.1
  rw [toList_madeCells_one]
set_option maxHeartbeats 4000000 in
theorem walk_FileLong (n : Int) (w : World) (hl : (Lit.int .i64 n).wf = true) : Calls Try.prog 6 #[.int .i64 n] w fun e w' => e = .returned (.bool true) ∧ Below w.heap.size w w' := by
  clear hl
  rcases (by omega : n < 65530 ∨ (¬ n < 65530 ∧ 65540 < n) ∨ (¬ n < 65530 ∧ ¬ 65540 < n)) with hh | ⟨h1, h2⟩ | ⟨h1, h2⟩
  · go_enter Try.func6, Try.ntmps6
    go_wp2_with (first | (go_at_call 8; refine (alive3 _).mono ?_; rintro e w1 ⟨rfl, k1⟩; have K1 := Lib.hid k1; clear k1))
    go_ret
    exact ⟨rfl, K1.out⟩
  · go_enter Try.func6, Try.ntmps6
    go_wp2_with (first | (go_at_call 8; refine (alive3 _).mono ?_; rintro e w1 ⟨rfl, k1⟩; have K1 := Lib.hid k1; clear k1))
    go_ret
    exact ⟨rfl, K1.out⟩
  · obtain ⟨k, rfl⟩ : ∃ k : Nat, n = k := ⟨n.toNat, by omega⟩
    obtain ⟨i, hi, hz0, hz1, hz2⟩ := info_parts elem_byte.hi
    go_enter Try.func6, Try.ntmps6
    go_wp2_with fail
    refine (alive3 _).mono ?_
    rintro e w1 ⟨rfl, k1⟩
    have K1 := Lib.hid k1
    clear k1
    go_upto_region 5 with (at_make; (refine wpList_make_row _ rfl _ _ 22 rfl 5 i (.int .u8 0) elem_byte.ht hi hz0 hz1 rfl .i64 .i64 k rfl rfl (by rw [hz2]; omega) (by omega) ?_))
    have HB : Hid (Blk (w1.alloc (.cells (madeCells #[.int .u8 0] k) 5)) w1.heap.size 5 (List.replicate k (Value.int .u8 0)).toArray) := Lib.hid ((Blk.new w1 5 (madeCells #[.int .u8 0] k)).trans (congrArg (fun c => some (Obj.cells c 5 (0, 0))) (made_row k _)))
    have K2 : Hid (Kept w (w1.alloc (.cells (madeCells #[.int .u8 0] k) 5))) := Lib.hid (Below.alloc K1.out K1.out.size _)
    have hge : w.heap.size ≤ w1.heap.size := K1.out.size
    generalize w1.alloc (.cells (madeCells #[.int .u8 0] k) 5) = W2 at *
    generalize w1.heap.size = g at *
    go_wp2_with fail
    refine (law3_small _).mono ?_
    rintro e w3 ⟨v, rfl, ho, k3⟩
    have hrs := Rd.of_own ho
    obtain ⟨a3, c3, rfl, -, -⟩ := own_slice ho
    have hsrc : ∃ ad, a3 = some ad ∧ ∀ j v, (smallL.map byteV)[j]? = some v → w3.cell? (ad.add j) = some v := by
      obtain ⟨_, a', c', hv, h1', h2', h3'⟩ := hrs
      simp only [Value.slice.injEq] at hv
      obtain ⟨rfl, -, rfl⟩ := hv
      obtain ⟨b, off, rfl, hc⟩ := h3' (by omega)
      refine ⟨_, rfl, fun j u hu => ?_⟩
      have h9 := hc j u hu
      by_cases hj : j = 0
      · subst hj; simpa [Addr.add] using h9
      · simpa [Addr.add, hj] using h9
    have HB3 := Lib.hid (HB.out.kept k3)
    have K3 := Lib.hid (Kept.trans K2.out k3)
    clear ho hrs k3
    obtain ⟨X, hX⟩ : ∃ X, X = smallL.map byteV := ⟨_, rfl⟩
    have HX := Lib.hid hX
    have hXl : X.length = 53 := by rw [hX, List.length_map, small_len]
    have hX1 : ∀ v ∈ X, v.oneCell' = true := by rw [hX]; exact bytes_one _
    rw [← hX] at hsrc
    have HS := Lib.hid hsrc
    clear hX hsrc
    go_upto_region 6 with ((refine wpList_copy_splice (by rfl) (.tmp 22) (.tmp 23) 22 22 (by rfl) 5 elem_byte.ht (by kernel_rfl) (some ⟨g, 0, none⟩) a3 k k 53 c3 (by rfl) (by rfl) g 0 (List.replicate k (Value.int .u8 0)) 5 HB3.out X (by rw [hXl]; simp [Nat.min_def]; omega) (fun _ => ⟨rfl, HS.out⟩) (by rw [hXl, List.length_replicate]; omega) hX1 w.heap.size w K3.out hge ?_; intro w4 hg4 hb4; have K4 := Lib.hid hb4; clear hb4))

    have hl : (longL k).length = k := longL_length (by omega)
    have hrd : Rd w4 1 (.slice (some ⟨g, 0, none⟩) k k) (longL k).length ((longL k).map byteV) := by
      rw [hl]
      have hb := hg4.out
      rw [HX.out, long_row] at hb
      exact Rd.of_own (base := w.heap.size) (e := 5) ⟨by rw [List.length_map, hl, Nat.mul_one], .inr ⟨g, k, _, rfl, hge, hb, Nat.le_refl _, by unfold maxLen; omega, by simp [hl], by rw [Nat.mul_one]; apply List.take_of_length_le; simp [hl]⟩⟩
    have HR := Lib.hid hrd
    clear hrd hg4 HB3 HB HS
    by_cases h65 : 65536 < k
    · have u1 : (65536 : Int) < (k : Int) := by omega
      go_wp2_with fail
      refine (file_ReadE (longL k) _ w4 HR.out 0 2 (long_read1 h65)).mono ?_
      rintro e w5 ⟨⟨i0, i1, j2, n2, d2, i3, i4, i5, j6, n6, d6, j7, n7, d7, j8, n8, d8, rfl⟩, k5⟩
      have K5 := Lib.hid (Kept.trans K4.out k5)
      clear k5
      go_wp2_with (first
        | (go_at_call 11; refine (law3_num _ _).mono ?_; rintro e w6 ⟨rfl, rfl⟩))
      go_ret
      exact ⟨rfl, Below.alloc K5.out K5.out.size _⟩
    · have u1 : ¬ (65536 : Int) < (k : Int) := by omega
      go_wp2_with fail
      refine (file_ReadE (longL k) _ w4 HR.out 53 14 (long_read2 (by omega) h65)).mono ?_
      rintro e w5 ⟨⟨i0, i1, j2, n2, d2, i3, i4, i5, j6, n6, d6, j7, n7, d7, j8, n8, d8, rfl⟩, k5⟩
      have K5 := Lib.hid (Kept.trans K4.out k5)
      clear k5
      go_wp2_with (first
        | (go_at_call 11; refine (law3_num _ _).mono ?_; rintro e w6 ⟨rfl, rfl⟩))
      go_ret
      exact ⟨rfl, Below.alloc K5.out K5.out.size _⟩
end Go.Proofs.Ytlipdifhdaaknaa
