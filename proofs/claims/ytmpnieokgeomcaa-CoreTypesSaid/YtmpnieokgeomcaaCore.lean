/-
  Package core by contract: the names, one by one.
-/
import Derived.Test.YtmpnieokgeomcaaProg
import Derived.Test.YtmpnieokgeomcaaCore0
import Derived.RangeFuncNested
import Derived.RangeFuncBound
import Derived.RangeFuncCalls
import Derived.RangeFuncLeaves
import Derived.Shelf.Abstract
import Derived.Shelf.RegionOpen
import Derived.OwnWalkIn
import Derived.TacticsInMore
import Derived.LoopNIn
import Derived.LoopIn
import Derived.Laws.Tables
import Derived.Laws.Rows
namespace Go.Proofs.Ytmpnieokgeomcaa
open Go.RowKit Go.Shelf
set_option maxRecDepth 100000
attribute [local go_sem] Oper.semAt_some

theorem kept_setRow {w : World} {o : Obj} {cs : Array Value} : Kept w ((w.alloc o).setRow w.heap.size cs) := by
  refine ⟨rfl, rfl, rfl, by simp, fun k hk => ?_⟩
  rw [← Below.heap_alloc w o k hk]
  unfold World.setRow
  rw [Array.getElem?_modify]
  split
  · omega
  · rfl

set_option maxHeartbeats 1000000 in
theorem core_all (w : World) : Calls Try.prog 16 #[] w fun e w' => e = .returned (.agg arr24) ∧ Kept w w' := by
  go_enter Try.func16, Try.ntmps16
  go_wp2_with (refine wpList_store_row rfl 41 _ _ rfl w.heap.size arr24 rfl (by rfl) 41 _ (heap_alloc_new w _) (by kernel_rfl) (by rfl) (by kernel_rfl) ?_)
  refine bodyPost_ret (results_cell_row rfl _ _ w.heap.size 41 arr24 (0, 0) _ (by rfl) (setRow_heap _ _ _ _ _ _ (heap_alloc_new w _)) Try.underlying41 rfl (by kernel_rfl)) rfl ⟨rfl, kept_setRow⟩

theorem idx24 (w : World) : ∀ (k : Nat), k < 24 → (Instr.index 41 (.agg arr24) (.int .i64 (k : Int))).run Try.prog w = .ok (.agg #[.string (pr24 k).1, .string (pr24 k).2]) w
  | 0, _ => by kernel_rfl
  | 1, _ => by kernel_rfl
  | 2, _ => by kernel_rfl
  | 3, _ => by kernel_rfl
  | 4, _ => by kernel_rfl
  | 5, _ => by kernel_rfl
  | 6, _ => by kernel_rfl
  | 7, _ => by kernel_rfl
  | 8, _ => by kernel_rfl
  | 9, _ => by kernel_rfl
  | 10, _ => by kernel_rfl
  | 11, _ => by kernel_rfl
  | 12, _ => by kernel_rfl
  | 13, _ => by kernel_rfl
  | 14, _ => by kernel_rfl
  | 15, _ => by kernel_rfl
  | 16, _ => by kernel_rfl
  | 17, _ => by kernel_rfl
  | 18, _ => by kernel_rfl
  | 19, _ => by kernel_rfl
  | 20, _ => by kernel_rfl
  | 21, _ => by kernel_rfl
  | 22, _ => by kernel_rfl
  | 23, _ => by kernel_rfl
  | k + 24, h => absurd h (by omega)

theorem pr24_small : ∀ k : Fin 24, (pr24 k).1.size ≤ 100 ∧ (pr24 k).2.size ≤ 100 := by decide +kernel
theorem grown_of_kept {w w' : World} (h : Kept w w') : w.grownBy w' none := ⟨h.os, h.tape, h.output, h.size, fun k hk _ => Below.block h k hk⟩

set_option maxHeartbeats 1000000 in
/-- The iterator of all names. -/
theorem names_stops (n : Nat) (hn : 2 ≤ n) (w : World) :
    SeqStops Fence.wide n Try.prog 18 #[] (fun s : ByteArray => Value.string s) (fun xs => xs = names26) (fun pre => pre <+: names26) 26 w := fun l J Jx W hW hJ hJx hY h0 => by
  refine callsIn_of_wp Try.func18 rfl trivial ?_ rfl
  simp only [Try.ntmps18, List.size_toArray, List.length_cons, List.length_nil, Nat.reduceAdd, Nat.reduceSub, Array.replicate_succ, Array.replicate_zero, List.push_toArray, List.append_toArray, List.nil_append, List.cons_append]
  gi_wp2_with (refine ⟨trivial, fun _ => by omega, ?_⟩; gi_at_call 16; refine (callsIn_wide.2 (core_all W)).mono ?_; rintro e w1 ⟨rfl, k1⟩)
  have j1 := hJ [] W w1 none h0 (grown_of_kept k1) (fun r e => by cases e)
  have J1 := Lib.hid j1
  have hsz := k1.size
  clear j1 k1 h0
  gi_loopw [5] (fun i wr => ∃ k : Nat, k ≤ 24 ∧ i = .int .i64 k ∧ J (names26.take k) wr) (fun i _ => 24 - (intOf i).toNat)
  case atStart => exact ⟨0, by omega, rfl, J1.out⟩
  case round =>
    obtain ⟨k, hk, rfl, hJs⟩ := hrel
    by_cases hlt : k < 24
    · have hi := fun W => idx24 W k hlt
      have hj2 := hJ _ wr (wr.alloc (.cells #[.string (pr24 k).1, .string (pr24 k).2] 39)) none hJs (World.grownBy_alloc wr _ none) (fun r e => by cases e)
      obtain ⟨fn, tmps, assign, body, hy, hR⟩ := hY _ (nm24 k) _ hj2 (by rw [List.length_take, names26_len]; omega)
      have htk := Lib.hid (names26_take k hlt)
      unfold nm24 langB at hy
      obtain ⟨pa, hpa⟩ : ∃ pa, pa = (pr24 k).1 := ⟨_, rfl⟩
      obtain ⟨pb, hpb⟩ : ∃ pb, pb = (pr24 k).2 := ⟨_, rfl⟩
      have hps := (pr24_small ⟨k, hlt⟩).1
      dsimp only at hps
      rw [← hpa] at hps
      have hps2 : 10 + pa.size ≤ 9223372036854775807 := by omega
      clear hps
      rw [← hpa, ← hpb] at hi hR
      rw [← hpa, ← hpb] at hy
      clear hpa hpb hj2
      gi_wp2
      refine ⟨fun _ => by omega, hR.mono ?_⟩
      rintro e W3 (⟨rfl, hJ3, -⟩ | ⟨rfl, hJx3⟩)
      · have H3 := Lib.hid (show J (names26.take (k + 1)) W3 by rw [htk.out]; exact hJ3)
        clear hJ3 hy hR hi
        gi_wp2
        go_roundw
        case rel => exact ⟨k + 1, by omega, by go_num, H3.out⟩
        case measure => simp [intOf]; omega
      · have H3 := Lib.hid (show Jx (names26.take (k + 1)) W3 by rw [htk.out]; exact hJx3)
        clear hJx3 hy hR hi
        gi_wp2
        refine bodyPost_ret (results_none rfl _ _ _) rfl ?_
        exact ⟨⟨_, rfl⟩, .inr ⟨_, List.take_prefix _ _, H3.out⟩⟩
    · obtain rfl : k = 24 := by omega
      obtain ⟨fn, tmps, assign, body, hy, hR⟩ := hY _ taskB _ hJs (by rw [List.length_take, names26_len]; omega)
      unfold taskB at hy
      gi_wp2
      refine ⟨fun _ => by omega, hR.mono ?_⟩
      rintro e W3 (⟨rfl, hJ3, -⟩ | ⟨rfl, hJx3⟩)
      · rw [← names26_24.1] at hJ3
        clear hy hR
        obtain ⟨fn, tmps, assign, body, hy, hR⟩ := hY _ sysB _ hJ3 (by rw [List.length_take, names26_len]; omega)
        unfold sysB at hy
        gi_wp2
        refine ⟨fun _ => by omega, hR.mono ?_⟩
        rintro e W4 (⟨rfl, hJ4, -⟩ | ⟨rfl, hJx4⟩)
        · have H4 := Lib.hid (show J names26 W4 by rw [← names26_24.2.2, names26_24.2.1]; exact hJ4)
          clear hJ4 hy hR
          gi_wp2
          go_end0
          exact ⟨⟨_, rfl⟩, .inl ⟨_, rfl, H4.out⟩⟩
        · have H4 := Lib.hid (show Jx names26 W4 by rw [← names26_24.2.2, names26_24.2.1]; exact hJx4)
          clear hJx4 hy hR
          gi_wp2
          go_end0
          exact ⟨⟨_, rfl⟩, .inr ⟨_, List.prefix_refl _, H4.out⟩⟩
      · have H3 := Lib.hid (show Jx (names26.take 25) W3 by rw [names26_24.1]; exact hJx3)
        clear hJx3 hy hR
        gi_wp2
        go_end0
        exact ⟨⟨_, rfl⟩, .inr ⟨_, List.take_prefix _ _, H3.out⟩⟩
end Go.Proofs.Ytmpnieokgeomcaa
