/-
  The law's own small class; alive; whether a class is too much to be played.
-/
import Derived.Test.YtbalmfoboaapjaaEr7
namespace Go.Proofs.Ytbalmfoboaapjaa
set_option linter.unusedVariables false
set_option linter.unusedSimpArgs false
open Go.RowKit
set_option maxRecDepth 100000

theorem heap_new_at {w : World} (o : Obj) (k : Nat) (hk : k = w.heap.size) : (w.alloc o).heap[k]? = some o := by subst hk; exact heap_alloc_new w o
def smallK : ClassC := ⟨0, 52, [⟨1, ⟨#[65]⟩, 0, 0, 0⟩, ⟨7, ⟨#[]⟩, 0, 1, 0⟩, ⟨1, ⟨#[106, 97, 118, 97, 47, 108, 97, 110, 103, 47, 79, 98, 106, 101, 99, 116]⟩, 0, 0, 0⟩, ⟨7, ⟨#[]⟩, 0, 3, 0⟩], 33, 2, 4, [], [], []⟩
set_option maxHeartbeats 2000000 in
theorem law4_small (w : World) : Calls Try.prog 16 #[] w fun e w' => ∃ vP, e = .returned (.agg (classV smallK vP (.slice none 0 0) (.slice none 0 0) (.slice none 0 0)).toArray) ∧ w'.ownsRow w.heap.size 41 5 vP 4 (smallK.pool.flatMap encC) ∧ Kept w w' := by
  go_enter Try.func16, Try.ntmps16
  go_wp2_with fail
  have hB : Blk ((w.alloc (.cells #[.int .i64 0, .int .i64 52, .slice (some ⟨w.heap.size + 1, 0, none⟩) 4 4, .int .i64 33, .int .i64 2, .int .i64 4, .slice none 0 0, .slice none 0 0, .slice none 0 0] 27)).alloc (.cells #[.int .i64 1, .string ⟨#[65]⟩, .int .i64 0, .int .i64 0, .int .i64 0, .int .i64 7, .string ⟨#[]⟩, .int .i64 0, .int .i64 1, .int .i64 0, .int .i64 1, .string ⟨#[106, 97, 118, 97, 47, 108, 97, 110, 103, 47, 79, 98, 106, 101, 99, 116]⟩, .int .i64 0, .int .i64 0, .int .i64 0, .int .i64 7, .string ⟨#[]⟩, .int .i64 0, .int .i64 3, .int .i64 0] 41)) w.heap.size 27 #[.int .i64 0, .int .i64 52, .slice (some ⟨w.heap.size + 1, 0, none⟩) 4 4, .int .i64 33, .int .i64 2, .int .i64 4, .slice none 0 0, .slice none 0 0, .slice none 0 0] := (Blk.new _ _ _).alloc _
  have HLV := run_loadVar_row (P := Try.prog) _ w.heap.size 27 27 _ (0, 0) _ hB Try.underlying27 rfl (by kernel_rfl)
  refine bodyPost_ret (v := .agg #[.int .i64 0, .int .i64 52, .slice (some ⟨w.heap.size + 1, 0, none⟩) 4 4, .int .i64 33, .int .i64 2, .int .i64 4, .slice none 0 0, .slice none 0 0, .slice none 0 0]) ?_ rfl ?_
  · simp [results, Try.results16, asAddr, HLV]
  · refine ⟨.slice (some ⟨w.heap.size + 1, 0, none⟩) 4 4, rfl, ⟨rfl, .inr ⟨w.heap.size + 1, 4, (smallK.pool.flatMap encC).toArray, rfl, by omega, ?_, Nat.le_refl _, by decide, rfl, rfl⟩⟩, ((Below.refl _ _).alloc (Nat.le_refl _) _).alloc (by simp) _⟩
    exact heap_new_at _ _ (by simp)
theorem law4_num (n : Int) (w : World) : Calls Try.prog 14 #[.int .i64 n] w fun e w' => e = .returned (.int .i64 n) ∧ w = w' := by
  go_enter Try.func14, Try.ntmps14
  go_wp2
  go_ret
  exact ⟨rfl, rfl⟩
theorem smallK_len : (classB smallK).length = 53 := by
  simp [classB, smallK, constB, twoB, beB, ByteArray.size]
theorem smallK_at0 : (classB smallK)[0]? = some (byteOf 3405691582 3) := by
  simp [classB, beB]
theorem smallK_at52 : (classB smallK)[52]? = some (byteOf 0 0) := by
  simp [classB, smallK, constB, twoB, beB, ByteArray.size]
theorem smallK_ok : writeC smallK = (classB smallK, 0) := by
  have h : refusedC smallK = 0 := by decide
  exact write_all h (by rw [smallK_len]; decide)
theorem smallK_rd {w : World} {base : Nat} {vP : Value} (h : w.ownsRow base 41 5 vP 4 (smallK.pool.flatMap encC)) : CRd w smallK [] vP (.slice none 0 0) (.slice none 0 0) (.slice none 0 0) :=
  ⟨Rd.of_own h, Rd.nil, Rd.nil, Rd.nil, fun x hx => by simp at hx, rfl⟩
end Go.Proofs.Ytbalmfoboaapjaa
