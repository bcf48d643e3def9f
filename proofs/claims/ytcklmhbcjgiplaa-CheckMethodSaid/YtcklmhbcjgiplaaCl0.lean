/-
  The laws of chapter 5: their small class, num, alive.
-/
import Derived.Test.YtcklmhbcjgiplaaCkZ
namespace Go.Proofs.Ytcklmhbcjgiplaa
set_option linter.unusedVariables false
set_option linter.unusedSimpArgs false
open Go.RowKit
set_option maxRecDepth 100000

def smallK : ClassC := ⟨0, 52, [⟨1, ⟨#[65]⟩, 0, 0, 0⟩, ⟨7, ⟨#[]⟩, 0, 1, 0⟩, ⟨1, ⟨#[106, 97, 118, 97, 47, 108, 97, 110, 103, 47, 79, 98, 106, 101, 99, 116]⟩, 0, 0, 0⟩, ⟨7, ⟨#[]⟩, 0, 3, 0⟩], 33, 2, 4, [], [], []⟩
set_option maxHeartbeats 2000000 in
theorem law5_small (w : World) : Calls Try.prog 23 #[] w fun e w' => ∃ vP, e = .returned (.agg (classV smallK vP (.slice none 0 0) (.slice none 0 0) (.slice none 0 0)).toArray) ∧ w'.ownsRow w.heap.size 47 5 vP 4 (smallK.pool.flatMap encC) ∧ Kept w w' := by
  go_enter Try.func23, Try.ntmps23
  go_wp2_with fail
  have hB : Blk ((w.alloc (.cells #[.int .i64 0, .int .i64 52, .slice (some ⟨w.heap.size + 1, 0, none⟩) 4 4, .int .i64 33, .int .i64 2, .int .i64 4, .slice none 0 0, .slice none 0 0, .slice none 0 0] 27)).alloc (.cells #[.int .i64 1, .string ⟨#[65]⟩, .int .i64 0, .int .i64 0, .int .i64 0, .int .i64 7, .string ⟨#[]⟩, .int .i64 0, .int .i64 1, .int .i64 0, .int .i64 1, .string ⟨#[106, 97, 118, 97, 47, 108, 97, 110, 103, 47, 79, 98, 106, 101, 99, 116]⟩, .int .i64 0, .int .i64 0, .int .i64 0, .int .i64 7, .string ⟨#[]⟩, .int .i64 0, .int .i64 3, .int .i64 0] 47)) w.heap.size 27 #[.int .i64 0, .int .i64 52, .slice (some ⟨w.heap.size + 1, 0, none⟩) 4 4, .int .i64 33, .int .i64 2, .int .i64 4, .slice none 0 0, .slice none 0 0, .slice none 0 0] := (Blk.new _ _ _).alloc _
  have HLV := run_loadVar_row (P := Try.prog) _ w.heap.size 27 27 _ (0, 0) _ hB Try.underlying27 rfl (by kernel_rfl)
  refine bodyPost_ret (v := .agg #[.int .i64 0, .int .i64 52, .slice (some ⟨w.heap.size + 1, 0, none⟩) 4 4, .int .i64 33, .int .i64 2, .int .i64 4, .slice none 0 0, .slice none 0 0, .slice none 0 0]) ?_ rfl ?_
  · simp [results, Try.results23, asAddr, HLV]
  · refine ⟨.slice (some ⟨w.heap.size + 1, 0, none⟩) 4 4, rfl, ⟨rfl, .inr ⟨w.heap.size + 1, 4, (smallK.pool.flatMap encC).toArray, rfl, by omega, ?_, Nat.le_refl _, by decide, rfl, rfl⟩⟩, ((Below.refl _ _).alloc (Nat.le_refl _) _).alloc (by simp) _⟩
    exact heap_new_at' _ _ (by simp)
theorem law5_num (n : Int) (w : World) : Calls Try.prog 21 #[.int .i64 n] w fun e w' => e = .returned (.int .i64 n) ∧ w = w' := by
  go_enter Try.func21, Try.ntmps21
  go_wp2
  go_ret
  exact ⟨rfl, rfl⟩
theorem smallK_text : ∀ k ∈ smallK.pool, k.text.size ≤ maxLen := by
  intro k hk
  have h : k.text.size ≤ 16 := by
    simp only [smallK, List.mem_cons, List.not_mem_nil, or_false] at hk
    rcases hk with rfl | rfl | rfl | rfl <;> decide
  exact Nat.le_trans h (by unfold maxLen; omega)
theorem small_check : checkE (bareC 0 52 33 2 4 smallK.pool) = 0 := by decide +kernel
theorem small_n1 : (nameC smallK.pool 2).1 = ⟨#[65]⟩ := by decide +kernel
theorem small_n2 : (nameC smallK.pool 4).1 = ⟨#[106, 97, 118, 97, 47, 108, 97, 110, 103, 47, 79, 98, 106, 101, 99, 116]⟩ := by decide +kernel
theorem zero_check : checkE (bareC 0 0 0 0 0 []) = 12 := by decide +kernel
set_option maxHeartbeats 4000000 in
theorem alive5 (w : World) : Calls Try.prog 13 #[] w fun e w' => e = .returned (.bool true) ∧ Kept w w' := by
  go_enter Try.func13, Try.ntmps13
  go_wp2_with fail
  refine (law5_small w).mono ?_
  rintro e w1 ⟨vP, he, ho, hk1⟩
  have he : e = .returned (.agg #[.int .i64 0, .int .i64 52, vP, .int .i64 33, .int .i64 2, .int .i64 4, .slice none 0 0, .slice none 0 0, .slice none 0 0]) := he
  subst he
  have K1 := Lib.hid hk1
  have C := check_Outline0 0 52 33 2 4 smallK.pool vP w1 (Rd.of_own ho) smallK_text small_check
  obtain ⟨n1, hn1⟩ : ∃ n, n = (nameC smallK.pool 2).1 := ⟨_, rfl⟩
  obtain ⟨n2, hn2⟩ : ∃ n, n = (nameC smallK.pool 4).1 := ⟨_, rfl⟩
  rw [← hn1, ← hn2] at C
  rw [small_n1] at hn1
  rw [small_n2] at hn2
  have q1 : (n1.toList == [65]) = true := by rw [hn1, ByteArray.toList_eq]; rfl
  have q2 : (n2.toList == [106, 97, 118, 97, 47, 108, 97, 110, 103, 47, 79, 98, 106, 101, 99, 116]) = true := by rw [hn2, ByteArray.toList_eq]; rfl
  clear ho hk1 hn1 hn2
  go_wp2_with fail
  refine C.mono ?_
  rintro e w2 ⟨rfl, hk2⟩
  have K2 := Lib.hid (Kept.trans K1.out hk2)
  clear hk2 C
  go_upto_region 2 with fail
  have hk3 : Kept w2 (w2.alloc (.cells #[.string n1, .string n2, .int .i64 33, .slice none 0 0, .slice none 0 0, .slice none 0 0] 36)) := (Below.refl _ _).alloc (Nat.le_refl _) _
  obtain ⟨g, hg⟩ : ∃ g, g = w2.heap.size := ⟨_, rfl⟩
  have K3 := Lib.hid (Kept.trans K2.out hk3)
  have HT := Lib.hid (Blk.new w2 36 #[.string n1, .string n2, .int .i64 33, .slice none 0 0, .slice none 0 0, .slice none 0 0])
  rw [← hg] at HT ⊢
  clear hk3
  generalize (w2.alloc (.cells #[.string n1, .string n2, .int .i64 33, .slice none 0 0, .slice none 0 0, .slice none 0 0] 36)) = w3 at *
  clear hg
  have C := check_Check (bareC 0 0 0 0 0 []) [] (.slice none 0 0) (.slice none 0 0) (.slice none 0 0) (.slice none 0 0) w3 (bare_rd Rd.nil) (fun k hk => by cases hk)
  unfold IntG at C
  rw [zero_check] at C
  go_wp2_with fail
  refine C.mono ?_
  rintro e w4 ⟨rfl, hk4⟩
  have K4 := Lib.hid (Kept.trans K3.out hk4)
  have HT4 := Lib.hid (HT.out.kept hk4)
  clear hk4 C
  have t0 := HT4.out.cell 0
  have t1 := HT4.out.cell 1
  have t2 := HT4.out.cell 2
  have t3 := HT4.out.cell 3
  have t4 := HT4.out.cell 4
  have t5 := HT4.out.cell 5
  simp only [List.getElem?_toArray, List.getElem?_cons_succ, List.getElem?_cons_zero] at t0 t1 t2 t3 t4 t5
  go_wp2_with (go_at_call 21; refine (law5_num _ _).mono ?_; rintro e w9 ⟨rfl, rfl⟩)
  go_ret
  exact ⟨rfl, K4.out⟩
end Go.Proofs.Ytcklmhbcjgiplaa
