/-
  The law TopNames, walked: rows of pairs of equal numbers.
-/
import Derived.Test.YtpaldfhlmafioaaBase
import Derived.Test.YtpaldfhlmafioaaProg
namespace Go.Proofs.Ytpaldfhlmafioaa
open Go.RowKit
set_option maxRecDepth 100000

def pairI (x : Int) : List Value := [.int .i64 x, .int .i64 x]

theorem pair_cells {w : World} {l : List Int} {v : Value} {n : Nat} (hl : l.length = n) (hr : Rd w 2 v n (l.flatMap pairI)) {i : Nat} {m : Int} (hm : l[i]? = some m) :
    ∃ b off c, v = .slice (some ⟨b, off, none⟩) n c ∧ c ≤ 9223372036854775807 ∧ w.cell? ⟨b, off + i * 2, none⟩ = some (.int .i64 m) ∧ w.cell? ⟨b, off + i * 2 + 1, none⟩ = some (.int .i64 m) := by
  have hl' := (List.getElem?_eq_some_iff.1 hm).1
  rcases hr.parts with ⟨h0, _⟩ | ⟨b, off, c, rfl, h0, h1, h2, hc⟩
  · omega
  · have hg : ∀ f u, (pairI m)[f]? = some u → f < 2 → w.cell? ⟨b, off + (i * 2 + f), none⟩ = some u := fun f u hu hf => hc _ _ (by rw [flat_get pairI 2 (fun _ => rfl) l i f m hm hf]; exact hu)
    exact ⟨b, off, c, rfl, h2, hg 0 _ rfl (by omega), hg 1 _ rfl (by omega)⟩

theorem top_are (l : List Int) (n : Nat) (v : Value) (w : World) (hl : l.length = n) (ha : Rd w 2 v n (l.flatMap pairI)) :
    Calls Try.prog 7 #[v] w fun e w' => e = .returned (.bool true) ∧ ∃ m, w' = w.drewN m := by
  have HA := Lib.hid ha
  have HL := Lib.hid hl
  obtain ⟨_, aa, ca, rfl, a1, a2, _⟩ := ha
  clear hl
  go_enter Try.func7, Try.ntmps7
  go_wp2
  go_loopw [3] (fun s3 wr => ∃ k : Nat, k ≤ n ∧ s3 = .int .i64 k ∧ ∃ m, wr = w.drewN m) (fun s3 _ => n - (intOf s3).toNat)
  case atStart => exact ⟨0, by omega, rfl, 0, rfl⟩
  case round =>
    obtain ⟨k, hk, rfl, mm, rfl⟩ := hrel
    by_cases hlt : k < n
    · obtain ⟨m, hm⟩ : ∃ m, l[k]? = some m := ⟨_, List.getElem?_eq_getElem (show k < l.length by have := HL.out; omega)⟩
      obtain ⟨ba, oa, ca', hva, hca, x0, x1⟩ := pair_cells HL.out HA.out hm
      simp only [Value.slice.injEq] at hva
      obtain ⟨rfl, -, rfl⟩ := hva
      clear hm
      go_wp2
      go_quiet (fail)
      go_wp2
      go_roundw
      case rel => exact ⟨k + 1, by omega, by go_num, _, rfl⟩
      case measure => simp [intOf]; omega
    · go_wp2
      go_ret
      exact ⟨rfl, _, rfl⟩

theorem Rd.blk {w : World} {t : TypeId} {cs : List Value} {sz n : Nat} (hs : cs.length = n * sz) (hn : n ≤ 9223372036854775807) : Rd (w.alloc (.cells cs.toArray t)) sz (.slice (some ⟨w.heap.size, 0, none⟩) n n) n cs :=
  ⟨hs, _, _, rfl, Nat.le_refl _, hn, fun _ => ⟨_, _, rfl, fun j u hu => by rw [Nat.zero_add, cell_of_row _ _ j cs.toArray t (0, 0) (heap_alloc_new w _)]; simpa using hu⟩⟩

set_option maxHeartbeats 4000000 in
theorem top_first (w : World) : Calls Try.prog 4 #[] w fun e w' => e = .returned (.bool true) ∧ Kept w w' := by
  have A := top_are [0, 1, 2, 10, 11, 12, 13, 14, 20, 21, 22, 23, 24, 25, 26, 40, 41, 42, 60, 65536, 64, 255, 16, 64, 1024] 25 _ _ rfl (Rd.blk (w := w) (t := 24) rfl (by omega))
  simp only [List.flatMap_cons, List.flatMap_nil, pairI, List.cons_append, List.nil_append] at A
  go_enter Try.func4, Try.ntmps4
  go_wp2_with fail
  refine A.mono ?_
  rintro e w1 ⟨rfl, m, hm⟩
  have K := Lib.hid (show Kept w w1 by rw [hm]; exact kept_drewN ((Below.refl _ _).alloc (Nat.le_refl _) _) m)
  clear hm A
  go_wp2
  go_ret
  exact ⟨rfl, K.out⟩

set_option maxHeartbeats 4000000 in
theorem top_second (w : World) : Calls Try.prog 5 #[] w fun e w' => e = .returned (.bool true) ∧ Kept w w' := by
  have A := top_are [4096, 64, 16, 40, 1000, 256, 262144, 8000, 1, 3, 7, 9, 10, 11, 12, 1, 2, 4, 8, 16, 32, 256, 512, 1024, 0] 25 _ _ rfl (Rd.blk (w := w) (t := 24) rfl (by omega))
  simp only [List.flatMap_cons, List.flatMap_nil, pairI, List.cons_append, List.nil_append] at A
  go_enter Try.func5, Try.ntmps5
  go_wp2_with fail
  refine A.mono ?_
  rintro e w1 ⟨rfl, m, hm⟩
  have K := Lib.hid (show Kept w w1 by rw [hm]; exact kept_drewN ((Below.refl _ _).alloc (Nat.le_refl _) _) m)
  clear hm A
  go_wp2
  go_ret
  exact ⟨rfl, K.out⟩

set_option maxHeartbeats 4000000 in
theorem top_third (w : World) : Calls Try.prog 6 #[] w fun e w' => e = .returned (.bool true) ∧ Kept w w' := by
  have A := top_are [1, 2, 3, 0, 1, 2, 3, 0, 1, 2, 3, 0, 1, 2, 1, 2, 3, 4, 5, 1, 2, 3, 0, 1, 2] 25 _ _ rfl (Rd.blk (w := w) (t := 24) rfl (by omega))
  simp only [List.flatMap_cons, List.flatMap_nil, pairI, List.cons_append, List.nil_append] at A
  go_enter Try.func6, Try.ntmps6
  go_wp2_with fail
  refine A.mono ?_
  rintro e w1 ⟨rfl, m, hm⟩
  have K := Lib.hid (show Kept w w1 by rw [hm]; exact kept_drewN ((Below.refl _ _).alloc (Nat.le_refl _) _) m)
  clear hm A
  go_wp2
  go_ret
  exact ⟨rfl, K.out⟩

theorem walk_TopNames (w : World) : Calls Try.prog 3 #[] w fun e w' => e = .returned (.bool true) ∧ Below w.heap.size w w' := by
  go_enter Try.func3, Try.ntmps3
  go_wp2_with fail
  refine (top_first _).mono ?_
  rintro e w1 ⟨rfl, k1⟩
  go_wp2_with fail
  refine (top_second _).mono ?_
  rintro e w2 ⟨rfl, k2⟩
  go_wp2_with fail
  refine (top_third _).mono ?_
  rintro e w3 ⟨rfl, k3⟩
  go_wp2_with fail
  go_ret
  exact ⟨rfl, Kept.trans k1 (Kept.trans k2 k3)⟩
end Go.Proofs.Ytpaldfhlmafioaa
