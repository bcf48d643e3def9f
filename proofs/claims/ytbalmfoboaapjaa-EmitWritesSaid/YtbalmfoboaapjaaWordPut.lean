/-
  word.Put and the document's own Put, by contract: new bytes, and what was there is as it was.
-/
import Derived.Test.YtbalmfoboaapjaaWordGet
namespace Go.Proofs.Ytbalmfoboaapjaa
set_option linter.unusedVariables false
set_option linter.unusedSimpArgs false
open Go.RowKit

/-- The i-th byte of a number, the lowest first. -/
def byteOf (v : Int) (i : Nat) : UInt8 := UInt8.ofNat (v / 256 ^ i % 256).toNat
theorem byteOf_val (v : Int) (i : Nat) : ((byteOf v i).toNat : Int) = v / 256 ^ i % 256 := by
  unfold byteOf
  have : 0 ≤ v / 256 ^ i % 256 ∧ v / 256 ^ i % 256 < 256 := ⟨Int.emod_nonneg _ (by omega), Int.emod_lt_of_pos _ (by omega)⟩
  rw [UInt8.toNat_ofNat']
  omega
def putL (v n : Int) : List UInt8 := if n = 1 then [byteOf v 0] else if n = 2 then [byteOf v 1, byteOf v 0] else if n = 4 then [byteOf v 3, byteOf v 2, byteOf v 1, byteOf v 0] else []

theorem elem_u8 : ElemTy Try.prog 31 5 (.int .u8 0) 1 1 := ⟨Try.underlying31, by kernel_rfl, rfl, by decide⟩

theorem byte_one {v : Int} {i : Nat} {x : Int} (h : x = v / 256 ^ i % 256) : Value.int .u8 x = byteV (byteOf v i) := by rw [h, ← byteOf_val]; rfl
theorem by0 (v : Int) : Value.int .u8 (IntKind.u64.wrap v % 256) = byteV (byteOf v 0) := byte_one (by rw [IntKind.wrap_u64]; simp only [Int.pow_zero]; omega)
theorem by1 (v : Int) : Value.int .u8 (IntKind.u64.wrap v / 256 % 256) = byteV (byteOf v 1) := byte_one (by rw [IntKind.wrap_u64]; simp only [Int.reducePow]; omega)
theorem by2 (v : Int) : Value.int .u8 (IntKind.u64.wrap v / 65536 % 256) = byteV (byteOf v 2) := byte_one (by rw [IntKind.wrap_u64]; simp only [Int.reducePow]; omega)
theorem by3 (v : Int) : Value.int .u8 (IntKind.u64.wrap v / 16777216 % 256) = byteV (byteOf v 3) := byte_one (by rw [IntKind.wrap_u64]; simp only [Int.reducePow]; omega)
theorem bz0 (v : Int) : Value.int .u8 (v % 256) = byteV (byteOf v 0) := byte_one (by simp)
theorem bz1 (v : Int) : Value.int .u8 (v / 256 % 256) = byteV (byteOf v 1) := byte_one (by simp)
theorem bz2 (v : Int) : Value.int .u8 (v / 65536 % 256) = byteV (byteOf v 2) := byte_one (by simp)
theorem bz3 (v : Int) : Value.int .u8 (v / 16777216 % 256) = byteV (byteOf v 3) := byte_one (by simp)
theorem byte_oneCell (x : Int) : ∀ u ∈ [Value.int .u8 x], u.oneCell' = true := by intro u hu; simp at hu; subst hu; rfl

set_option maxHeartbeats 1000000 in
theorem ref1_Put (v n : Int) (w : World) :
    Calls Try.prog 24 #[.int .i64 v, .int .i64 n] w fun e w' => ∃ x, e = .returned x ∧ Rd w' 1 x (putL v n).length ((putL v n).map byteV) ∧ Kept w w' := by
  rcases (by omega : n = 1 ∨ n = 2 ∨ n = 4 ∨ (¬ n = 1 ∧ ¬ n = 2 ∧ ¬ n = 4)) with rfl | rfl | rfl | ⟨n1, n2, n4⟩
  · go_enter Try.func24, Try.ntmps24
    go_wp2
    go_loopw [5, 6] (fun b k wr => ∃ j : Nat, j ≤ 1 ∧ k = .int .i64 (0 - j) ∧ wr.ownsRow w.heap.size 5 1 b j (((putL v 1).take j).map byteV) ∧ Below w.heap.size w wr) (fun _ k _ => (intOf k + 1).toNat)
    case atStart => exact ⟨0, by omega, rfl, World.ownsRow_nil _ _ _ _, Below.refl _ _⟩
    case round =>
      obtain ⟨j, hj, rfl, hown, hb⟩ := hrel
      have hsz := hb.size
      rcases (by omega : j = 0 ∨ j = 1) with rfl | rfl
      · go_wp2_with (at_builtin; refine wpl_push _ elem_u8 rfl _ _ rfl _ _ _ _ rfl hown [.int .u8 _] _ rfl rfl (byte_oneCell _) (by omega) (by omega) hsz ?_; intro v' w1 hown1 hg1 hb1)
        go_roundw
        case rel => exact ⟨1, by omega, by go_num, by simpa [putL, bz0 v] using hown1, hb.trans hb1⟩
        case measure => simp [intOf]
      · go_wp2
        go_ret
        exact ⟨_, rfl, Rd.of_own (by simpa [putL] using hown), hb⟩
  · go_enter Try.func24, Try.ntmps24
    go_wp2
    go_loopw [5, 6] (fun b k wr => ∃ j : Nat, j ≤ 2 ∧ k = .int .i64 (1 - j) ∧ wr.ownsRow w.heap.size 5 1 b j (((putL v 2).take j).map byteV) ∧ Below w.heap.size w wr) (fun _ k _ => (intOf k + 1).toNat)
    case atStart => exact ⟨0, by omega, rfl, World.ownsRow_nil _ _ _ _, Below.refl _ _⟩
    case round =>
      obtain ⟨j, hj, rfl, hown, hb⟩ := hrel
      have hsz := hb.size
      rcases (by omega : j = 0 ∨ j = 1 ∨ j = 2) with rfl | rfl | rfl
      · go_wp2_with (at_builtin; refine wpl_push _ elem_u8 rfl _ _ rfl _ _ _ _ rfl hown [.int .u8 _] _ rfl rfl (byte_oneCell _) (by omega) (by omega) hsz ?_; intro v' w1 hown1 hg1 hb1)
        go_roundw
        case rel => exact ⟨1, by omega, by go_num, by simpa [putL, bz1 v] using hown1, hb.trans hb1⟩
        case measure => simp [intOf]
      · go_wp2_with (at_builtin; refine wpl_push _ elem_u8 rfl _ _ rfl _ _ _ _ rfl hown [.int .u8 _] _ rfl rfl (byte_oneCell _) (by omega) (by omega) hsz ?_; intro v' w1 hown1 hg1 hb1)
        go_roundw
        case rel => exact ⟨2, by omega, by go_num, by simpa [putL, bz0 v] using hown1, hb.trans hb1⟩
        case measure => simp [intOf]
      · go_wp2
        go_ret
        exact ⟨_, rfl, Rd.of_own (by simpa [putL] using hown), hb⟩
  · go_enter Try.func24, Try.ntmps24
    go_wp2
    go_loopw [5, 6] (fun b k wr => ∃ j : Nat, j ≤ 4 ∧ k = .int .i64 (3 - j) ∧ wr.ownsRow w.heap.size 5 1 b j (((putL v 4).take j).map byteV) ∧ Below w.heap.size w wr) (fun _ k _ => (intOf k + 1).toNat)
    case atStart => exact ⟨0, by omega, rfl, World.ownsRow_nil _ _ _ _, Below.refl _ _⟩
    case round =>
      obtain ⟨j, hj, rfl, hown, hb⟩ := hrel
      have hsz := hb.size
      rcases (by omega : j = 0 ∨ j = 1 ∨ j = 2 ∨ j = 3 ∨ j = 4) with rfl | rfl | rfl | rfl | rfl
      · go_wp2_with (at_builtin; refine wpl_push _ elem_u8 rfl _ _ rfl _ _ _ _ rfl hown [.int .u8 _] _ rfl rfl (byte_oneCell _) (by omega) (by omega) hsz ?_; intro v' w1 hown1 hg1 hb1)
        go_roundw
        case rel => exact ⟨1, by omega, by go_num, by simpa [putL, bz3 v] using hown1, hb.trans hb1⟩
        case measure => simp [intOf]
      · go_wp2_with (at_builtin; refine wpl_push _ elem_u8 rfl _ _ rfl _ _ _ _ rfl hown [.int .u8 _] _ rfl rfl (byte_oneCell _) (by omega) (by omega) hsz ?_; intro v' w1 hown1 hg1 hb1)
        go_roundw
        case rel => exact ⟨2, by omega, by go_num, by simpa [putL, bz2 v] using hown1, hb.trans hb1⟩
        case measure => simp [intOf]
      · go_wp2_with (at_builtin; refine wpl_push _ elem_u8 rfl _ _ rfl _ _ _ _ rfl hown [.int .u8 _] _ rfl rfl (byte_oneCell _) (by omega) (by omega) hsz ?_; intro v' w1 hown1 hg1 hb1)
        go_roundw
        case rel => exact ⟨3, by omega, by go_num, by simpa [putL, bz1 v] using hown1, hb.trans hb1⟩
        case measure => simp [intOf]
      · go_wp2_with (at_builtin; refine wpl_push _ elem_u8 rfl _ _ rfl _ _ _ _ rfl hown [.int .u8 _] _ rfl rfl (byte_oneCell _) (by omega) (by omega) hsz ?_; intro v' w1 hown1 hg1 hb1)
        go_roundw
        case rel => exact ⟨4, by omega, by go_num, by simpa [putL, bz0 v] using hown1, hb.trans hb1⟩
        case measure => simp [intOf]
      · go_wp2
        go_ret
        exact ⟨_, rfl, Rd.of_own (by simpa [putL] using hown), hb⟩
  · have hp : putL v n = [] := by simp [putL, n1, n2, n4]
    have m1 : (n != 1) = true := by simpa using n1
    have m2 : (n != 2) = true := by simpa using n2
    have m4 : (n != 4) = true := by simpa using n4
    rw [hp]
    clear hp n1 n2 n4
    go_enter Try.func24, Try.ntmps24
    go_wp2
    go_ret
    exact ⟨_, rfl, Rd.nil, Below.refl _ _⟩

end Go.Proofs.Ytbalmfoboaapjaa
