/-
  The law's alive.
-/
import Derived.Test.YtbalmfoboaapjaaEl2
import Derived.Test.YtbalmfoboaapjaaEp6
namespace Go.Proofs.Ytbalmfoboaapjaa
set_option linter.unusedVariables false
set_option linter.unusedSimpArgs false
open Go.RowKit
set_option maxRecDepth 100000

theorem smallK_text : ∀ k ∈ smallK.pool, k.text.size ≤ maxLen := by decide
set_option maxHeartbeats 2000000 in
theorem alive4 (w : World) : Calls Try.prog 8 #[] w fun e w' => e = .returned (.bool true) ∧ Kept w w' := by
  go_enter Try.func8, Try.ntmps8
  go_wp2_with fail
  refine (law4_small w).mono ?_
  rintro e w1 ⟨vP, rfl, ho, k1⟩
  have HK1 := Lib.hid k1
  have C := emit_Write smallK [] vP _ _ _ w1 (smallK_rd ho) smallK_text
  obtain ⟨aP, cP, rfl, -, -⟩ := own_slice (n := 4) ho
  clear ho k1
  unfold WriteG at C
  rw [smallK_ok] at C
  go_wp2_with fail
  refine C.mono ?_
  rintro e w2 ⟨v, rfl, hb, k2⟩
  obtain ⟨a, cc, rfl, -, -⟩ := own_slice hb
  have HK2 := Lib.hid (Kept.trans HK1.out k2)
  obtain ⟨g, c2, hv, h1, h2, _, hg, hcell, _⟩ := own_form hb (by rw [smallK_len]; decide)
  simp only [Value.slice.injEq] at hv
  obtain ⟨rfl, -, rfl⟩ := hv
  rw [smallK_len] at h1
  have x0 := hcell 0 (byteV (byteOf 3405691582 3)) (by rw [List.getElem?_map, smallK_at0]; rfl)
  have x52 := hcell 52 (byteV (byteOf 0 0)) (by rw [List.getElem?_map, smallK_at52]; rfl)
  have y0 : byteV (byteOf 3405691582 3) = .int .u8 202 := by unfold byteV; rw [byteOf_val]; rfl
  have y52 : byteV (byteOf 0 0) = .int .u8 0 := by unfold byteV; rw [byteOf_val]; rfl
  rw [y0] at x0
  rw [y52] at x52
  have hl : (classB smallK).length = 53 := smallK_len
  rw [hl] at *
  clear hb k2 hcell C y0 y52 hl
  go_wp2_with (go_at_call 14; refine (law4_num _ _).mono ?_; rintro e w' ⟨rfl, rfl⟩)
  go_ret
  exact ⟨rfl, HK2.out⟩
end Go.Proofs.Ytbalmfoboaapjaa
