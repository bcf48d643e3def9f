/-
  Several texts in one: XEl1 XEl2 XEl3.
-/
import Derived.Test.YtbalmfoboaapjaaEr7
import Derived.BigQuiet
import Derived.Test.YtbalmfoboaapjaaEp6
namespace Go.Proofs.Ytbalmfoboaapjaa
set_option linter.unusedVariables false
set_option linter.unusedSimpArgs false
open Go.RowKit
set_option maxRecDepth 100000

theorem heap_new_at {w : World} (o : Obj) (k : Nat) (hk : k = w.heap.size) : (w.alloc o).heap[k]? = some o := by subst hk; exact heap_alloc_new w o
def smallK : ClassC := ⟨0, 52, [⟨1, ⟨#[65]⟩, 0, 0, 0⟩, ⟨7, ⟨#[]⟩, 0, 1, 0⟩, ⟨1, ⟨#[106, 97, 118, 97, 47, 108, 97, 110, 103, 47, 79, 98, 106, 101, 99, 116]⟩, 0, 0, 0⟩, ⟨7, ⟨#[]⟩, 0, 3, 0⟩], 33, 2, 4, [], [], []⟩
set_option maxHeartbeats 2000000 in
theorem law4_small (w : World) : Calls Try.prog 16 #[] w fun e w' => ∃ vP, e = .returned (.agg (classV smallK vP (.slice none 0 0) (.slice none 0 0) (.slice none 0 0)).toArray) ∧ w'.ownsRow w.heap.size 41 5 vP 4 (smallK.pool.flatMap encC) ∧ Kept w w' := by
  go_enter Try.func16, Try.ntmps16
  go_wp2_with fail
  have hB : Blk ((w.alloc (.cells #[.int .i64 0, .int .i64 52, .slice (some ⟨w.heap.size + 1, 0, none⟩) 4 4, .int .i64 33, .int .i64 2, .int .i64 4, .slice none 0 0, .slice none 0 0, .slice none 0 0] 27)).alloc (.cells #[.int .i64 1, .string ⟨#[65]⟩, .int .i64 0, .int .i64 0, .int .i64 0, .int .i64 7, .string ⟨#[]⟩, .int .i64 0, .int .i64 1, .int .i64 0, .int .i64 1, .string ⟨#[106, 97, 118, 97, 47, 108, 97, 110, 103, 47, 79, 98, 106, 101, 99, 116]⟩, .int .i64 0, .int .i64 0, .int .i64 0, .int .i64 7, .string ⟨#[]⟩, .int .i64 0, .int .i64 3, .int .i64 0] 41)) w.heap.size 27 #[.int .i64 0, .int .i64 52, .slice (some ⟨w.heap.size + 1, 0, none⟩) 4 4, .int .i64 33, .int .i64 2, .int .i64 4, .slice none 0 0, .slice none 0 0, .slice none 0 0] := (Blk.new _ _ _).alloc _
  have HLV := run_loadVar_row (P := Try.prog) _ w.heap.size 27 27 _ (0, 0) _ hB Try.underlying27 rfl (by kernel_rfl)
  refine bodyPost_ret (v := .agg #[.int .i64 0, .int .i64 52, .slice (some ⟨w.heap.size + 1, 0, none⟩) 4 4, .int .i64 33, .int .i64 2, .int .i64 4, .slice none 0 0, .slice none 0 0, .slice none 0 0]) ?_ rfl ?_
  · simp [results, Try.results16, asAddr, HLV]
  · refine ⟨.slice (some ⟨w.heap.size + 1, 0, none⟩) 4 4, rfl, ⟨rfl, .inr ⟨w.heap.size + 1, 4, (smallK.pool.flatMap encC).toArray, rfl, by omega, ?_, Nat.le_refl _, by decide, rfl, rfl⟩⟩, ((Below.refl _ _).alloc (Nat.le_refl _) _).alloc (by simp) _⟩
    exact heap_new_at _ _ (by simp)
theorem law4_num (n : Int) (w : World) : Calls Try.prog 14 #[.int .i64 n] w fun e w' => e = .returned (.int .i64 n) ∧ w = w' := by
  go_enter Try.func14, Try.ntmps14
  go_wp2
  go_ret
  exact ⟨rfl, rfl⟩
theorem smallK_len : (classB smallK).length = 53 := by
  simp [classB, smallK, constB, twoB, beB, ByteArray.size]
theorem smallK_at0 : (classB smallK)[0]? = some (byteOf 3405691582 3) := by
  simp [classB, beB]
theorem smallK_at52 : (classB smallK)[52]? = some (byteOf 0 0) := by
  simp [classB, smallK, constB, twoB, beB, ByteArray.size]
theorem smallK_ok : writeC smallK = (classB smallK, 0) := by
  have h : refusedC smallK = 0 := by decide
  exact write_all h (by rw [smallK_len]; decide)
theorem smallK_rd {w : World} {base : Nat} {vP : Value} (h : w.ownsRow base 41 5 vP 4 (smallK.pool.flatMap encC)) : CRd w smallK [] vP (.slice none 0 0) (.slice none 0 0) (.slice none 0 0) :=
  ⟨Rd.of_own h, Rd.nil, Rd.nil, Rd.nil, fun x hx => by simp at hx, rfl⟩
end Go.Proofs.Ytbalmfoboaapjaa

namespace Go.Proofs.Ytbalmfoboaapjaa
set_option linter.unusedVariables false
set_option linter.unusedSimpArgs false
open Go.RowKit
set_option maxRecDepth 100000

/-- What Big tells, as far as it is used. -/
def BigG (c : ClassC) (w : World) (e : Ending) (w' : World) : Prop := ∃ b, e = .returned (.bool b) ∧ (b = false → c.pool.length ≤ 3000 ∧ c.ifaces.length ≤ 3000 ∧ c.fields.length ≤ 3000 ∧ c.methods.length ≤ 200) ∧ Kept w w'
set_option maxHeartbeats 8000000 in
theorem law4_Big (c : ClassC) (mv : List (MethC × Value × Value)) (vP vI vF vM : Value) (w : World) (h : CRd w c mv vP vI vF vM) (hl : c.pool.length ≤ 140737488351232 ∧ c.ifaces.length ≤ 140737488351232 ∧ c.fields.length ≤ 140737488351232) :
    Calls Try.prog 9 #[.agg (classV c vP vI vF vM).toArray] w (BigG c w) := by
  have HLL := Lib.hid hl
  clear hl
  obtain ⟨aP, kP, aI, kI, aF, kF, aM, kM, rfl, rfl, rfl, rfl⟩ := h.forms
  obtain ⟨nP, hnP⟩ : ∃ n, n = c.pool.length := ⟨_, rfl⟩
  obtain ⟨nI, hnI⟩ : ∃ n, n = c.ifaces.length := ⟨_, rfl⟩
  obtain ⟨nF, hnF⟩ : ∃ n, n = c.fields.length := ⟨_, rfl⟩
  obtain ⟨nM, hnM⟩ : ∃ n, n = mv.length := ⟨_, rfl⟩
  change Calls Try.prog 9 #[.agg #[.int .i64 c.minor, .int .i64 c.major, .slice aP c.pool.length kP, .int .i64 c.access, .int .i64 c.this, .int .i64 c.super, .slice aI c.ifaces.length kI, .slice aF c.fields.length kF, .slice aM mv.length kM]] w _
  have HMS := Lib.hid h.ms
  rw [← hnP, ← hnI, ← hnF, ← hnM] at h ⊢
  have r1 := h.p
  have r2 := h.i
  have r3 := h.f
  have r4 := h.m
  rw [← hnP] at r1
  rw [← hnI] at r2
  rw [← hnF] at r3
  rw [← hnM] at r4
  have m1 : nP ≤ 9223372036854775807 := by obtain ⟨_, _, _, e, q1, q2, _⟩ := r1; cases e; omega
  have m2 : nI ≤ 9223372036854775807 := by obtain ⟨_, _, _, e, q1, q2, _⟩ := r2; cases e; omega
  have m3 : nF ≤ 9223372036854775807 := by obtain ⟨_, _, _, e, q1, q2, _⟩ := r3; cases e; omega
  have m4 : nM ≤ 9223372036854775807 := by obtain ⟨_, _, _, e, q1, q2, _⟩ := r4; cases e; omega
  have N1 := Lib.hid hnP
  have N2 := Lib.hid hnI
  have N3 := Lib.hid hnF
  have N4 := Lib.hid hnM
  clear hnP hnI hnF hnM
  have hk : Kept w (w.alloc (.cells #[.int .i64 c.minor, .int .i64 c.major, .slice aP nP kP, .int .i64 c.access, .int .i64 c.this, .int .i64 c.super, .slice aI nI kI, .slice aF nF kF, .slice aM nM kM] 27)) := (Below.refl _ _).alloc (Nat.le_refl _) _
  have HK := Lib.hid hk
  have HPP := Lib.hid (r1.kept hk)
  have HII := Lib.hid (r2.kept hk)
  have HFF := Lib.hid (r3.kept hk)
  have HMM := Lib.hid (r4.kept hk)
  have HRR := Lib.hid (fun x hx => (h.r x hx).kept hk)
  clear r1 r2 r3 r4
  have HB := Lib.hid (Blk.new w 27 #[.int .i64 c.minor, .int .i64 c.major, .slice aP nP kP, .int .i64 c.access, .int .i64 c.this, .int .i64 c.super, .slice aI nI kI, .slice aF nF kF, .slice aM nM kM])
  have HH := Lib.hid (show w.heap.size < (w.alloc (.cells #[.int .i64 c.minor, .int .i64 c.major, .slice aP nP kP, .int .i64 c.access, .int .i64 c.this, .int .i64 c.super, .slice aI nI kI, .slice aF nF kF, .slice aM nM kM] 27)).heap.size by simp)
  clear hk h
  have t1 : nP ≤ 140737488351232 := by have := HLL.out; have := N1.out; omega
  have t2 : nI ≤ 140737488351232 := by have := HLL.out; have := N2.out; omega
  have t3 : nF ≤ 140737488351232 := by have := HLL.out; have := N3.out; omega
  go_enter Try.func9, Try.ntmps9
  go_upto_region 1 with fail
  generalize (w.alloc (.cells #[.int .i64 c.minor, .int .i64 c.major, .slice aP nP kP, .int .i64 c.access, .int .i64 c.this, .int .i64 c.super, .slice aI nI kI, .slice aF nF kF, .slice aM nM kM] 27)) = W at *
  have c0 := HB.out.cell 0
  have c1 := HB.out.cell 1
  have c2 := HB.out.cell 2
  have c3 := HB.out.cell 3
  have c4 := HB.out.cell 4
  have c5 := HB.out.cell 5
  have c6 := HB.out.cell 6
  have c7 := HB.out.cell 7
  have c8 := HB.out.cell 8
  simp only [List.getElem?_toArray, List.getElem?_cons_succ, List.getElem?_cons_zero] at c0 c1 c2 c3 c4 c5 c6 c7 c8
  by_cases h1 : 3000 < nP + nI + nF
  · have h1I : (3000 : Int) < (nP : Int) + (nI : Int) + (nF : Int) := by omega
    go_wp2_with fail
    go_ret
    exact ⟨true, rfl, fun e => (by cases e), HK.out⟩
  have h1I : ¬ (3000 : Int) < (nP : Int) + (nI : Int) + (nF : Int) := by omega
  by_cases h2 : 200 < nM
  · have h2I : (200 : Int) < (nM : Int) := by omega
    go_wp2_with fail
    go_ret
    exact ⟨true, rfl, fun e => (by cases e), HK.out⟩
  have h2I : ¬ (200 : Int) < (nM : Int) := by omega
  have HFIN := Lib.hid (show c.pool.length ≤ 3000 ∧ c.ifaces.length ≤ 3000 ∧ c.fields.length ≤ 3000 ∧ c.methods.length ≤ 200 by
    have := N1.out; have := N2.out; have := N3.out; have := N4.out
    have h0 : c.methods.length = mv.length := by rw [HMS.out, List.length_map]
    omega)
  clear h1 h2
  go_wp2_with fail
  go_loopw [3, 4] (fun s3 s4 wr => ∃ (k : Nat) (n : Int), k ≤ nP ∧ s3 = .int .i64 n ∧ s4 = .int .i64 k ∧ W = wr) (fun _ s4 _ => nP - (intOf s4).toNat)
  case atStart => exact ⟨0, _, Nat.zero_le _, rfl, rfl, rfl⟩
  case round =>
    obtain ⟨k, n, hk, rfl, rfl, rfl⟩ := hrel
    by_cases hgo : k < nP ∧ n ≤ 80000
    · obtain ⟨hlt, hn⟩ := hgo
      obtain ⟨x, hx⟩ : ∃ x, c.pool[k]? = some x := ⟨_, List.getElem?_eq_getElem (by have := N1.out; omega)⟩
      obtain ⟨b1, o1, d1, hv1, e0, e1, e2, e3, e4⟩ := const_cells N1.out (HPP.out.kept (Below.refl _ W)) hx
      simp only [Value.slice.injEq] at hv1
      obtain ⟨rfl, -, rfl⟩ := hv1
      have hkI : (k : Int) < (nP : Int) := by omega
      have h0I : (0 : Int) ≤ (k : Int) := by omega
      have HX := Lib.hid hx
      clear hx
      go_wp2_with fail
      go_roundw
      case rel => exact ⟨k + 1, _, by omega, rfl, by go_num, trivial⟩
      case measure => simp [intOf]; omega
    · have hcase : (¬ k < nP) ∨ (k < nP ∧ ¬ n ≤ 80000) := by omega
      clear hgo
      obtain ⟨kq, hkq⟩ : ∃ x, x = k := ⟨_, rfl⟩
      subst hkq
      rcases hcase with hlt | ⟨hlt, hn⟩
      all_goals
        (go_wp2_with fail
         go_loopw [3, 5] (fun s3 s5 wr => ∃ (k : Nat) (n : Int), k ≤ nM ∧ s3 = .int .i64 n ∧ s5 = .int .i64 k ∧ (∃ q, wr = W.drewN q)) (fun _ s5 _ => nM - (intOf s5).toNat)
         case atStart => exact ⟨0, _, Nat.zero_le _, rfl, rfl, ⟨0, rfl⟩⟩
         case round =>
           obtain ⟨k, n2, hk, rfl, rfl, ⟨q, rfl⟩⟩ := hrel
           by_cases hgo : k < nM ∧ n2 ≤ 80000
           · obtain ⟨hlt2, hn2⟩ := hgo
             obtain ⟨⟨m, vc, vt⟩, hx⟩ : ∃ x, mv[k]? = some x := ⟨_, List.getElem?_eq_getElem (by have := N4.out; omega)⟩
             obtain ⟨b1, o1, d1, hv1, e0, e1, e2, e3, e4, e5, e6, e7⟩ := meth_cells N4.out (HMM.out.kept (Below.refl _ W)) hx
             have hrm : MRd W m vc vt := (HRR.out _ (List.mem_of_getElem? hx)).kept (Below.refl _ W)
             simp only [Value.slice.injEq] at hv1
             obtain ⟨rfl, -, rfl⟩ := hv1
             dsimp only at e0 e1 e2 e3 e4 e5 e6 e7
             obtain ⟨lc, hlc⟩ : ∃ lc, lc = m.code.length := ⟨_, rfl⟩
             obtain ⟨lt, hlt'⟩ : ∃ lt, lt = m.traps.length := ⟨_, rfl⟩
             have hrc := hrm.code
             have hrt := hrm.traps
             clear hrm
             rw [← hlc] at hrc
             rw [← hlt'] at hrt
             have HRc := Lib.hid hrc
             have HRt := Lib.hid hrt
             obtain ⟨_, ac, kc, rfl, -⟩ := hrc
             obtain ⟨_, at_, kt, rfl, -⟩ := hrt
             have hkJ : (k : Int) < (nM : Int) := by omega
             have h0J : (0 : Int) ≤ (k : Int) := by omega
             have HX := Lib.hid hx
             have HLC := Lib.hid hlc
             have HLT := Lib.hid hlt'
             clear hx hlc hlt' 
             go_wp2_with fail
             go_quiet (fail)
             go_wp2_with fail
             go_roundw
             case rel => exact ⟨k + 1, _, by omega, rfl, by go_num, ⟨_, rfl⟩⟩
             case measure => simp [intOf]; omega
           · have hcase : (¬ k < nM) ∨ (k < nM ∧ ¬ n2 ≤ 80000) := by omega
             clear hgo
             rcases hcase with hlt2 | ⟨hlt2, hn2⟩
             all_goals
               (go_wp2_with fail
                go_ret
                exact ⟨_, rfl, fun _ => HFIN.out, kept_drewN HK.out _⟩))
end Go.Proofs.Ytbalmfoboaapjaa

namespace Go.Proofs.Ytbalmfoboaapjaa
set_option linter.unusedVariables false
set_option linter.unusedSimpArgs false
open Go.RowKit
set_option maxRecDepth 100000

theorem smallK_text : ∀ k ∈ smallK.pool, k.text.size ≤ maxLen := by decide
set_option maxHeartbeats 2000000 in
theorem alive4 (w : World) : Calls Try.prog 8 #[] w fun e w' => e = .returned (.bool true) ∧ Kept w w' := by
  go_enter Try.func8, Try.ntmps8
  go_wp2_with fail
  refine (law4_small w).mono ?_
  rintro e w1 ⟨vP, rfl, ho, k1⟩
  have HK1 := Lib.hid k1
  have C := emit_Write smallK [] vP _ _ _ w1 (smallK_rd ho) smallK_text
  obtain ⟨aP, cP, rfl, -, -⟩ := own_slice (n := 4) ho
  clear ho k1
  unfold WriteG at C
  rw [smallK_ok] at C
  go_wp2_with fail
  refine C.mono ?_
  rintro e w2 ⟨v, rfl, hb, k2⟩
  obtain ⟨a, cc, rfl, -, -⟩ := own_slice hb
  have HK2 := Lib.hid (Kept.trans HK1.out k2)
  obtain ⟨g, c2, hv, h1, h2, _, hg, hcell, _⟩ := own_form hb (by rw [smallK_len]; decide)
  simp only [Value.slice.injEq] at hv
  obtain ⟨rfl, -, rfl⟩ := hv
  rw [smallK_len] at h1
  have x0 := hcell 0 (byteV (byteOf 3405691582 3)) (by rw [List.getElem?_map, smallK_at0]; rfl)
  have x52 := hcell 52 (byteV (byteOf 0 0)) (by rw [List.getElem?_map, smallK_at52]; rfl)
  have y0 : byteV (byteOf 3405691582 3) = .int .u8 202 := by unfold byteV; rw [byteOf_val]; rfl
  have y52 : byteV (byteOf 0 0) = .int .u8 0 := by unfold byteV; rw [byteOf_val]; rfl
  rw [y0] at x0
  rw [y52] at x52
  have hl : (classB smallK).length = 53 := smallK_len
  rw [hl] at *
  clear hb k2 hcell C y0 y52 hl
  go_wp2_with (go_at_call 14; refine (law4_num _ _).mono ?_; rintro e w' ⟨rfl, rfl⟩)
  go_ret
  exact ⟨rfl, HK2.out⟩
end Go.Proofs.Ytbalmfoboaapjaa
