/-
  The document's own reader of class files by contract: skip.
-/
import Derived.Test.YtlipdifhdaaknaaFr4
namespace Go.Proofs.Ytlipdifhdaaknaa
open Go.RowKit
set_option maxRecDepth 100000

theorem attr_c (L : List UInt8) (q : QS) : (attrQ L q).2.c = q.c := by
  unfold attrQ
  split
  · split
    · exact num_c L 2 q
    · rw [fail_c]; exact num_c L 2 q
  · exact num_c L 2 q
theorem attr_eq (L : List UInt8) (q : QS) : ∃ t q1, attrQ L q = (t, q1) ∧ q1.c = q.c := ⟨_, _, rfl, attr_c L q⟩
theorem pass_c (L : List UInt8) (q : QS) : (passQ L q).c = q.c := by unfold passQ; rw [bytes_c, num_c]
/-- What is passed over. -/
def PassQ (g : Nat) (L : List UInt8) (vb vP vI vF vM : Value) (w : World) (q : QS) (e : Ending) (w' : World) : Prop := e = .returned (.tuple #[]) ∧ RG g L vb vP vI vF vM q w w'
theorem BytesQ.rg {g : Nat} {L : List UInt8} {vb vP vI vF vM : Value} {w : World} {r : List UInt8 × QS} {e : Ending} {w' : World} (h : BytesQ g L vb vP vI vF vM w r e w') : (∃ a c, e = .returned (.slice a r.1.length c)) ∧ RG g L vb vP vI vF vM r.2 w w' := by
  obtain ⟨v, rfl, ho, hr⟩ := h
  obtain ⟨a, c, rfl, -, -⟩ := own_slice ho
  exact ⟨⟨a, c, rfl⟩, hr⟩
theorem skipL_out {L : List UInt8} {q : QS} (h : ¬ q.e = 0) (n : Nat) : skipLQ L n q = q := by
  cases n with
  | zero => rfl
  | succ n => unfold skipLQ; rw [if_pos h]
theorem skipL_in {L : List UInt8} {q : QS} (h : q.e = 0) (n : Nat) : skipLQ L (n + 1) q = skipLQ L n (passQ L (attrQ L q).2) := by
  rw [skipLQ, if_neg (fun e => e h)]
set_option maxHeartbeats 4000000 in
theorem ref3_skip (g : Nat) (L : List UInt8) (vb vP vI vF vM : Value) (q : QS) (w : World) (h : RX w g L vb vP vI vF vM q) :
    Calls Try.prog 23 #[.pointer (some ⟨g, 0, none⟩)] w (PassQ g L vb vP vI vF vM w (skipQ L q)) := by
  obtain ⟨n, q1, hv, hc, hv0, hv1⟩ := num_eq2 L q
  have C := ref3_num g L vb vP vI vF vM q 2 w h (by omega) 2 rfl
  rw [hv] at C
  obtain ⟨R, hR⟩ : ∃ R, R = skipQ L q := ⟨_, rfl⟩
  rw [← hR]
  unfold skipQ at hR
  rw [hv] at hR
  obtain ⟨N, rfl⟩ : ∃ N : Nat, n = N := ⟨n.toNat, by omega⟩
  have hN : N < 65536 := by omega
  have HR := Lib.hid (show R = skipLQ L N q1 from hR)
  clear hR hv hv0 hv1 h hc
  go_enter Try.func23, Try.ntmps23
  go_wp2_with fail
  refine C.mono ?_
  rintro e w1 ⟨rfl, hr⟩
  have HX := Lib.hid hr
  clear hr C
  go_wp2_with fail
  go_loopw [3] (fun s3 wr => ∃ (k : Nat) (qk : QS), k ≤ N ∧ s3 = .int .i64 k ∧ RG g L vb vP vI vF vM qk w wr ∧ R = skipLQ L (N - k) qk) (fun s3 _ => N - (intOf s3).toNat)
  case atStart => exact ⟨0, q1, by omega, rfl, HX.out, HR.out⟩
  case round =>
    obtain ⟨k, qk, hk, rfl, hx, hr⟩ := hrel
    clear HX HR
    have c2 := hx.1.c2
    by_cases hlt : k < N
    · have hltI : (k : Int) < (N : Int) := by omega
      by_cases he : qk.e = 0
      · rw [he] at c2
        obtain ⟨j, hj⟩ : ∃ j, N - k = j + 1 := ⟨N - k - 1, by omega⟩
        have hjk : j = N - (k + 1) := by omega
        rw [hj, skipL_in he] at hr
        obtain ⟨t, qa, ha, hac⟩ := attr_eq L qk
        have CA := ref3_attribute g L vb vP vI vF vM qk wr hx.1
        rw [ha] at CA hr
        obtain ⟨n4, q4, h4, h4c, h40, h41⟩ := num_eq4 L qa
        obtain ⟨l5, q5, h5, h5c⟩ := bytes_eq L n4 q4
        unfold passQ at hr
        dsimp only at hr
        rw [h4] at hr
        dsimp only at hr
        rw [h5, hjk] at hr
        have HX := Lib.hid hx
        have HR := Lib.hid hr
        have H4 := Lib.hid h4
        have H5 := Lib.hid h5
        have h42 : n4 ≤ 4294967295 := by omega
        clear hx hr ha he h4 h5 h41 hj hjk h4c h5c hac
        go_wp2_with fail
        refine CA.mono ?_
        rintro e w2 ⟨rfl, hx2⟩
        have HX2 := Lib.hid (HX.out.trans hx2)
        have C4 := ref3_num g L vb vP vI vF vM qa 4 w2 hx2.1 (by omega) 4 rfl
        rw [H4.out] at C4
        clear hx2 CA c2
        go_wp2_with fail
        refine C4.mono ?_
        rintro e w3 ⟨rfl, hx3⟩
        have HX3 := Lib.hid (HX2.out.trans hx3)
        have C5 := ref3_bytes g L vb vP vI vF vM q4 n4 w3 hx3.1 ⟨h40, h42⟩
        rw [H5.out] at C5
        clear hx3 C4
        go_wp2_with fail
        refine C5.mono ?_
        intro e w4 hx4
        obtain ⟨⟨a, c, rfl⟩, hy4⟩ := hx4.rg
        have HX4 : Hid (RG g L vb vP vI vF vM q5 w w4) := Lib.hid (HX3.out.trans hy4)
        clear hx4 hy4 C5
        dsimp only
        go_wp2_with fail
        go_roundw
        case rel => exact ⟨k + 1, q5, by omega, by go_num, HX4.out, HR.out⟩
        case measure => simp [intOf]; omega
      · rw [skipL_out he] at hr
        have he' := int_ne he
        have HX := Lib.hid hx
        have HR := Lib.hid hr
        clear hx hr he
        go_wp2_with fail
        refine bodyPost_end (results_none rfl _ _ _) rfl ⟨rfl, ?_⟩
        rw [HR.out]
        exact HX.out
    · have hltI : ¬ (k : Int) < (N : Int) := by omega
      rw [show N - k = 0 by omega] at hr
      have HX := Lib.hid hx
      have HR := Lib.hid (show R = qk from hr)
      clear hx hr c2
      go_wp2_with fail
      refine bodyPost_end (results_none rfl _ _ _) rfl ⟨rfl, ?_⟩
      rw [HR.out]
      exact HX.out
end Go.Proofs.Ytlipdifhdaaknaa
