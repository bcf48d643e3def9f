/-
  The document's own reader of class files by contract: field.
-/
import Derived.Test.YtlipdifhdaaknaaFr6
namespace Go.Proofs.Ytlipdifhdaaknaa
open Go.RowKit
set_option maxRecDepth 100000

theorem val_eq {L : List UInt8} {p : Int} {had : Bool} {q qb q4 q5 q6 : QS} {l v : Int} (hb : (if had = true then failQ q p 24 else q) = qb) (h4 : numQ L 4 qb = (l, q4)) (h5 : (if q4.e = 0 ∧ l ≠ 2 then failQ q4 p 26 else q4) = q5) (h6 : numQ L 2 q5 = (v, q6)) : valQ L p had q = (v, q6) := by
  unfold valQ
  rw [hb, h4]
  dsimp only
  rw [h5, h6]
theorem fieldL_out {L : List UInt8} {q : QS} (h : ¬ q.e = 0) (n : Nat) (had : Bool) (v : Int) : fieldLQ L n had v q = (v, q) := by
  cases n with
  | zero => rfl
  | succ n => unfold fieldLQ; rw [if_pos h]
theorem fieldL_val {L : List UInt8} {q qa : QS} {t : ByteArray} (h : q.e = 0) (n : Nat) (had : Bool) (v : Int) (ha : attrQ L q = (t, qa)) (h1 : qa.e = 0) (h2 : t = valueS) : fieldLQ L (n + 1) had v q = fieldLQ L n true (valQ L q.at_ had qa).1 (valQ L q.at_ had qa).2 := by
  rw [fieldLQ, if_neg (fun e => e h), ha, if_pos ⟨h1, h2⟩]
theorem fieldL_pass {L : List UInt8} {q qa : QS} {t : ByteArray} (h : q.e = 0) (n : Nat) (had : Bool) (v : Int) (ha : attrQ L q = (t, qa)) (h1 : ¬ (qa.e = 0 ∧ t = valueS)) : fieldLQ L (n + 1) had v q = fieldLQ L n had v (passQ L qa) := by
  rw [fieldLQ, if_neg (fun e => e h), ha, if_neg h1]
theorem fieldL_c (L : List UInt8) : ∀ (n : Nat) (had : Bool) (v : Int) (q : QS), (fieldLQ L n had v q).2.c = q.c
  | 0, had, v, q => rfl
  | n + 1, had, v, q => by
    unfold fieldLQ
    split
    · rfl
    · split
      · rw [fieldL_c L n]
        unfold valQ
        simp only [num_c, apply_ite QS.c, fail_c, ite_self, attr_c]
      · rw [fieldL_c L n, pass_c, attr_c]
theorem strne {s : ByteArray} {l : List UInt8} (h : ¬ s.data.toList = l) : (s.toList == l) = false := by rw [ByteArray.toList_eq]; simpa using h
def FieldQ (g : Nat) (L : List UInt8) (vb : Value) (q : QS) (mv : List (MethC × Value × Value)) (vP vI vM : Value) (w : World) (e : Ending) (w' : World) : Prop :=
  e = .returned (.tuple #[]) ∧ ∃ vF, QX g L vb q mv vP vI vF vM w' ∧ Touch (fun b => g ≤ b) w w'
set_option maxHeartbeats 8000000 in
theorem ref3_field (g : Nat) (L : List UInt8) (vb : Value) (q : QS) (mv : List (MethC × Value × Value)) (vP vI vF vM : Value) (w : World) (h : QX g L vb q mv vP vI vF vM w) (hp : q.c.fields.length ≤ 65535) :
    Calls Try.prog 21 #[.pointer (some ⟨g, 0, none⟩)] w (FieldQ g L vb (fieldQ L q) mv vP vI vM w) := by
  obtain ⟨a, qA, hA, hAc, -, -⟩ := num_eq2 L q
  obtain ⟨n, qB, hB, hBc, -, -⟩ := num_eq2 L qA
  obtain ⟨d, qC, hC, hCc, -, -⟩ := num_eq2 L qB
  obtain ⟨nn, qD, hD, hDc, hn0, hn1⟩ := num_eq2 L qC
  obtain ⟨N, rfl⟩ : ∃ N : Nat, nn = N := ⟨nn.toNat, by omega⟩
  have hN : N < 65536 := by omega
  obtain ⟨R, hR⟩ : ∃ R, R = fieldLQ L N false 0 qD := ⟨_, rfl⟩
  have hQ : fieldQ L q = { R.2 with c := { q.c with fields := q.c.fields ++ [⟨a, n, d, R.1⟩] } } := by
    unfold fieldQ
    simp only [hA, hB, hC, hD]
    rw [hR]
    rfl
  have hRc : R.2.c = q.c := by rw [hR, fieldL_c, hDc, hCc, hBc, hAc]
  rw [← hRc] at hQ
  rw [hQ]
  have HA := Lib.hid hA
  have HAc := Lib.hid hAc
  have HB := Lib.hid hB
  have HBc := Lib.hid hBc
  have HC := Lib.hid hC
  have HCc := Lib.hid hCc
  have HD := Lib.hid hD
  have HDc := Lib.hid hDc
  have HR0 := Lib.hid hR
  have HPL := Lib.hid (show R.2.c.fields.length + 1 ≤ 65536 by rw [hRc]; omega)
  have K0 := Lib.hid h
  have C1 := ref3_num g L vb vP vI vF vM q 2 w h.rx (by omega) 2 rfl
  rw [hA] at C1
  clear h hA hAc hB hBc hC hCc hD hDc hR hQ hRc hn0 hn1 hp
  go_enter Try.func21, Try.ntmps21
  go_wp2_with fail
  refine C1.mono ?_
  rintro e wa ⟨rfl, hx1⟩
  have K1 := Lib.hid (K0.out.rg hx1 HAc.out)
  have T1 := Lib.hid (hx1.2.mono (S' := fun b => g ≤ b) fun b hb => by omega)
  have C2 := ref3_num g L vb vP vI vF vM qA 2 wa K1.out.rx (by omega) 2 rfl
  rw [HB.out] at C2
  clear hx1 C1 K0
  go_wp2_with fail
  refine C2.mono ?_
  rintro e wb ⟨rfl, hx2⟩
  have K2 := Lib.hid (K1.out.rg hx2 HBc.out)
  have T2 := Lib.hid (T1.out.trans hx2.2 fun b hb => .inl (by omega))
  have C3 := ref3_num g L vb vP vI vF vM qB 2 wb K2.out.rx (by omega) 2 rfl
  rw [HC.out] at C3
  clear hx2 C2 K1 T1
  go_wp2_with fail
  refine C3.mono ?_
  rintro e w0 ⟨rfl, hx3⟩
  have K3 := Lib.hid (K2.out.rg hx3 HCc.out)
  have T3 := Lib.hid (T2.out.trans hx3.2 fun b hb => .inl (by omega))
  clear hx3 C3 K2 T2
  go_upto_region 1 with fail
  have Z4 := Lib.hid (K3.out.lay 60 #[.int .i64 a, .int .i64 n, .int .i64 d, .int .i64 0])
  have T4 := Lib.hid (T3.out.alloc (.cells #[.int .i64 a, .int .i64 n, .int .i64 d, .int .i64 0] 60))
  obtain ⟨z, hz⟩ : ∃ z, z = w0.heap.size := ⟨_, rfl⟩
  rw [← hz] at Z4 ⊢
  generalize w0.alloc (.cells #[.int .i64 a, .int .i64 n, .int .i64 d, .int .i64 0] 60) = W4 at *
  have C5 := ref3_num g L vb vP vI vF vM qC 2 W4 Z4.out.rx (by omega) 2 rfl
  rw [HD.out] at C5
  clear K3 T3 hz
  go_wp2_with fail
  refine C5.mono ?_
  rintro e w5 ⟨rfl, hx5⟩
  have Z5 := Lib.hid (Z4.out.rg hx5 HDc.out)
  have T5 := Lib.hid (T4.out.trans hx5.2 fun b hb => .inl (by omega))
  clear hx5 C5 Z4 T4
  go_wp2_with fail
  go_loopw [4, 5] (fun s4 s5 wr => ∃ (k : Nat) (had : Bool) (v : Int) (qk : QS), k ≤ N ∧ s4 = .bool had ∧ s5 = .int .i64 k ∧ QZ g L vb qk mv vP vI vF vM w0 z 60 #[.int .i64 a, .int .i64 n, .int .i64 d, .int .i64 v] wr ∧ Touch (fun b => g ≤ b) w wr ∧ R = fieldLQ L (N - k) had v qk) (fun _ s5 _ => N - (intOf s5).toNat)
  case atStart => exact ⟨0, false, 0, qD, by omega, rfl, rfl, Z5.out, T5.out, HR0.out⟩
  case round =>
    obtain ⟨k, had, v, qk, hk, rfl, rfl, hz, ht, hr⟩ := hrel
    clear Z5 T5 HR0
    have c2 := hz.rx.c2
    by_cases hgo : k < N ∧ qk.e = 0
    · obtain ⟨hlt, he⟩ := hgo
      have hltI : (k : Int) < (N : Int) := by omega
      rw [he] at c2
      have c1 := hz.rx.c1
      obtain ⟨j, hj⟩ : ∃ j, N - k = j + 1 := ⟨N - k - 1, by omega⟩
      have hjk : j = N - (k + 1) := by omega
      rw [hj, hjk] at hr
      obtain ⟨t, qa, ha, hac⟩ := attr_eq L qk
      have CA := ref3_attribute g L vb vP vI vF vM qk wr hz.rx
      rw [ha] at CA
      have Z1 := Lib.hid hz
      have T1 := Lib.hid ht
      have HAC := Lib.hid hac
      by_cases hv : qa.e = 0 ∧ t = valueS
      · obtain ⟨hv1, rfl⟩ := hv
        have HRv := Lib.hid (hr.trans (fieldL_val he _ had v ha hv1 rfl))
        have HV := Lib.hid hv1
        have hts2 : (valueS.toList == [67, 111, 110, 115, 116, 97, 110, 116, 86, 97, 108, 117, 101]) = true := strl_eq rfl
        clear hr ha hz ht hac he hv1 hj hjk
        cases had with
        | true =>
          go_wp2_with fail
          refine CA.mono ?_
          rintro e w2 ⟨rfl, hx2⟩
          have Z2 := Lib.hid (Z1.out.rg hx2 HAC.out)
          have T2 := Lib.hid (T1.out.trans hx2.2 fun b hb => .inl (by omega))
          have d2 := Z2.out.rx.c2
          rw [HV.out] at d2
          clear hx2 CA c2 c1 Z1 T1
          have HB := Lib.hid (fail_c qa (qk.at_ : Int) 24)
          have HBE := Lib.hid (rfl : failQ qa (qk.at_ : Int) 24 = failQ qa (qk.at_ : Int) 24)
          obtain ⟨qb, hqb⟩ : ∃ qb, failQ qa (qk.at_ : Int) 24 = qb := ⟨_, rfl⟩
          have CF := ref3_fail g L vb vP vI vF vM qa qk.at_ 24 w2 Z2.out.rx
          rw [hqb] at CF HB
          go_wp2_with fail
          refine CF.mono ?_
          rintro e wf ⟨rfl, hxf⟩
          have Zb := Lib.hid (Z2.out.rg hxf HB.out)
          have Tb := Lib.hid (T2.out.trans hxf.2 fun b hb => .inl (by omega))
          have HQB := Lib.hid (show (if true = true then failQ qa (qk.at_ : Int) 24 else qa) = qb from hqb)
          clear hxf CF HB HBE hqb
          obtain ⟨l4, q4, h4, h4c, h40, h41⟩ := num_eq4 L qb
          obtain ⟨q5, h5⟩ : ∃ q5, (if q4.e = 0 ∧ l4 ≠ 2 then failQ q4 (qk.at_ : Int) 26 else q4) = q5 := ⟨_, rfl⟩
          obtain ⟨v6, q6, h6, h6c, -, -⟩ := num_eq2 L q5
          have HR := Lib.hid (show R = fieldLQ L (N - (k + 1)) true v6 q6 by rw [HRv.out, val_eq HQB.out h4 h5 h6])
          have H4 := Lib.hid h4
          have H4c := Lib.hid h4c
          have H5 := Lib.hid h5
          have H6 := Lib.hid h6
          have H6c := Lib.hid h6c
          clear h4 h5 h6 h4c h6c HRv
          have C4 := ref3_num g L vb vP vI vF vM qb 4 wf Zb.out.rx (by omega) 4 rfl
          rw [H4.out] at C4
          go_wp2_with fail
          refine C4.mono ?_
          rintro e w4 ⟨rfl, hx4⟩
          have Z4 := Lib.hid (Zb.out.rg hx4 H4c.out)
          have T4 := Lib.hid (Tb.out.trans hx4.2 fun b hb => .inl (by omega))
          clear hx4 C4
          have c2 := Z4.out.rx.c2
          by_cases he4 : q4.e = 0
          · rw [he4] at c2
            by_cases hl4 : l4 = 2
            · subst hl4
              obtain rfl : q4 = q5 := by have := H5.out; rw [if_neg (fun e => e.2 rfl)] at this; exact this
              clear he4
              have C6 := ref3_num g L vb vP vI vF vM q4 2 w4 Z4.out.rx (by omega) 2 rfl
              rw [H6.out] at C6
              go_wp2_with fail
              refine C6.mono ?_
              rintro e w6 ⟨rfl, hx6⟩
              have Z6 := Lib.hid (Z4.out.rg hx6 H6c.out)
              have T6 := Lib.hid (T4.out.trans hx6.2 fun b hb => .inl (by omega))
              clear hx6 C6
              have e3 := Z6.out.zb.cell 3
              simp only [List.getElem?_toArray, List.getElem?_cons_succ, List.getElem?_cons_zero] at e3
              have f3 := Z6.out.zb.frozen 3
              have lz := Z6.out.zb.lt
              go_upto_region 5 with fail
              have Z7 : Hid (QZ g L vb q6 mv vP vI vF vM w0 z 60 #[.int .i64 a, .int .i64 n, .int .i64 d, .int .i64 v6] (w6.setCell ⟨z, 3, none⟩ (.int .i64 v6))) := Lib.hid (by simpa using Z6.out.put 3 (.int .i64 v6))
              have T7 := Lib.hid (T6.out.setCell (p := ⟨z, 3, none⟩) (.inl (by have := Z6.out.gz; have := Z6.out.hz; show g ≤ z; omega)) (.int .i64 v6))
              clear Z6 T6 e3 f3 lz
              generalize w6.setCell ⟨z, 3, none⟩ (.int .i64 v6) = W7 at *
              go_wp2_with fail
              go_roundw
              case rel => exact ⟨k + 1, true, v6, q6, by omega, rfl, by go_num, Z7.out, T7.out, HR.out⟩
              case measure => simp [intOf]; omega
            · have e26 : failQ q4 (qk.at_ : Int) 26 = q5 := by have := H5.out; rw [if_pos ⟨he4, hl4⟩] at this; exact this
              have CF2 := ref3_fail g L vb vP vI vF vM q4 qk.at_ 26 w4 Z4.out.rx
              have HC5 := Lib.hid (fail_c q4 (qk.at_ : Int) 26)
              rw [e26] at CF2 HC5
              have hl4' : (l4 != 2) = true := by simpa using hl4
              clear e26 he4
              go_wp2_with fail
              refine CF2.mono ?_
              rintro e w5 ⟨rfl, hx5⟩
              have Z5 := Lib.hid (Z4.out.rg hx5 HC5.out)
              have T5 := Lib.hid (T4.out.trans hx5.2 fun b hb => .inl (by omega))
              clear hx5 CF2 c2 hl4 hl4'
              have C6 := ref3_num g L vb vP vI vF vM q5 2 w5 Z5.out.rx (by omega) 2 rfl
              rw [H6.out] at C6
              go_wp2_with fail
              refine C6.mono ?_
              rintro e w6 ⟨rfl, hx6⟩
              have Z6 := Lib.hid (Z5.out.rg hx6 H6c.out)
              have T6 := Lib.hid (T5.out.trans hx6.2 fun b hb => .inl (by omega))
              clear hx6 C6
              have e3 := Z6.out.zb.cell 3
              simp only [List.getElem?_toArray, List.getElem?_cons_succ, List.getElem?_cons_zero] at e3
              have f3 := Z6.out.zb.frozen 3
              have lz := Z6.out.zb.lt
              go_upto_region 5 with fail
              have Z7 : Hid (QZ g L vb q6 mv vP vI vF vM w0 z 60 #[.int .i64 a, .int .i64 n, .int .i64 d, .int .i64 v6] (w6.setCell ⟨z, 3, none⟩ (.int .i64 v6))) := Lib.hid (by simpa using Z6.out.put 3 (.int .i64 v6))
              have T7 := Lib.hid (T6.out.setCell (p := ⟨z, 3, none⟩) (.inl (by have := Z6.out.gz; have := Z6.out.hz; show g ≤ z; omega)) (.int .i64 v6))
              clear Z6 T6 e3 f3 lz
              generalize w6.setCell ⟨z, 3, none⟩ (.int .i64 v6) = W7 at *
              go_wp2_with fail
              go_roundw
              case rel => exact ⟨k + 1, true, v6, q6, by omega, rfl, by go_num, Z7.out, T7.out, HR.out⟩
              case measure => simp [intOf]; omega
          · obtain rfl : q4 = q5 := by have := H5.out; rw [if_neg (fun e => he4 e.1)] at this; exact this
            have he4' := int_ne he4
            clear he4
            have C6 := ref3_num g L vb vP vI vF vM q4 2 w4 Z4.out.rx (by omega) 2 rfl
            rw [H6.out] at C6
            go_wp2_with fail
            refine C6.mono ?_
            rintro e w6 ⟨rfl, hx6⟩
            have Z6 := Lib.hid (Z4.out.rg hx6 H6c.out)
            have T6 := Lib.hid (T4.out.trans hx6.2 fun b hb => .inl (by omega))
            clear hx6 C6
            have e3 := Z6.out.zb.cell 3
            simp only [List.getElem?_toArray, List.getElem?_cons_succ, List.getElem?_cons_zero] at e3
            have f3 := Z6.out.zb.frozen 3
            have lz := Z6.out.zb.lt
            go_upto_region 5 with fail
            have Z7 : Hid (QZ g L vb q6 mv vP vI vF vM w0 z 60 #[.int .i64 a, .int .i64 n, .int .i64 d, .int .i64 v6] (w6.setCell ⟨z, 3, none⟩ (.int .i64 v6))) := Lib.hid (by simpa using Z6.out.put 3 (.int .i64 v6))
            have T7 := Lib.hid (T6.out.setCell (p := ⟨z, 3, none⟩) (.inl (by have := Z6.out.gz; have := Z6.out.hz; show g ≤ z; omega)) (.int .i64 v6))
            clear Z6 T6 e3 f3 lz
            generalize w6.setCell ⟨z, 3, none⟩ (.int .i64 v6) = W7 at *
            go_wp2_with fail
            go_roundw
            case rel => exact ⟨k + 1, true, v6, q6, by omega, rfl, by go_num, Z7.out, T7.out, HR.out⟩
            case measure => simp [intOf]; omega
        | false =>
          go_wp2_with fail
          refine CA.mono ?_
          rintro e w2 ⟨rfl, hx2⟩
          have Z2 := Lib.hid (Z1.out.rg hx2 HAC.out)
          have T2 := Lib.hid (T1.out.trans hx2.2 fun b hb => .inl (by omega))
          have d2 := Z2.out.rx.c2
          rw [HV.out] at d2
          clear hx2 CA c2 c1 Z1 T1
          obtain ⟨qb, hqb⟩ : ∃ qb, qa = qb := ⟨_, rfl⟩
          have Zb := Lib.hid (show QZ g L vb qb mv vP vI vF vM w0 z 60 #[.int .i64 a, .int .i64 n, .int .i64 d, .int .i64 v] w2 from hqb ▸ Z2.out)
          have Tb := Lib.hid T2.out
          have HQB := Lib.hid (show (if false = true then failQ qa (qk.at_ : Int) 24 else qa) = qb from hqb)
          clear hqb
          obtain ⟨l4, q4, h4, h4c, h40, h41⟩ := num_eq4 L qb
          obtain ⟨q5, h5⟩ : ∃ q5, (if q4.e = 0 ∧ l4 ≠ 2 then failQ q4 (qk.at_ : Int) 26 else q4) = q5 := ⟨_, rfl⟩
          obtain ⟨v6, q6, h6, h6c, -, -⟩ := num_eq2 L q5
          have HR := Lib.hid (show R = fieldLQ L (N - (k + 1)) true v6 q6 by rw [HRv.out, val_eq HQB.out h4 h5 h6])
          have H4 := Lib.hid h4
          have H4c := Lib.hid h4c
          have H5 := Lib.hid h5
          have H6 := Lib.hid h6
          have H6c := Lib.hid h6c
          clear h4 h5 h6 h4c h6c HRv
          have C4 := ref3_num g L vb vP vI vF vM qb 4 w2 Zb.out.rx (by omega) 4 rfl
          rw [H4.out] at C4
          go_wp2_with fail
          refine C4.mono ?_
          rintro e w4 ⟨rfl, hx4⟩
          have Z4 := Lib.hid (Zb.out.rg hx4 H4c.out)
          have T4 := Lib.hid (Tb.out.trans hx4.2 fun b hb => .inl (by omega))
          clear hx4 C4
          have c2 := Z4.out.rx.c2
          by_cases he4 : q4.e = 0
          · rw [he4] at c2
            by_cases hl4 : l4 = 2
            · subst hl4
              obtain rfl : q4 = q5 := by have := H5.out; rw [if_neg (fun e => e.2 rfl)] at this; exact this
              clear he4
              have C6 := ref3_num g L vb vP vI vF vM q4 2 w4 Z4.out.rx (by omega) 2 rfl
              rw [H6.out] at C6
              go_wp2_with fail
              refine C6.mono ?_
              rintro e w6 ⟨rfl, hx6⟩
              have Z6 := Lib.hid (Z4.out.rg hx6 H6c.out)
              have T6 := Lib.hid (T4.out.trans hx6.2 fun b hb => .inl (by omega))
              clear hx6 C6
              have e3 := Z6.out.zb.cell 3
              simp only [List.getElem?_toArray, List.getElem?_cons_succ, List.getElem?_cons_zero] at e3
              have f3 := Z6.out.zb.frozen 3
              have lz := Z6.out.zb.lt
              go_upto_region 5 with fail
              have Z7 : Hid (QZ g L vb q6 mv vP vI vF vM w0 z 60 #[.int .i64 a, .int .i64 n, .int .i64 d, .int .i64 v6] (w6.setCell ⟨z, 3, none⟩ (.int .i64 v6))) := Lib.hid (by simpa using Z6.out.put 3 (.int .i64 v6))
              have T7 := Lib.hid (T6.out.setCell (p := ⟨z, 3, none⟩) (.inl (by have := Z6.out.gz; have := Z6.out.hz; show g ≤ z; omega)) (.int .i64 v6))
              clear Z6 T6 e3 f3 lz
              generalize w6.setCell ⟨z, 3, none⟩ (.int .i64 v6) = W7 at *
              go_wp2_with fail
              go_roundw
              case rel => exact ⟨k + 1, true, v6, q6, by omega, rfl, by go_num, Z7.out, T7.out, HR.out⟩
              case measure => simp [intOf]; omega
            · have e26 : failQ q4 (qk.at_ : Int) 26 = q5 := by have := H5.out; rw [if_pos ⟨he4, hl4⟩] at this; exact this
              have CF2 := ref3_fail g L vb vP vI vF vM q4 qk.at_ 26 w4 Z4.out.rx
              have HC5 := Lib.hid (fail_c q4 (qk.at_ : Int) 26)
              rw [e26] at CF2 HC5
              have hl4' : (l4 != 2) = true := by simpa using hl4
              clear e26 he4
              go_wp2_with fail
              refine CF2.mono ?_
              rintro e w5 ⟨rfl, hx5⟩
              have Z5 := Lib.hid (Z4.out.rg hx5 HC5.out)
              have T5 := Lib.hid (T4.out.trans hx5.2 fun b hb => .inl (by omega))
              clear hx5 CF2 c2 hl4 hl4'
              have C6 := ref3_num g L vb vP vI vF vM q5 2 w5 Z5.out.rx (by omega) 2 rfl
              rw [H6.out] at C6
              go_wp2_with fail
              refine C6.mono ?_
              rintro e w6 ⟨rfl, hx6⟩
              have Z6 := Lib.hid (Z5.out.rg hx6 H6c.out)
              have T6 := Lib.hid (T5.out.trans hx6.2 fun b hb => .inl (by omega))
              clear hx6 C6
              have e3 := Z6.out.zb.cell 3
              simp only [List.getElem?_toArray, List.getElem?_cons_succ, List.getElem?_cons_zero] at e3
              have f3 := Z6.out.zb.frozen 3
              have lz := Z6.out.zb.lt
              go_upto_region 5 with fail
              have Z7 : Hid (QZ g L vb q6 mv vP vI vF vM w0 z 60 #[.int .i64 a, .int .i64 n, .int .i64 d, .int .i64 v6] (w6.setCell ⟨z, 3, none⟩ (.int .i64 v6))) := Lib.hid (by simpa using Z6.out.put 3 (.int .i64 v6))
              have T7 := Lib.hid (T6.out.setCell (p := ⟨z, 3, none⟩) (.inl (by have := Z6.out.gz; have := Z6.out.hz; show g ≤ z; omega)) (.int .i64 v6))
              clear Z6 T6 e3 f3 lz
              generalize w6.setCell ⟨z, 3, none⟩ (.int .i64 v6) = W7 at *
              go_wp2_with fail
              go_roundw
              case rel => exact ⟨k + 1, true, v6, q6, by omega, rfl, by go_num, Z7.out, T7.out, HR.out⟩
              case measure => simp [intOf]; omega
          · obtain rfl : q4 = q5 := by have := H5.out; rw [if_neg (fun e => he4 e.1)] at this; exact this
            have he4' := int_ne he4
            clear he4
            have C6 := ref3_num g L vb vP vI vF vM q4 2 w4 Z4.out.rx (by omega) 2 rfl
            rw [H6.out] at C6
            go_wp2_with fail
            refine C6.mono ?_
            rintro e w6 ⟨rfl, hx6⟩
            have Z6 := Lib.hid (Z4.out.rg hx6 H6c.out)
            have T6 := Lib.hid (T4.out.trans hx6.2 fun b hb => .inl (by omega))
            clear hx6 C6
            have e3 := Z6.out.zb.cell 3
            simp only [List.getElem?_toArray, List.getElem?_cons_succ, List.getElem?_cons_zero] at e3
            have f3 := Z6.out.zb.frozen 3
            have lz := Z6.out.zb.lt
            go_upto_region 5 with fail
            have Z7 : Hid (QZ g L vb q6 mv vP vI vF vM w0 z 60 #[.int .i64 a, .int .i64 n, .int .i64 d, .int .i64 v6] (w6.setCell ⟨z, 3, none⟩ (.int .i64 v6))) := Lib.hid (by simpa using Z6.out.put 3 (.int .i64 v6))
            have T7 := Lib.hid (T6.out.setCell (p := ⟨z, 3, none⟩) (.inl (by have := Z6.out.gz; have := Z6.out.hz; show g ≤ z; omega)) (.int .i64 v6))
            clear Z6 T6 e3 f3 lz
            generalize w6.setCell ⟨z, 3, none⟩ (.int .i64 v6) = W7 at *
            go_wp2_with fail
            go_roundw
            case rel => exact ⟨k + 1, true, v6, q6, by omega, rfl, by go_num, Z7.out, T7.out, HR.out⟩
            case measure => simp [intOf]; omega
      · have HRv := Lib.hid (hr.trans (fieldL_pass he _ had v ha hv))
        clear hr ha hz ht hac he hj hjk
        by_cases hv1 : qa.e = 0
        · have hts2 : (t.toList == [67, 111, 110, 115, 116, 97, 110, 116, 86, 97, 108, 117, 101]) = false := strne fun e => hv ⟨hv1, by obtain ⟨⟨l⟩⟩ := t; dsimp only at e; subst e; rfl⟩
          have HV := Lib.hid hv1
          clear hv hv1
          go_wp2_with fail
          refine CA.mono ?_
          rintro e w2 ⟨rfl, hx2⟩
          have Z2 := Lib.hid (Z1.out.rg hx2 HAC.out)
          have T2 := Lib.hid (T1.out.trans hx2.2 fun b hb => .inl (by omega))
          have d2 := Z2.out.rx.c2
          rw [HV.out] at d2
          clear hx2 CA c2 c1 Z1 T1
          obtain ⟨n4, q4, h4, h4c, h40, h41⟩ := num_eq4 L qa
          obtain ⟨l5, q5, h5, h5c⟩ := bytes_eq L n4 q4
          have HR := Lib.hid (show R = fieldLQ L (N - (k + 1)) had v q5 by rw [HRv.out]; unfold passQ; rw [h4]; dsimp only; rw [h5])
          have H4 := Lib.hid h4
          have H4c := Lib.hid h4c
          have H5 := Lib.hid h5
          have H5c := Lib.hid h5c
          have h42 : n4 ≤ 4294967295 := by omega
          clear h4 h5 h4c h5c h41 HRv
          have C4 := ref3_num g L vb vP vI vF vM qa 4 w2 Z2.out.rx (by omega) 4 rfl
          rw [H4.out] at C4
          go_wp2_with fail
          refine C4.mono ?_
          rintro e w3 ⟨rfl, hx3⟩
          have Z3 := Lib.hid (Z2.out.rg hx3 H4c.out)
          have T3 := Lib.hid (T2.out.trans hx3.2 fun b hb => .inl (by omega))
          have C5 := ref3_bytes g L vb vP vI vF vM q4 n4 w3 Z3.out.rx ⟨h40, h42⟩
          rw [H5.out] at C5
          clear hx3 C4
          go_wp2_with fail
          refine C5.mono ?_
          intro e w4 hx4
          obtain ⟨⟨a5, c5, rfl⟩, hy4⟩ := hx4.rg
          have Z4 : Hid (QZ g L vb q5 mv vP vI vF vM w0 z 60 #[.int .i64 a, .int .i64 n, .int .i64 d, .int .i64 v] w4) := Lib.hid (Z3.out.rg hy4 H5c.out)
          have T4 := Lib.hid (T3.out.trans hy4.2 fun b hb => .inl (by omega))
          clear hx4 hy4 C5
          dsimp only
          go_wp2_with fail
          go_roundw
          case rel => exact ⟨k + 1, had, v, q5, by omega, rfl, by go_num, Z4.out, T4.out, HR.out⟩
          case measure => simp [intOf]; omega
        · have hv1' := int_ne hv1
          clear hv hv1
          go_wp2_with fail
          refine CA.mono ?_
          rintro e w2 ⟨rfl, hx2⟩
          have Z2 := Lib.hid (Z1.out.rg hx2 HAC.out)
          have T2 := Lib.hid (T1.out.trans hx2.2 fun b hb => .inl (by omega))
          have d2 := Z2.out.rx.c2
          clear hx2 CA c2 c1 Z1 T1
          obtain ⟨n4, q4, h4, h4c, h40, h41⟩ := num_eq4 L qa
          obtain ⟨l5, q5, h5, h5c⟩ := bytes_eq L n4 q4
          have HR := Lib.hid (show R = fieldLQ L (N - (k + 1)) had v q5 by rw [HRv.out]; unfold passQ; rw [h4]; dsimp only; rw [h5])
          have H4 := Lib.hid h4
          have H4c := Lib.hid h4c
          have H5 := Lib.hid h5
          have H5c := Lib.hid h5c
          have h42 : n4 ≤ 4294967295 := by omega
          clear h4 h5 h4c h5c h41 HRv
          have C4 := ref3_num g L vb vP vI vF vM qa 4 w2 Z2.out.rx (by omega) 4 rfl
          rw [H4.out] at C4
          go_wp2_with fail
          refine C4.mono ?_
          rintro e w3 ⟨rfl, hx3⟩
          have Z3 := Lib.hid (Z2.out.rg hx3 H4c.out)
          have T3 := Lib.hid (T2.out.trans hx3.2 fun b hb => .inl (by omega))
          have C5 := ref3_bytes g L vb vP vI vF vM q4 n4 w3 Z3.out.rx ⟨h40, h42⟩
          rw [H5.out] at C5
          clear hx3 C4
          go_wp2_with fail
          refine C5.mono ?_
          intro e w4 hx4
          obtain ⟨⟨a5, c5, rfl⟩, hy4⟩ := hx4.rg
          have Z4 : Hid (QZ g L vb q5 mv vP vI vF vM w0 z 60 #[.int .i64 a, .int .i64 n, .int .i64 d, .int .i64 v] w4) := Lib.hid (Z3.out.rg hy4 H5c.out)
          have T4 := Lib.hid (T3.out.trans hy4.2 fun b hb => .inl (by omega))
          clear hx4 hy4 C5
          dsimp only
          go_wp2_with fail
          go_roundw
          case rel => exact ⟨k + 1, had, v, q5, by omega, rfl, by go_num, Z4.out, T4.out, HR.out⟩
          case measure => simp [intOf]; omega
    · have HE : Hid (R = (v, qk)) := Lib.hid (by
        by_cases hlt : k < N
        · rw [hr, fieldL_out (fun e => hgo ⟨hlt, e⟩)]
        · rw [hr, show N - k = 0 by omega]; rfl)
      have HEX : (k < N ∧ ¬ qk.e = 0) ∨ ¬ k < N := by
        by_cases hlt : k < N
        · exact .inl ⟨hlt, fun e => hgo ⟨hlt, e⟩⟩
        · exact .inr hlt
      have HPL' := Lib.hid (show qk.c.fields.length + 1 ≤ 65536 by have := HPL.out; rw [HE.out] at this; exact this)
      have Z9 := Lib.hid hz
      have T9 := Lib.hid ht
      have HPP := Lib.hid (show ({ qk.c with fields := qk.c.fields ++ [⟨a, n, d, v⟩] } : ClassC).pool.length ≤ 65536 from hz.rx.plen)
      obtain ⟨W9, hW9⟩ : ∃ W9, W9 = wr := ⟨_, rfl⟩
      rw [← hW9] at Z9 T9 c2 ⊢
      clear hr hz ht hgo HPL hW9
      have HPL := Lib.hid HPL'.out
      clear HPL'
      rcases HEX with ⟨hlt, he⟩ | hlt
      · have hltI : (k : Int) < (N : Int) := by omega
        have he' := int_ne he
        clear he
        go_upto_region 17 with fail
        have K9 := Lib.hid Z9.out.qx
        have c8 := K9.out.rx.cell 13 _ rfl
        have f8 := K9.out.rx.blk.frozen 13
        have lg := K9.out.rx.blk.lt
        have d0 := Z9.out.zb.cell 0
        have d1 := Z9.out.zb.cell 1
        have d2 := Z9.out.zb.cell 2
        have d3 := Z9.out.zb.cell 3
        simp only [encF, List.getElem?_toArray, List.getElem?_cons_succ, List.getElem?_cons_zero] at d0 d1 d2 d3
        have lz := Z9.out.zb.lt
        obtain ⟨aF, cF, rfl, -, -⟩ := own_slice K9.out.rows.f
        go_region_law (first
          | (refine step_pushD _ elem_field rfl (.tmp 75) (.tmp 77) rfl (g + 1) _ qk.c.fields.length _ rfl K9.out.drew.rows.f (encF ⟨a, n, d, v⟩) _ _ rfl rfl rfl (by intro u hu; simp [encF] at hu; rcases hu with rfl | rfl | rfl | rfl <;> rfl) (by have := HPL.out; omega) (by have := HPL.out; omega) (by omega) ?_
             intro v5 w9 ho5 hg5 hk5
             obtain ⟨a5, e5, rfl, -, -⟩ := own_slice (n := qk.c.fields.length + 1) ho5
             obtain ⟨y8, i8, l8⟩ := QX.grow K9.out.drew K9.out.drew.rows.f hg5 13 _ rfl
             have HQ := Lib.hid (QX.push (v := .slice a5 (qk.c.fields.length + 1) e5) (q' := { qk with c := { qk.c with fields := qk.c.fields ++ [⟨a, n, d, v⟩] } }) K9.out.drew K9.out.drew.rows.f hg5 13 (CR.pushF K9.out.drew.rows hg5 ho5) rfl rfl rfl HPP.out)
             have HTT := Lib.hid (((T9.out.trans (S' := fun b => g ≤ b) (Touch.refl _ _).drew fun b hb => .inl hb).trans (Touch.of_grown (S := fun b => g ≤ b) hg5 fun k hk => by have := (K9.out.rows.f.lt k hk).1; omega) fun b hb => .inl hb).setCell (p := ⟨g, 13, none⟩) (.inl (Nat.le_refl g)) (.slice a5 (qk.c.fields.length + 1) e5))
             clear ho5 hg5 hk5))
        all_goals
          (refine bodyPost_end (results_none rfl _ _ _) rfl ⟨rfl, .slice a5 (qk.c.fields.length + 1) e5, ?_, HTT.out⟩
           rw [HE.out]
           exact HQ.out)

      · have hltI : ¬ (k : Int) < (N : Int) := by omega
        go_upto_region 17 with fail
        have K9 := Lib.hid Z9.out.qx
        have c8 := K9.out.rx.cell 13 _ rfl
        have f8 := K9.out.rx.blk.frozen 13
        have lg := K9.out.rx.blk.lt
        have d0 := Z9.out.zb.cell 0
        have d1 := Z9.out.zb.cell 1
        have d2 := Z9.out.zb.cell 2
        have d3 := Z9.out.zb.cell 3
        simp only [encF, List.getElem?_toArray, List.getElem?_cons_succ, List.getElem?_cons_zero] at d0 d1 d2 d3
        have lz := Z9.out.zb.lt
        obtain ⟨aF, cF, rfl, -, -⟩ := own_slice K9.out.rows.f
        go_region_law (first
          | (refine step_pushD _ elem_field rfl (.tmp 75) (.tmp 77) rfl (g + 1) _ qk.c.fields.length _ rfl K9.out.drew.rows.f (encF ⟨a, n, d, v⟩) _ _ rfl rfl rfl (by intro u hu; simp [encF] at hu; rcases hu with rfl | rfl | rfl | rfl <;> rfl) (by have := HPL.out; omega) (by have := HPL.out; omega) (by omega) ?_
             intro v5 w9 ho5 hg5 hk5
             obtain ⟨a5, e5, rfl, -, -⟩ := own_slice (n := qk.c.fields.length + 1) ho5
             obtain ⟨y8, i8, l8⟩ := QX.grow K9.out.drew K9.out.drew.rows.f hg5 13 _ rfl
             have HQ := Lib.hid (QX.push (v := .slice a5 (qk.c.fields.length + 1) e5) (q' := { qk with c := { qk.c with fields := qk.c.fields ++ [⟨a, n, d, v⟩] } }) K9.out.drew K9.out.drew.rows.f hg5 13 (CR.pushF K9.out.drew.rows hg5 ho5) rfl rfl rfl HPP.out)
             have HTT := Lib.hid (((T9.out.trans (S' := fun b => g ≤ b) (Touch.refl _ _).drew fun b hb => .inl hb).trans (Touch.of_grown (S := fun b => g ≤ b) hg5 fun k hk => by have := (K9.out.rows.f.lt k hk).1; omega) fun b hb => .inl hb).setCell (p := ⟨g, 13, none⟩) (.inl (Nat.le_refl g)) (.slice a5 (qk.c.fields.length + 1) e5))
             clear ho5 hg5 hk5))
        all_goals
          (refine bodyPost_end (results_none rfl _ _ _) rfl ⟨rfl, .slice a5 (qk.c.fields.length + 1) e5, ?_, HTT.out⟩
           rw [HE.out]
           exact HQ.out)

end Go.Proofs.Ytlipdifhdaaknaa
