/-
  The document's own reader of class files by contract: method.
-/
import Derived.Test.YtlipdifhdaaknaaFr8
namespace Go.Proofs.Ytlipdifhdaaknaa
open Go.RowKit
set_option maxRecDepth 100000

theorem code_c (L : List UInt8) (m : MethC) (p : Int) (q : QS) : (codeQ L m p q).2.c = q.c := by
  unfold codeQ
  simp only [apply_ite QS.c, fail_c, ite_self, skip_c, traps_c, count_c, bytes_c, num_c]
theorem code_len (L : List UInt8) (m : MethC) (p : Int) (q : QS) : (codeQ L m p q).1.traps.length ≤ m.traps.length + 64 := by
  unfold codeQ
  simp only [List.length_append]
  have h1 : ∀ q', (countQ L 64 q').1.toNat ≤ 64 := fun q' => by have := (count_le L 64 q' (by decide)).2; omega
  exact Nat.add_le_add_left (Nat.le_trans (traps_len L _ _) (h1 _)) _
theorem methL_out {L : List UInt8} {q : QS} (h : ¬ q.e = 0) (n : Nat) (m : MethC) : methLQ L n m q = (m, q) := by
  cases n with
  | zero => rfl
  | succ n => unfold methLQ; rw [if_pos h]
theorem methL_code {L : List UInt8} {q qa : QS} {t : ByteArray} (h : q.e = 0) (n : Nat) (m : MethC) (ha : attrQ L q = (t, qa)) (h1 : qa.e = 0) (h2 : t = codeS) : methLQ L (n + 1) m q = methLQ L n (codeQ L m q.at_ (if m.has = true then failQ qa q.at_ 24 else qa)).1 (codeQ L m q.at_ (if m.has = true then failQ qa q.at_ 24 else qa)).2 := by
  rw [methLQ, if_neg (fun e => e h), ha, if_pos ⟨h1, h2⟩]
theorem methL_pass {L : List UInt8} {q qa : QS} {t : ByteArray} (h : q.e = 0) (n : Nat) (m : MethC) (ha : attrQ L q = (t, qa)) (h1 : ¬ (qa.e = 0 ∧ t = codeS)) : methLQ L (n + 1) m q = methLQ L n m (passQ L qa) := by
  rw [methLQ, if_neg (fun e => e h), ha, if_neg h1]
theorem methL_c (L : List UInt8) : ∀ (n : Nat) (m : MethC) (q : QS), (methLQ L n m q).2.c = q.c
  | 0, m, q => rfl
  | n + 1, m, q => by
    unfold methLQ
    split
    · rfl
    · split
      · dsimp only
        rw [methL_c L n, code_c]
        simp only [apply_ite QS.c, fail_c, ite_self, attr_c]
      · rw [methL_c L n, pass_c, attr_c]
theorem QX.layM {g : Nat} {L : List UInt8} {vb vP vI vF vM : Value} {q : QS} {mv : List (MethC × Value × Value)} {W : World} (h : QX g L vb q mv vP vI vF vM W) (a n d : Int) :
    QM g L vb q mv vP vI vF vM W W.heap.size ⟨a, n, d, false, 0, 0, [], []⟩ (.slice none 0 0) (.slice none 0 0) (W.alloc (.cells #[.int .i64 a, .int .i64 n, .int .i64 d, .bool false, .int .i64 0, .int .i64 0, .slice none 0 0, .slice none 0 0] 64)) :=
  ⟨h.lay _ _, World.ownsRow_nil _ _ _ _, World.ownsRow_nil _ _ _ _, fun k hk => by cases hk⟩
def MethQ (g : Nat) (L : List UInt8) (vb : Value) (q : QS) (vP vI vF : Value) (w : World) (e : Ending) (w' : World) : Prop :=
  e = .returned (.tuple #[]) ∧ ∃ mv vM, QX g L vb q mv vP vI vF vM w' ∧ Touch (fun b => g ≤ b) w w'
set_option maxHeartbeats 8000000 in
theorem ref3_method (g : Nat) (L : List UInt8) (vb : Value) (q : QS) (mv : List (MethC × Value × Value)) (vP vI vF vM : Value) (w : World) (h : QX g L vb q mv vP vI vF vM w) (hp : q.c.methods.length ≤ 65535) :
    Calls Try.prog 22 #[.pointer (some ⟨g, 0, none⟩)] w (MethQ g L vb (methQ L q) vP vI vF w) := by
  obtain ⟨a, qA, hA, hAc, -, -⟩ := num_eq2 L q
  obtain ⟨n, qB, hB, hBc, -, -⟩ := num_eq2 L qA
  obtain ⟨d, qC, hC, hCc, -, -⟩ := num_eq2 L qB
  obtain ⟨nn, qD, hD, hDc, hn0, hn1⟩ := num_eq2 L qC
  obtain ⟨N, rfl⟩ : ∃ N : Nat, nn = N := ⟨nn.toNat, by omega⟩
  have hN : N < 65536 := by omega
  obtain ⟨R, hR⟩ : ∃ R, R = methLQ L N ⟨a, n, d, false, 0, 0, [], []⟩ qD := ⟨_, rfl⟩
  have hQ : methQ L q = { R.2 with c := { q.c with methods := q.c.methods ++ [R.1] } } := by
    unfold methQ
    simp only [hA, hB, hC, hD]
    rw [hR]
    rfl
  have hRc : R.2.c = q.c := by rw [hR, methL_c, hDc, hCc, hBc, hAc]
  rw [← hRc] at hQ
  rw [hQ]
  have HA := Lib.hid hA
  have HAc := Lib.hid hAc
  have HB := Lib.hid hB
  have HBc := Lib.hid hBc
  have HC := Lib.hid hC
  have HCc := Lib.hid hCc
  have HD := Lib.hid hD
  have HDc := Lib.hid hDc
  have HR0 := Lib.hid hR
  have HPL := Lib.hid (show mv.length + 1 ≤ 65536 by have := congrArg List.length h.rows.ms; rw [List.length_map] at this; omega)
  have K0 := Lib.hid h
  have C1 := ref3_num g L vb vP vI vF vM q 2 w h.rx (by omega) 2 rfl
  rw [hA] at C1
  clear h hA hAc hB hBc hC hCc hD hDc hR hQ hRc hn0 hn1 hp
  go_enter Try.func22, Try.ntmps22
  go_wp2_with fail
  refine C1.mono ?_
  rintro e wa ⟨rfl, hx1⟩
  have K1 := Lib.hid (K0.out.rg hx1 HAc.out)
  have T1 := Lib.hid (hx1.2.mono (S' := fun b => g ≤ b) fun b hb => by omega)
  have C2 := ref3_num g L vb vP vI vF vM qA 2 wa K1.out.rx (by omega) 2 rfl
  rw [HB.out] at C2
  clear hx1 C1 K0
  go_wp2_with fail
  refine C2.mono ?_
  rintro e wb ⟨rfl, hx2⟩
  have K2 := Lib.hid (K1.out.rg hx2 HBc.out)
  have T2 := Lib.hid (T1.out.trans hx2.2 fun b hb => .inl (by omega))
  have C3 := ref3_num g L vb vP vI vF vM qB 2 wb K2.out.rx (by omega) 2 rfl
  rw [HC.out] at C3
  clear hx2 C2 K1 T1
  go_wp2_with fail
  refine C3.mono ?_
  rintro e w0 ⟨rfl, hx3⟩
  have K3 := Lib.hid (K2.out.rg hx3 HCc.out)
  have T3 := Lib.hid (T2.out.trans hx3.2 fun b hb => .inl (by omega))
  clear hx3 C3 K2 T2
  go_upto_region 1 with fail
  have Z4 := Lib.hid (K3.out.layM a n d)
  obtain ⟨z, hz⟩ : ∃ z, z = w0.heap.size := ⟨_, rfl⟩
  rw [← hz] at Z4 ⊢
  generalize w0.alloc (.cells #[.int .i64 a, .int .i64 n, .int .i64 d, .bool false, .int .i64 0, .int .i64 0, .slice none 0 0, .slice none 0 0] 64) = W4 at *
  have C5 := ref3_num g L vb vP vI vF vM qC 2 W4 Z4.out.qz.rx (by omega) 2 rfl
  rw [HD.out] at C5
  clear K3 hz
  go_wp2_with fail
  refine C5.mono ?_
  rintro e w5 ⟨rfl, hx5⟩
  have Z5 := Lib.hid (Z4.out.rg hx5 HDc.out)
  clear hx5 C5 Z4
  go_wp2_with fail
  go_loopw [4] (fun s4 wr => ∃ (k : Nat) (m : MethC) (vc vt : Value) (qk : QS), k ≤ N ∧ s4 = .int .i64 k ∧ QM g L vb qk mv vP vI vF vM w0 z m vc vt wr ∧ m.traps.length ≤ 64 * k ∧ R = methLQ L (N - k) m qk) (fun s4 _ => N - (intOf s4).toNat)
  case atStart => exact ⟨0, _, _, _, qD, by omega, rfl, Z5.out, Nat.le_refl _, HR0.out⟩
  case round =>
    obtain ⟨k, m, vc, vt, qk, hk, rfl, hz, hlen, hr⟩ := hrel
    clear Z5 HR0
    have c2 := hz.qz.rx.c2
    by_cases hgo : k < N ∧ qk.e = 0
    · obtain ⟨hlt, he⟩ := hgo
      have hltI : (k : Int) < (N : Int) := by omega
      rw [he] at c2
      have c1 := hz.qz.rx.c1
      obtain ⟨j, hj⟩ : ∃ j, N - k = j + 1 := ⟨N - k - 1, by omega⟩
      have hjk : j = N - (k + 1) := by omega
      rw [hj, hjk] at hr
      obtain ⟨t, qa, ha, hac⟩ := attr_eq L qk
      have CA := ref3_attribute g L vb vP vI vF vM qk wr hz.qz.rx
      rw [ha] at CA
      have Z1 := Lib.hid hz
      have HAC := Lib.hid hac
      by_cases hv : qa.e = 0 ∧ t = codeS
      · obtain ⟨hv1, rfl⟩ := hv
        have HRv := Lib.hid (hr.trans (methL_code he _ m ha hv1 rfl))
        have HV := Lib.hid hv1
        have hts2 : (codeS.toList == [67, 111, 100, 101]) = true := strl_eq rfl
        clear hr ha hz hac he hv1 hj hjk
        obtain ⟨hb, hhb⟩ : ∃ hb, m.has = hb := ⟨_, rfl⟩
        have HH := Lib.hid hhb
        clear hhb
        cases hb with
        | true =>
          go_wp2_with fail
          refine CA.mono ?_
          rintro e w2 ⟨rfl, hx2⟩
          have Z2 := Lib.hid (Z1.out.rg hx2 HAC.out)
          have d2 := Z2.out.qz.rx.c2
          have d3 := Z2.out.cell 3 _ rfl
          rw [HV.out] at d2
          rw [HH.out] at d3
          clear hx2 CA c2 c1 Z1
          obtain ⟨qb, hqb⟩ : ∃ qb, failQ qa (qk.at_ : Int) 24 = qb := ⟨_, rfl⟩
          have HB := Lib.hid (fail_c qa (qk.at_ : Int) 24)
          have CF := ref3_fail g L vb vP vI vF vM qa qk.at_ 24 w2 Z2.out.qz.rx
          rw [hqb] at CF HB
          have HQB := Lib.hid (show (if m.has = true then failQ qa (qk.at_ : Int) 24 else qa) = qb by rw [if_pos HH.out]; exact hqb)
          clear hqb
          go_wp2_with fail
          refine CF.mono ?_
          rintro e wf ⟨rfl, hxf⟩
          have Zb := Lib.hid (Z2.out.rg hxf HB.out)
          clear hxf CF HB Z2 d2
          obtain ⟨m', q6, h6⟩ : ∃ m' q6, codeQ L m (qk.at_ : Int) qb = (m', q6) := ⟨_, _, rfl⟩
          have HR := Lib.hid (show R = methLQ L (N - (k + 1)) m' q6 by rw [HRv.out, HQB.out, h6])
          have hlen' : m'.traps.length ≤ 64 * (k + 1) := by have := code_len L m (qk.at_ : Int) qb; rw [h6] at this; dsimp only at this; omega
          have CC := ref3_code g L vb qb mv vP vI vF vM w0 z m vc vt wf Zb.out (by omega) qk.at_
          rw [h6] at CC
          clear h6 HRv
          go_wp2_with fail
          refine CC.mono ?_
          rintro e w6 ⟨rfl, vc', vt', hz6⟩
          have Z6 := Lib.hid hz6
          clear hz6 CC
          go_wp2_with fail
          go_roundw
          case rel => exact ⟨k + 1, m', vc', vt', q6, by omega, by go_num, Z6.out, hlen', HR.out⟩
          case measure => simp [intOf]; omega
        | false =>
          go_wp2_with fail
          refine CA.mono ?_
          rintro e w2 ⟨rfl, hx2⟩
          have Z2 := Lib.hid (Z1.out.rg hx2 HAC.out)
          have d2 := Z2.out.qz.rx.c2
          have d3 := Z2.out.cell 3 _ rfl
          rw [HV.out] at d2
          rw [HH.out] at d3
          clear hx2 CA c2 c1 Z1
          have HQB := Lib.hid (show (if m.has = true then failQ qa (qk.at_ : Int) 24 else qa) = qa by rw [if_neg (by rw [HH.out]; decide)])
          obtain ⟨m', q6, h6⟩ : ∃ m' q6, codeQ L m (qk.at_ : Int) qa = (m', q6) := ⟨_, _, rfl⟩
          have HR := Lib.hid (show R = methLQ L (N - (k + 1)) m' q6 by rw [HRv.out, HQB.out, h6])
          have hlen' : m'.traps.length ≤ 64 * (k + 1) := by have := code_len L m (qk.at_ : Int) qa; rw [h6] at this; dsimp only at this; omega
          have CC := ref3_code g L vb qa mv vP vI vF vM w0 z m vc vt w2 Z2.out (by omega) qk.at_
          rw [h6] at CC
          clear h6 HRv
          go_wp2_with fail
          refine CC.mono ?_
          rintro e w6 ⟨rfl, vc', vt', hz6⟩
          have Z6 := Lib.hid hz6
          clear hz6 CC
          go_wp2_with fail
          go_roundw
          case rel => exact ⟨k + 1, m', vc', vt', q6, by omega, by go_num, Z6.out, hlen', HR.out⟩
          case measure => simp [intOf]; omega
      · have HRv := Lib.hid (hr.trans (methL_pass he _ m ha hv))
        clear hr ha hz hac he hj hjk
        by_cases hv1 : qa.e = 0
        · have hts2 : (t.toList == [67, 111, 100, 101]) = false := strne fun e => hv ⟨hv1, by obtain ⟨⟨l⟩⟩ := t; dsimp only at e; subst e; rfl⟩
          have HV := Lib.hid hv1
          clear hv hv1
          go_wp2_with fail
          refine CA.mono ?_
          rintro e w2 ⟨rfl, hx2⟩
          have Z2 := Lib.hid (Z1.out.rg hx2 HAC.out)
          have d2 := Z2.out.qz.rx.c2
          rw [HV.out] at d2
          clear hx2 CA c2 c1 Z1
          obtain ⟨n4, q4, h4, h4c, h40, h41⟩ := num_eq4 L qa
          obtain ⟨l5, q5, h5, h5c⟩ := bytes_eq L n4 q4
          have HR := Lib.hid (show R = methLQ L (N - (k + 1)) m q5 by rw [HRv.out]; unfold passQ; rw [h4]; dsimp only; rw [h5])
          have H4 := Lib.hid h4
          have H4c := Lib.hid h4c
          have H5 := Lib.hid h5
          have H5c := Lib.hid h5c
          have h42 : n4 ≤ 4294967295 := by omega
          clear h4 h5 h4c h5c h41 HRv
          have C4 := ref3_num g L vb vP vI vF vM qa 4 w2 Z2.out.qz.rx (by omega) 4 rfl
          rw [H4.out] at C4
          go_wp2_with fail
          refine C4.mono ?_
          rintro e w3 ⟨rfl, hx3⟩
          have Z3 := Lib.hid (Z2.out.rg hx3 H4c.out)
          have C5 := ref3_bytes g L vb vP vI vF vM q4 n4 w3 Z3.out.qz.rx ⟨h40, h42⟩
          rw [H5.out] at C5
          clear hx3 C4
          go_wp2_with fail
          refine C5.mono ?_
          intro e w4 hx4
          obtain ⟨⟨a5, c5, rfl⟩, hy4⟩ := hx4.rg
          have Z4 : Hid (QM g L vb q5 mv vP vI vF vM w0 z m vc vt w4) := Lib.hid (Z3.out.rg hy4 H5c.out)
          clear hx4 hy4 C5
          dsimp only
          go_wp2_with fail
          go_roundw
          case rel => exact ⟨k + 1, m, vc, vt, q5, by omega, by go_num, Z4.out, by omega, HR.out⟩
          case measure => simp [intOf]; omega
        · have hv1' := int_ne hv1
          clear hv hv1
          go_wp2_with fail
          refine CA.mono ?_
          rintro e w2 ⟨rfl, hx2⟩
          have Z2 := Lib.hid (Z1.out.rg hx2 HAC.out)
          have d2 := Z2.out.qz.rx.c2
          clear hx2 CA c2 c1 Z1
          obtain ⟨n4, q4, h4, h4c, h40, h41⟩ := num_eq4 L qa
          obtain ⟨l5, q5, h5, h5c⟩ := bytes_eq L n4 q4
          have HR := Lib.hid (show R = methLQ L (N - (k + 1)) m q5 by rw [HRv.out]; unfold passQ; rw [h4]; dsimp only; rw [h5])
          have H4 := Lib.hid h4
          have H4c := Lib.hid h4c
          have H5 := Lib.hid h5
          have H5c := Lib.hid h5c
          have h42 : n4 ≤ 4294967295 := by omega
          clear h4 h5 h4c h5c h41 HRv
          have C4 := ref3_num g L vb vP vI vF vM qa 4 w2 Z2.out.qz.rx (by omega) 4 rfl
          rw [H4.out] at C4
          go_wp2_with fail
          refine C4.mono ?_
          rintro e w3 ⟨rfl, hx3⟩
          have Z3 := Lib.hid (Z2.out.rg hx3 H4c.out)
          have C5 := ref3_bytes g L vb vP vI vF vM q4 n4 w3 Z3.out.qz.rx ⟨h40, h42⟩
          rw [H5.out] at C5
          clear hx3 C4
          go_wp2_with fail
          refine C5.mono ?_
          intro e w4 hx4
          obtain ⟨⟨a5, c5, rfl⟩, hy4⟩ := hx4.rg
          have Z4 : Hid (QM g L vb q5 mv vP vI vF vM w0 z m vc vt w4) := Lib.hid (Z3.out.rg hy4 H5c.out)
          clear hx4 hy4 C5
          dsimp only
          go_wp2_with fail
          go_roundw
          case rel => exact ⟨k + 1, m, vc, vt, q5, by omega, by go_num, Z4.out, by omega, HR.out⟩
          case measure => simp [intOf]; omega
    · have HE : Hid (R = (m, qk)) := Lib.hid (by
        by_cases hlt : k < N
        · rw [hr, methL_out (fun e => hgo ⟨hlt, e⟩)]
        · rw [hr, show N - k = 0 by omega]; rfl)
      have HEX : (k < N ∧ ¬ qk.e = 0) ∨ ¬ k < N := by
        by_cases hlt : k < N
        · exact .inl ⟨hlt, fun e => hgo ⟨hlt, e⟩⟩
        · exact .inr hlt
      have Z9 := Lib.hid hz
      have HPP := Lib.hid (show ({ qk.c with methods := qk.c.methods ++ [m] } : ClassC).pool.length ≤ 65536 from hz.qz.rx.plen)
      clear hr hz hgo hlen
      rcases HEX with ⟨hlt, he⟩ | hlt
      · have hltI : (k : Int) < (N : Int) := by omega
        have he' := int_ne he
        clear he
        go_upto_region 12 with fail
        clear c2 he'
        have hzm := Z9.out
        obtain ⟨mA, mN, mD, mH, mS, mL, mC, mT⟩ := m
        obtain ⟨a6, c6, rfl, -, -⟩ := own_slice hzm.mr.code
        obtain ⟨a7, c7, rfl, -, -⟩ := own_slice hzm.mr.traps
        have K9 := Lib.hid hzm.qz.qx
        have M9 := Lib.hid (hzm.mr.mono (base' := g + 1) (by have := hzm.qz.gz; have := hzm.qz.hz; omega))
        have c8 := K9.out.rx.cell 14 _ rfl
        have f8 := K9.out.rx.blk.frozen 14
        have lg := K9.out.rx.blk.lt
        have d0 := hzm.cell 0 _ rfl
        have d1 := hzm.cell 1 _ rfl
        have d2 := hzm.cell 2 _ rfl
        have d3 := hzm.cell 3 _ rfl
        have d4 := hzm.cell 4 _ rfl
        have d5 := hzm.cell 5 _ rfl
        have d6 := hzm.cell 6 _ rfl
        have d7 := hzm.cell 7 _ rfl
        dsimp only at d0 d1 d2 d3 d4 d5 d6 d7
        have lz := hzm.qz.zb.lt
        have TT := Lib.hid (T3.out.trans (S' := fun b => g ≤ b) (hzm.qz.tch.mono fun b hb => by have := hzm.qz.gz; omega) fun b hb => .inl hb)
        clear hzm Z9 T3
        obtain ⟨aM, cM, rfl, -, -⟩ := own_slice K9.out.rows.m
        go_region_law (first
          | (refine step_pushD _ elem_meth rfl (.tmp 60) (.tmp 62) rfl (g + 1) _ mv.length _ rfl K9.out.drew.rows.m (encM (⟨mA, mN, mD, mH, mS, mL, mC, mT⟩, .slice a6 mC.length c6, .slice a7 mT.length c7)) _ _ rfl rfl rfl (by intro u hu; simp [encM, methV] at hu; rcases hu with rfl | rfl | rfl | rfl | rfl | rfl | rfl | rfl <;> rfl) (by have := HPL.out; omega) (by have := HPL.out; omega) (by omega) ?_
             intro v5 w9 ho5 hg5 hk5
             obtain ⟨a5, e5, rfl, -, -⟩ := own_slice (n := mv.length + 1) ho5
             obtain ⟨y8, i8, l8⟩ := QX.grow K9.out.drew K9.out.drew.rows.m hg5 14 _ rfl
             have HM := M9.out.touch (S := fun _ => False) (Touch.refl _ wr).drew fun _ e => e.elim
             have HQ := Lib.hid (QX.push (v := .slice a5 (mv.length + 1) e5) (q' := { qk with c := { qk.c with methods := qk.c.methods ++ [⟨mA, mN, mD, mH, mS, mL, mC, mT⟩] } }) K9.out.drew K9.out.drew.rows.m hg5 14 (CR.pushM (x := (⟨mA, mN, mD, mH, mS, mL, mC, mT⟩, .slice a6 mC.length c6, .slice a7 mT.length c7)) K9.out.drew.rows HM hg5 ho5) rfl rfl rfl HPP.out)
             have HTT := Lib.hid (((TT.out.trans (S' := fun b => g ≤ b) (Touch.refl _ _).drew fun b hb => .inl hb).trans (Touch.of_grown (S := fun b => g ≤ b) hg5 fun k hk => by have := (K9.out.rows.m.lt k hk).1; omega) fun b hb => .inl hb).setCell (p := ⟨g, 14, none⟩) (.inl (Nat.le_refl g)) (.slice a5 (mv.length + 1) e5))
             clear ho5 hg5 hk5 HM))
        all_goals
          (refine bodyPost_end (results_none rfl _ _ _) rfl ⟨rfl, mv ++ [(⟨mA, mN, mD, mH, mS, mL, mC, mT⟩, .slice a6 mC.length c6, .slice a7 mT.length c7)], .slice a5 (mv.length + 1) e5, ?_, HTT.out⟩
           rw [HE.out]
           exact HQ.out)
      · have hltI : ¬ (k : Int) < (N : Int) := by omega
        go_upto_region 12 with fail
        clear c2
        have hzm := Z9.out
        obtain ⟨mA, mN, mD, mH, mS, mL, mC, mT⟩ := m
        obtain ⟨a6, c6, rfl, -, -⟩ := own_slice hzm.mr.code
        obtain ⟨a7, c7, rfl, -, -⟩ := own_slice hzm.mr.traps
        have K9 := Lib.hid hzm.qz.qx
        have M9 := Lib.hid (hzm.mr.mono (base' := g + 1) (by have := hzm.qz.gz; have := hzm.qz.hz; omega))
        have c8 := K9.out.rx.cell 14 _ rfl
        have f8 := K9.out.rx.blk.frozen 14
        have lg := K9.out.rx.blk.lt
        have d0 := hzm.cell 0 _ rfl
        have d1 := hzm.cell 1 _ rfl
        have d2 := hzm.cell 2 _ rfl
        have d3 := hzm.cell 3 _ rfl
        have d4 := hzm.cell 4 _ rfl
        have d5 := hzm.cell 5 _ rfl
        have d6 := hzm.cell 6 _ rfl
        have d7 := hzm.cell 7 _ rfl
        dsimp only at d0 d1 d2 d3 d4 d5 d6 d7
        have lz := hzm.qz.zb.lt
        have TT := Lib.hid (T3.out.trans (S' := fun b => g ≤ b) (hzm.qz.tch.mono fun b hb => by have := hzm.qz.gz; omega) fun b hb => .inl hb)
        clear hzm Z9 T3
        obtain ⟨aM, cM, rfl, -, -⟩ := own_slice K9.out.rows.m
        go_region_law (first
          | (refine step_pushD _ elem_meth rfl (.tmp 60) (.tmp 62) rfl (g + 1) _ mv.length _ rfl K9.out.drew.rows.m (encM (⟨mA, mN, mD, mH, mS, mL, mC, mT⟩, .slice a6 mC.length c6, .slice a7 mT.length c7)) _ _ rfl rfl rfl (by intro u hu; simp [encM, methV] at hu; rcases hu with rfl | rfl | rfl | rfl | rfl | rfl | rfl | rfl <;> rfl) (by have := HPL.out; omega) (by have := HPL.out; omega) (by omega) ?_
             intro v5 w9 ho5 hg5 hk5
             obtain ⟨a5, e5, rfl, -, -⟩ := own_slice (n := mv.length + 1) ho5
             obtain ⟨y8, i8, l8⟩ := QX.grow K9.out.drew K9.out.drew.rows.m hg5 14 _ rfl
             have HM := M9.out.touch (S := fun _ => False) (Touch.refl _ wr).drew fun _ e => e.elim
             have HQ := Lib.hid (QX.push (v := .slice a5 (mv.length + 1) e5) (q' := { qk with c := { qk.c with methods := qk.c.methods ++ [⟨mA, mN, mD, mH, mS, mL, mC, mT⟩] } }) K9.out.drew K9.out.drew.rows.m hg5 14 (CR.pushM (x := (⟨mA, mN, mD, mH, mS, mL, mC, mT⟩, .slice a6 mC.length c6, .slice a7 mT.length c7)) K9.out.drew.rows HM hg5 ho5) rfl rfl rfl HPP.out)
             have HTT := Lib.hid (((TT.out.trans (S' := fun b => g ≤ b) (Touch.refl _ _).drew fun b hb => .inl hb).trans (Touch.of_grown (S := fun b => g ≤ b) hg5 fun k hk => by have := (K9.out.rows.m.lt k hk).1; omega) fun b hb => .inl hb).setCell (p := ⟨g, 14, none⟩) (.inl (Nat.le_refl g)) (.slice a5 (mv.length + 1) e5))
             clear ho5 hg5 hk5 HM))
        all_goals
          (refine bodyPost_end (results_none rfl _ _ _) rfl ⟨rfl, mv ++ [(⟨mA, mN, mD, mH, mS, mL, mC, mT⟩, .slice a6 mC.length c6, .slice a7 mT.length c7)], .slice a5 (mv.length + 1) e5, ?_, HTT.out⟩
           rw [HE.out]
           exact HQ.out)

end Go.Proofs.Ytlipdifhdaaknaa
