/-
  Package emit by contract: args.
-/
import Derived.Test.YtbalmfoboaapjaaEp3
namespace Go.Proofs.Ytbalmfoboaapjaa
set_option linter.unusedVariables false
set_option linter.unusedSimpArgs false
open Go.RowKit
set_option maxRecDepth 100000

theorem emit_two' (xs : List Int) (n : Nat) (hn : n = xs.length) (vl : Value) (w : World) (hl : Rd w 1 vl n (xs.flatMap encI)) :
    Calls Try.prog 36 #[vl] w (BoolE (∀ x ∈ xs, twoC x) w) := by
  subst hn
  exact emit_two xs vl w hl _ Iff.rfl
/-- A row of whole numbers that has just been laid. -/
theorem emit_twoN (xs : List Int) (w : World) (hx : xs.length ≤ 9223372036854775807) : Calls Try.prog 36 #[.slice (some ⟨w.heap.size, 0, none⟩) xs.length xs.length] (w.alloc (.cells (xs.map (Value.int .i64)).toArray 3)) (BoolE (∀ x ∈ xs, twoC x) (w.alloc (.cells (xs.map (Value.int .i64)).toArray 3))) :=
  emit_two xs _ _ (rd_new w xs _ hx) _ Iff.rfl
set_option maxHeartbeats 8000000 in
theorem emit_args (c : ClassC) (mv : List (MethC × Value × Value)) (vP vI vF vM : Value) (w : World) (h : CRd w c mv vP vI vF vM) (hkd : ∀ k ∈ c.pool, kindC k.tag) (p : Prop) (hp : p ↔ argsC c) :
    Calls Try.prog 21 #[.agg (classV c vP vI vF vM).toArray] w (MethB p w) := by
  have HP := Lib.hid hp
  have HKD := Lib.hid hkd
  clear hp hkd
  obtain ⟨aP, kP, aI, kI, aF, kF, aM, kM, rfl, rfl, rfl, rfl⟩ := h.forms
  obtain ⟨nP, hnP⟩ : ∃ n, n = c.pool.length := ⟨_, rfl⟩
  obtain ⟨nI, hnI⟩ : ∃ n, n = c.ifaces.length := ⟨_, rfl⟩
  obtain ⟨nF, hnF⟩ : ∃ n, n = c.fields.length := ⟨_, rfl⟩
  obtain ⟨nM, hnM⟩ : ∃ n, n = mv.length := ⟨_, rfl⟩
  change Calls Try.prog 21 #[.agg #[.int .i64 c.minor, .int .i64 c.major, .slice aP c.pool.length kP, .int .i64 c.access, .int .i64 c.this, .int .i64 c.super, .slice aI c.ifaces.length kI, .slice aF c.fields.length kF, .slice aM mv.length kM]] w _
  have HMS := Lib.hid h.ms
  rw [← hnP, ← hnI, ← hnF, ← hnM] at h ⊢
  have r1 := h.p
  have r2 := h.i
  have r3 := h.f
  have r4 := h.m
  rw [← hnP] at r1
  rw [← hnI] at r2
  rw [← hnF] at r3
  rw [← hnM] at r4
  have m1 : nP ≤ 9223372036854775807 := by obtain ⟨_, _, _, e, q1, q2, _⟩ := r1; cases e; omega
  have m2 : nI ≤ 9223372036854775807 := by obtain ⟨_, _, _, e, q1, q2, _⟩ := r2; cases e; omega
  have m3 : nF ≤ 9223372036854775807 := by obtain ⟨_, _, _, e, q1, q2, _⟩ := r3; cases e; omega
  have m4 : nM ≤ 9223372036854775807 := by obtain ⟨_, _, _, e, q1, q2, _⟩ := r4; cases e; omega
  have N1 := Lib.hid hnP
  have N2 := Lib.hid hnI
  have N3 := Lib.hid hnF
  have N4 := Lib.hid hnM
  clear hnP hnI hnF hnM
  have hk : Kept w (w.alloc (.cells #[.int .i64 c.minor, .int .i64 c.major, .slice aP nP kP, .int .i64 c.access, .int .i64 c.this, .int .i64 c.super, .slice aI nI kI, .slice aF nF kF, .slice aM nM kM] 27)) := (Below.refl _ _).alloc (Nat.le_refl _) _
  have HK := Lib.hid hk
  have HPP := Lib.hid (r1.kept hk)
  have HII := Lib.hid (r2.kept hk)
  have HFF := Lib.hid (r3.kept hk)
  have HMM := Lib.hid (r4.kept hk)
  have HRR := Lib.hid (fun x hx => (h.r x hx).kept hk)
  clear r1 r2 r3 r4
  have HB := Lib.hid (Blk.new w 27 #[.int .i64 c.minor, .int .i64 c.major, .slice aP nP kP, .int .i64 c.access, .int .i64 c.this, .int .i64 c.super, .slice aI nI kI, .slice aF nF kF, .slice aM nM kM])
  have HH := Lib.hid (show w.heap.size < (w.alloc (.cells #[.int .i64 c.minor, .int .i64 c.major, .slice aP nP kP, .int .i64 c.access, .int .i64 c.this, .int .i64 c.super, .slice aI nI kI, .slice aF nF kF, .slice aM nM kM] 27)).heap.size by simp)
  clear hk h
  go_enter Try.func21, Try.ntmps21
  go_upto_region 1 with fail
  generalize (w.alloc (.cells #[.int .i64 c.minor, .int .i64 c.major, .slice aP nP kP, .int .i64 c.access, .int .i64 c.this, .int .i64 c.super, .slice aI nI kI, .slice aF nF kF, .slice aM nM kM] 27)) = W at *
  have c0 := HB.out.cell 0
  have c1 := HB.out.cell 1
  have c2 := HB.out.cell 2
  have c3 := HB.out.cell 3
  have c4 := HB.out.cell 4
  have c5 := HB.out.cell 5
  have c6 := HB.out.cell 6
  have c7 := HB.out.cell 7
  have c8 := HB.out.cell 8
  simp only [List.getElem?_toArray, List.getElem?_cons_succ, List.getElem?_cons_zero] at c0 c1 c2 c3 c4 c5 c6 c7 c8
  have K0 := Lib.hid (Below.refl W.heap.size W : Kept W W)
  have C := emit_twoN [c.minor, c.major, c.access, c.this, c.super] W (by simp)
  go_wp2_with fail
  refine C.mono ?_
  rintro e w1 ⟨bA, rfl, hb, hw⟩
  have K1 : Hid (Kept W w1) := Lib.hid (hw ▸ Kept.trans K0.out ((Below.refl _ W).alloc (Nat.le_refl _) _))
  have KL : Hid (Kept W w1) := Lib.hid (hw ▸ (Below.refl _ W).alloc (Nat.le_refl _) _)
  have HbA := Lib.hid hb
  clear hb hw C
  cases bA
  · go_wp2_with fail
    go_ret
    refine ⟨false, rfl, ⟨fun e => (by cases e), fun e => ?_⟩, Kept.trans HK.out K1.out⟩
    obtain ⟨a1, a2, a3, a4, a5, -⟩ := HP.out.1 e
    exact HbA.out.2 (by simp only [List.mem_cons, List.not_mem_nil, or_false]; rintro x (rfl | rfl | rfl | rfl | rfl) <;> assumption)
  have HbA2 := Lib.hid (HbA.out.1 rfl)
  clear HbA
  have C := emit_two' c.ifaces nI N2.out (.slice aI nI kI) w1 (HII.out.kept K1.out)
  have c6 := KL.out.cell c6
  have c2 := KL.out.cell c2
  have c7 := KL.out.cell c7
  have c8 := KL.out.cell c8
  clear KL
  go_wp2_with fail
  refine C.mono ?_
  rintro e w2 ⟨bI, rfl, hb, rfl⟩
  have HbI := Lib.hid hb
  clear hb C
  cases bI
  · go_wp2_with fail
    go_ret
    exact ⟨false, rfl, ⟨fun e => (by cases e), fun e => HbI.out.2 (HP.out.1 e).2.2.2.2.2.1⟩, Kept.trans HK.out K1.out⟩
  have HbI2 := Lib.hid (HbI.out.1 rfl)
  clear HbI
  go_wp2_with fail
  go_loopw [33] (fun s wr => ∃ k : Nat, k ≤ nP ∧ s = .int .i64 k ∧ Kept w1 wr ∧ (∀ x ∈ c.pool.take k, fairC x)) (fun s _ => nP - (intOf s).toNat)
  case atStart => exact ⟨0, Nat.zero_le _, rfl, Below.refl _ _, by simp⟩
  case round =>
    obtain ⟨k, hk, rfl, hk1, ha⟩ := hrel
    have HA := Lib.hid ha
    have hkw := Kept.trans K1.out hk1
    have HK1 := Lib.hid hk1
    clear ha
    by_cases hlt : k < nP
    · skip
      obtain ⟨x, hx⟩ : ∃ x, c.pool[k]? = some x := ⟨_, List.getElem?_eq_getElem (by have := N1.out; omega)⟩
      obtain ⟨b1, o1, d1, hv1, e0, e1, e2, e3, e4⟩ := const_cells N1.out (HPP.out.kept hkw) hx
      simp only [Value.slice.injEq] at hv1
      obtain ⟨rfl, -, rfl⟩ := hv1
      have hkI : (k : Int) < (nP : Int) := by omega
      have h0I : (0 : Int) ≤ (k : Int) := by omega
      have HX := Lib.hid hx
      clear hx
      clear hkw hk1
      go_upto_region 6 with fail
      have HBx := Lib.hid (Blk.new wr 41 #[.int .i64 x.tag, .string x.text, .int .i64 x.num, .int .i64 x.a, .int .i64 x.b])
      have KWx := Lib.hid (Kept.trans HK1.out ((Below.refl _ wr).alloc (Nat.le_refl _) (.cells #[.int .i64 x.tag, .string x.text, .int .i64 x.num, .int .i64 x.a, .int .i64 x.b] 41)))
      have KNW2 : Hid (Kept wr (wr.alloc (.cells #[.int .i64 x.tag, .string x.text, .int .i64 x.num, .int .i64 x.a, .int .i64 x.b] 41))) := Lib.hid ((Below.refl _ wr).alloc (Nat.le_refl _) (.cells #[.int .i64 x.tag, .string x.text, .int .i64 x.num, .int .i64 x.a, .int .i64 x.b] 41))
      generalize (wr.alloc (.cells #[.int .i64 x.tag, .string x.text, .int .i64 x.num, .int .i64 x.a, .int .i64 x.b] 41)) = W2 at *
      have p0 := HBx.out.cell 0
      have p1 := HBx.out.cell 1
      have p2 := HBx.out.cell 2
      have p3 := HBx.out.cell 3
      have p4 := HBx.out.cell 4
      simp only [List.getElem?_toArray, List.getElem?_cons_succ, List.getElem?_cons_zero] at p0 p1 p2 p3 p4
      have C := emit_constant x W2 (HKD.out x (List.mem_of_getElem? HX.out))
      go_wp2_with fail
      refine C.mono ?_
      rintro e w3 ⟨bK, rfl, hb, hk3⟩
      have HbK := Lib.hid hb
      have K3 := Lib.hid (Kept.trans KWx.out hk3)
      clear hb hk3 C
      cases bK
      · go_wp2_with fail
        go_ret
        exact ⟨false, rfl, ⟨fun e => (by cases e), fun e => HbK.out.2 ((HP.out.1 e).2.2.2.2.2.2.1 x (List.mem_of_getElem? HX.out))⟩, Kept.trans HK.out (Kept.trans K1.out K3.out)⟩
      have HbT := Lib.hid (HbK.out.1 rfl)
      clear HbK
      go_wp2_with fail
      go_roundw
      case rel => exact ⟨k + 1, by omega, by go_num, K3.out, all_snoc HA.out HX.out HbT.out⟩
      case measure => simp [intOf]; omega
    have HAP := Lib.hid (all_end HA.out (by have := N1.out; omega))
    clear HA hk1
    have c7 := HK1.out.cell c7
    have c8 := HK1.out.cell c8
    go_wp2_with fail
    clear hlt
    obtain ⟨wp, hwp⟩ : ∃ x, x = wr := ⟨_, rfl⟩
    subst hwp
    have KP := Lib.hid hkw
    clear hkw HK1
    go_loopw [44] (fun s wr => ∃ k : Nat, k ≤ nF ∧ s = .int .i64 k ∧ Kept wp wr ∧ (∀ x ∈ c.fields.take k, fairF x)) (fun s _ => nF - (intOf s).toNat)
    case atStart => exact ⟨0, Nat.zero_le _, rfl, Below.refl _ _, by simp⟩
    case round =>
      obtain ⟨k, hk, rfl, hk1, ha⟩ := hrel
      have hkw := Kept.trans KP.out hk1
      have HA := Lib.hid ha
      have HK1 := Lib.hid hk1
      clear ha
      by_cases hlt : k < nF
      · skip
        obtain ⟨x, hx⟩ : ∃ x, c.fields[k]? = some x := ⟨_, List.getElem?_eq_getElem (by have := N3.out; omega)⟩
        obtain ⟨b1, o1, d1, hv1, e0, e1, e2, e3⟩ := field_cells N3.out (HFF.out.kept hkw) hx
        simp only [Value.slice.injEq] at hv1
        obtain ⟨rfl, -, rfl⟩ := hv1
        have hkI : (k : Int) < (nF : Int) := by omega
        have h0I : (0 : Int) ≤ (k : Int) := by omega
        have HX := Lib.hid hx
        clear hx
        clear hkw hk1
        go_upto_region 12 with fail
        have HBx := Lib.hid (Blk.new wr 51 #[.int .i64 x.access, .int .i64 x.name, .int .i64 x.desc, .int .i64 x.value])
        have KWx := Lib.hid (Kept.trans HK1.out ((Below.refl _ wr).alloc (Nat.le_refl _) (.cells #[.int .i64 x.access, .int .i64 x.name, .int .i64 x.desc, .int .i64 x.value] 51)))
        have KNW2 : Hid (Kept wr (wr.alloc (.cells #[.int .i64 x.access, .int .i64 x.name, .int .i64 x.desc, .int .i64 x.value] 51))) := Lib.hid ((Below.refl _ wr).alloc (Nat.le_refl _) (.cells #[.int .i64 x.access, .int .i64 x.name, .int .i64 x.desc, .int .i64 x.value] 51))
        generalize (wr.alloc (.cells #[.int .i64 x.access, .int .i64 x.name, .int .i64 x.desc, .int .i64 x.value] 51)) = W2 at *
        have p0 := HBx.out.cell 0
        have p1 := HBx.out.cell 1
        have p2 := HBx.out.cell 2
        have p3 := HBx.out.cell 3
        simp only [List.getElem?_toArray, List.getElem?_cons_succ, List.getElem?_cons_zero] at p0 p1 p2 p3
        have KP2 := Lib.hid (Kept.trans KP.out KWx.out)
        have C := emit_twoN [x.access, x.name, x.desc, x.value] W2 (by simp)
        go_wp2_with fail
        refine C.mono ?_
        rintro e w3 ⟨bK, rfl, hb, hw⟩
        have K3 : Hid (Kept W w3) := Lib.hid (hw ▸ Kept.trans KP2.out ((Below.refl _ W2).alloc (Nat.le_refl _) _))
        have KL : Hid (Kept W2 w3) := Lib.hid (hw ▸ (Below.refl _ W2).alloc (Nat.le_refl _) _)
        have HbK := Lib.hid hb
        clear hb hw C
        cases bK
        · go_wp2_with fail
          go_ret
          refine ⟨false, rfl, ⟨fun e => (by cases e), fun e => HbK.out.2 ?_⟩, Kept.trans HK.out K3.out⟩
          obtain ⟨f1, f2, f3, f4⟩ := (HP.out.1 e).2.2.2.2.2.2.2.1 x (List.mem_of_getElem? HX.out)
          simp only [List.mem_cons, List.not_mem_nil, or_false]
          rintro x (rfl | rfl | rfl | rfl) <;> assumption
        have HbT := Lib.hid (HbK.out.1 rfl)
        have K31 := Lib.hid (Kept.trans KWx.out KL.out)
        clear HbK KL
        go_wp2_with fail
        go_roundw
        case rel => exact ⟨k + 1, by omega, by go_num, K31.out, all_snoc HA.out HX.out ⟨HbT.out _ (by simp), HbT.out _ (by simp), HbT.out _ (by simp), HbT.out _ (by simp)⟩⟩
        case measure => simp [intOf]; omega
      have HAF := Lib.hid (all_end HA.out (by have := N3.out; omega))
      clear HA hk1
      have c8 := HK1.out.cell c8
      go_wp2_with fail
      clear hlt KP
      obtain ⟨wf, hwf⟩ : ∃ x, x = wr := ⟨_, rfl⟩
      subst hwf
      have KF := Lib.hid hkw
      clear hkw HK1
      go_loopw [63] (fun s wr => ∃ k : Nat, k ≤ nM ∧ s = .int .i64 k ∧ Kept wf wr ∧ (∀ x ∈ mv.take k, fairM x.1)) (fun s _ => nM - (intOf s).toNat)
      case atStart => exact ⟨0, Nat.zero_le _, rfl, Below.refl _ _, by simp⟩
      case round =>
        obtain ⟨k, hk, rfl, hk1, ha⟩ := hrel
        have hkw := Kept.trans KF.out hk1
        have HA := Lib.hid ha
        have HK1 := Lib.hid hk1
        clear ha
        by_cases hlt : k < nM
        rotate_left
        · have HAM := Lib.hid (all_end HA.out (by have := N4.out; omega))
          have HKW := Lib.hid hkw
          clear HA hk1 hkw
          go_wp2_with fail
          go_ret
          refine ⟨true, rfl, ⟨fun _ => HP.out.2 ?_, fun _ => rfl⟩, Kept.trans HK.out HKW.out⟩
          refine ⟨HbA2.out _ (by simp), HbA2.out _ (by simp), HbA2.out _ (by simp), HbA2.out _ (by simp), HbA2.out _ (by simp), HbI2.out, HAP.out, HAF.out, fun m hm => ?_⟩
          rw [HMS.out] at hm
          obtain ⟨x, hx, rfl⟩ := List.mem_map.1 hm
          exact HAM.out x hx
        obtain ⟨⟨m, vc, vt⟩, hx⟩ : ∃ x, mv[k]? = some x := ⟨_, List.getElem?_eq_getElem (by have := N4.out; omega)⟩
        obtain ⟨b1, o1, d1, hv1, e0, e1, e2, e3, e4, e5, e6, e7⟩ := meth_cells N4.out (HMM.out.kept hkw) hx
        have hrm : MRd wr m vc vt := (HRR.out _ (List.mem_of_getElem? hx)).kept hkw
        simp only [Value.slice.injEq] at hv1
        obtain ⟨rfl, -, rfl⟩ := hv1
        dsimp only at e0 e1 e2 e3 e4 e5 e6 e7
        obtain ⟨lc, hlc⟩ : ∃ lc, lc = m.code.length := ⟨_, rfl⟩
        obtain ⟨lt, hlt'⟩ : ∃ lt, lt = m.traps.length := ⟨_, rfl⟩
        have hrc := hrm.code
        have hrt := hrm.traps
        clear hrm
        rw [← hlc] at hrc
        rw [← hlt'] at hrt
        have HRc := Lib.hid hrc
        have HRt := Lib.hid hrt
        obtain ⟨_, ac, kc, rfl, -⟩ := hrc
        obtain ⟨_, at_, kt, rfl, -⟩ := hrt
        have hkI : (k : Int) < (nM : Int) := by omega
        have h0I : (0 : Int) ≤ (k : Int) := by omega
        have HX := Lib.hid hx
        have HLC := Lib.hid hlc
        have HLT := Lib.hid hlt'
        clear hx hlc hlt' 
        clear hkw hk1
        go_upto_region 18 with fail
        have HBm := Lib.hid (Blk.new wr 49 #[.int .i64 m.access, .int .i64 m.name, .int .i64 m.desc, .bool m.has, .int .i64 m.stack, .int .i64 m.locals, .slice ac lc kc, .slice at_ lt kt])
        have KWm := Lib.hid (Kept.trans HK1.out ((Below.refl _ wr).alloc (Nat.le_refl _) (.cells #[.int .i64 m.access, .int .i64 m.name, .int .i64 m.desc, .bool m.has, .int .i64 m.stack, .int .i64 m.locals, .slice ac lc kc, .slice at_ lt kt] 49)))
        have KNW2 : Hid (Kept wr (wr.alloc (.cells #[.int .i64 m.access, .int .i64 m.name, .int .i64 m.desc, .bool m.has, .int .i64 m.stack, .int .i64 m.locals, .slice ac lc kc, .slice at_ lt kt] 49))) := Lib.hid ((Below.refl _ wr).alloc (Nat.le_refl _) (.cells #[.int .i64 m.access, .int .i64 m.name, .int .i64 m.desc, .bool m.has, .int .i64 m.stack, .int .i64 m.locals, .slice ac lc kc, .slice at_ lt kt] 49))
        generalize (wr.alloc (.cells #[.int .i64 m.access, .int .i64 m.name, .int .i64 m.desc, .bool m.has, .int .i64 m.stack, .int .i64 m.locals, .slice ac lc kc, .slice at_ lt kt] 49)) = W2 at *
        have p0 := HBm.out.cell 0
        have p1 := HBm.out.cell 1
        have p2 := HBm.out.cell 2
        have p3 := HBm.out.cell 3
        have p4 := HBm.out.cell 4
        have p5 := HBm.out.cell 5
        have p6 := HBm.out.cell 6
        have p7 := HBm.out.cell 7
        simp only [List.getElem?_toArray, List.getElem?_cons_succ, List.getElem?_cons_zero] at p0 p1 p2 p3 p4 p5 p6 p7
        have HIN := Lib.hid (show m ∈ c.methods by rw [HMS.out]; exact List.mem_map.2 ⟨_, List.mem_of_getElem? HX.out, rfl⟩)
        have KM := Lib.hid (Kept.trans KF.out KWm.out)
        have C := emit_twoN [m.access, m.name, m.desc, m.stack, m.locals] W2 (by simp)
        go_wp2_with fail
        refine C.mono ?_
        rintro e w3 ⟨bM, rfl, hb, hw⟩
        have K3 : Hid (Kept W w3) := Lib.hid (hw ▸ Kept.trans KM.out ((Below.refl _ W2).alloc (Nat.le_refl _) _))
        have KL : Hid (Kept W2 w3) := Lib.hid (hw ▸ (Below.refl _ W2).alloc (Nat.le_refl _) _)
        have HbM := Lib.hid hb
        clear hb hw C
        cases bM
        · go_wp2_with fail
          go_ret
          refine ⟨false, rfl, ⟨fun e => (by cases e), fun e => HbM.out.2 ?_⟩, Kept.trans HK.out K3.out⟩
          obtain ⟨f1, f2, f3, f4, f5, -⟩ := (HP.out.1 e).2.2.2.2.2.2.2.2 m HIN.out
          simp only [List.mem_cons, List.not_mem_nil, or_false]
          rintro x (rfl | rfl | rfl | rfl | rfl) <;> assumption
        have HbT := Lib.hid (HbM.out.1 rfl)
        clear HbM
        have p3 := KL.out.cell p3
        have p4 := KL.out.cell p4
        have p5 := KL.out.cell p5
        have p6 := KL.out.cell p6
        have p7 := KL.out.cell p7
        have K31 := Lib.hid (Kept.trans KWm.out KL.out)
        have KR3 := Lib.hid (Kept.trans KNW2.out KL.out)
        clear KL
        by_cases hgood : m.has = true ∨ (m.stack = 0 ∧ m.locals = 0 ∧ lc = 0 ∧ lt = 0)
        rotate_left
        · have hh : m.has = false := by cases hm : m.has <;> simp_all
          rw [hh] at p3
          have HBAD := Lib.hid (show ¬ fairM m from fun hf => hgood (.inr (by have := hf.2.2.2.2.2.2 hh; have := HLC.out; have := HLT.out; omega)))
          by_cases g1 : m.stack = 0
          · by_cases g2 : m.locals = 0
            · by_cases g3 : lc = 0
              · have g4 : (0 : Int) < (lt : Int) := by
                  rcases Nat.eq_zero_or_pos lt with h0 | h0
                  · exact absurd (.inr ⟨g1, g2, g3, h0⟩) hgood
                  · omega
                rw [g1] at p4
                rw [g2] at p5
                subst g3
                clear hgood g1 g2 hh
                go_wp2_with fail
                go_ret
                exact ⟨false, rfl, ⟨fun e => (by cases e), fun e => absurd ((HP.out.1 e).2.2.2.2.2.2.2.2 m HIN.out) HBAD.out⟩, Kept.trans HK.out K3.out⟩
              · have g4 : (0 : Int) < (lc : Int) := by omega
                rw [g1] at p4
                rw [g2] at p5
                clear hgood g1 g2 hh
                go_wp2_with fail
                go_ret
                exact ⟨false, rfl, ⟨fun e => (by cases e), fun e => absurd ((HP.out.1 e).2.2.2.2.2.2.2.2 m HIN.out) HBAD.out⟩, Kept.trans HK.out K3.out⟩
            · have g4 : (m.locals != 0) = true := by simpa using g2
              rw [g1] at p4
              clear hgood g1 g2 hh
              go_wp2_with fail
              go_ret
              exact ⟨false, rfl, ⟨fun e => (by cases e), fun e => absurd ((HP.out.1 e).2.2.2.2.2.2.2.2 m HIN.out) HBAD.out⟩, Kept.trans HK.out K3.out⟩
          · have g4 : (m.stack != 0) = true := by simpa using g1
            clear hgood g1 hh
            go_wp2_with fail
            go_ret
            exact ⟨false, rfl, ⟨fun e => (by cases e), fun e => absurd ((HP.out.1 e).2.2.2.2.2.2.2.2 m HIN.out) HBAD.out⟩, Kept.trans HK.out K3.out⟩
        have HG := Lib.hid (show m.has = false → m.stack = 0 ∧ m.locals = 0 ∧ m.code.length = 0 ∧ m.traps.length = 0 from fun hh => by
          have := HLC.out
          have := HLT.out
          rcases hgood with h0 | h0
          · rw [hh] at h0; cases h0
          · omega)
        have mt : lt ≤ 9223372036854775807 := by obtain ⟨_, _, _, e, q1, q2, _⟩ := HRt.out; cases e; omega
        obtain ⟨wm, hwm⟩ : ∃ x, x = wr := ⟨_, rfl⟩
        subst hwm
        obtain ⟨km, hkm⟩ : ∃ x, x = k := ⟨_, rfl⟩
        subst hkm
        cases hm : m.has
        · obtain ⟨g1, g2, g3, g4⟩ : m.stack = 0 ∧ m.locals = 0 ∧ lc = 0 ∧ lt = 0 := by
            rcases hgood with h0 | h0
            · rw [hm] at h0; cases h0
            · exact h0
          rw [hm] at p3
          rw [g1] at p4
          rw [g2] at p5
          have g3I : ¬ (0 : Int) < (lc : Int) := by omega
          have g4I : ¬ (0 : Int) < (lt : Int) := by omega
          clear g1 g2 g3 g4 hgood hm
          have HFL := Lib.hid True.intro
          go_wp2_with fail
          go_loopw [110] (fun s wr => ∃ k : Nat, k ≤ lt ∧ s = .int .i64 k ∧ Kept w3 wr ∧ (∀ x ∈ m.traps.take k, fairT x)) (fun s _ => lt - (intOf s).toNat)
          case atStart => exact ⟨0, Nat.zero_le _, rfl, Below.refl _ _, by simp⟩
          case round =>
            obtain ⟨k, hk, rfl, hk1, ha⟩ := hrel
            have hkw := Kept.trans KR3.out hk1
            have HAT := Lib.hid ha
            have HK2 := Lib.hid hk1
            clear ha
            by_cases hlt' : k < lt
            rotate_left
            · have HTT := Lib.hid (all_end HAT.out (by have := HLT.out; omega))
              have KE := Lib.hid (Kept.trans K31.out hk1)
              clear HAT hk1 hkw
              go_wp2_with fail
              go_roundw
              case rel => exact ⟨km + 1, by omega, by go_num, KE.out, all_snoc HA.out HX.out ⟨HbT.out _ (by simp), HbT.out _ (by simp), HbT.out _ (by simp), HbT.out _ (by simp), HbT.out _ (by simp), HTT.out, HG.out⟩⟩
              case measure => simp [intOf]; omega
            try omega
            all_goals
              (obtain ⟨y, hx⟩ : ∃ x, m.traps[k]? = some x := ⟨_, List.getElem?_eq_getElem (by have := HLT.out; omega)⟩
               obtain ⟨b2, o2, d2, hv1, e0, e1, e2, e3⟩ := trap_cell HLT.out (HRt.out.kept hkw) hx
               simp only [Value.slice.injEq] at hv1
               obtain ⟨rfl, -, rfl⟩ := hv1
               have hkJ : (k : Int) < (lt : Int) := by omega
               have h0J : (0 : Int) ≤ (k : Int) := by omega
               have HY := Lib.hid hx
               clear hx
               clear hkw hk1
               go_upto_region 23 with fail
               have HBy := Lib.hid (Blk.new wr 53 #[.int .i64 y.fr, .int .i64 y.to, .int .i64 y.at_, .int .i64 y.ty])
               have KWy := Lib.hid (Kept.trans HK2.out ((Below.refl _ wr).alloc (Nat.le_refl _) (.cells #[.int .i64 y.fr, .int .i64 y.to, .int .i64 y.at_, .int .i64 y.ty] 53)))
               have KNW4 : Hid (Kept wr (wr.alloc (.cells #[.int .i64 y.fr, .int .i64 y.to, .int .i64 y.at_, .int .i64 y.ty] 53))) := Lib.hid ((Below.refl _ wr).alloc (Nat.le_refl _) (.cells #[.int .i64 y.fr, .int .i64 y.to, .int .i64 y.at_, .int .i64 y.ty] 53))
               generalize (wr.alloc (.cells #[.int .i64 y.fr, .int .i64 y.to, .int .i64 y.at_, .int .i64 y.ty] 53)) = W4 at *
               have q0 := HBy.out.cell 0
               have q1 := HBy.out.cell 1
               have q2 := HBy.out.cell 2
               have q3 := HBy.out.cell 3
               simp only [List.getElem?_toArray, List.getElem?_cons_succ, List.getElem?_cons_zero] at q0 q1 q2 q3
               have KT := Lib.hid (Kept.trans K3.out KWy.out)
               have C := emit_twoN [y.fr, y.to, y.at_, y.ty] W4 (by simp)
               go_wp2_with fail
               refine C.mono ?_
               rintro e w5 ⟨bT, rfl, hb, hw⟩
               have K5 : Hid (Kept W w5) := Lib.hid (hw ▸ Kept.trans KT.out ((Below.refl _ W4).alloc (Nat.le_refl _) _))
               have KL : Hid (Kept W4 w5) := Lib.hid (hw ▸ (Below.refl _ W4).alloc (Nat.le_refl _) _)
               have HbT_ := Lib.hid hb
               clear hb hw C
               cases bT
               · go_wp2_with fail
                 go_ret
                 refine ⟨false, rfl, ⟨fun e => (by cases e), fun e => HbT_.out.2 ?_⟩, Kept.trans HK.out K5.out⟩
                 obtain ⟨f1, f2, f3, f4⟩ := ((HP.out.1 e).2.2.2.2.2.2.2.2 m HIN.out).2.2.2.2.2.1 y (List.mem_of_getElem? HY.out)
                 simp only [List.mem_cons, List.not_mem_nil, or_false]
                 rintro x (rfl | rfl | rfl | rfl) <;> assumption
               have HbU := Lib.hid (HbT_.out.1 rfl)
               have K51 := Lib.hid (Kept.trans KWy.out KL.out)
               clear HbT_ KL
               go_wp2_with fail
               go_roundw
               case rel => exact ⟨k + 1, by omega, by go_num, K51.out, all_snoc HAT.out HY.out ⟨HbU.out _ (by simp), HbU.out _ (by simp), HbU.out _ (by simp), HbU.out _ (by simp)⟩⟩
               case measure => simp [intOf]; omega)
        · rw [hm] at p3
          clear hm hgood
          go_wp2_with fail
          go_loopw [110] (fun s wr => ∃ k : Nat, k ≤ lt ∧ s = .int .i64 k ∧ Kept w3 wr ∧ (∀ x ∈ m.traps.take k, fairT x)) (fun s _ => lt - (intOf s).toNat)
          case atStart => exact ⟨0, Nat.zero_le _, rfl, Below.refl _ _, by simp⟩
          case round =>
            obtain ⟨k, hk, rfl, hk1, ha⟩ := hrel
            have hkw := Kept.trans KR3.out hk1
            have HAT := Lib.hid ha
            have HK2 := Lib.hid hk1
            clear ha
            by_cases hlt' : k < lt
            rotate_left
            · have HTT := Lib.hid (all_end HAT.out (by have := HLT.out; omega))
              have KE := Lib.hid (Kept.trans K31.out hk1)
              clear HAT hk1 hkw
              go_wp2_with fail
              go_roundw
              case rel => exact ⟨km + 1, by omega, by go_num, KE.out, all_snoc HA.out HX.out ⟨HbT.out _ (by simp), HbT.out _ (by simp), HbT.out _ (by simp), HbT.out _ (by simp), HbT.out _ (by simp), HTT.out, HG.out⟩⟩
              case measure => simp [intOf]; omega
            try omega
            all_goals
              (obtain ⟨y, hx⟩ : ∃ x, m.traps[k]? = some x := ⟨_, List.getElem?_eq_getElem (by have := HLT.out; omega)⟩
               obtain ⟨b2, o2, d2, hv1, e0, e1, e2, e3⟩ := trap_cell HLT.out (HRt.out.kept hkw) hx
               simp only [Value.slice.injEq] at hv1
               obtain ⟨rfl, -, rfl⟩ := hv1
               have hkJ : (k : Int) < (lt : Int) := by omega
               have h0J : (0 : Int) ≤ (k : Int) := by omega
               have HY := Lib.hid hx
               clear hx
               clear hkw hk1
               go_upto_region 23 with fail
               have HBy := Lib.hid (Blk.new wr 53 #[.int .i64 y.fr, .int .i64 y.to, .int .i64 y.at_, .int .i64 y.ty])
               have KWy := Lib.hid (Kept.trans HK2.out ((Below.refl _ wr).alloc (Nat.le_refl _) (.cells #[.int .i64 y.fr, .int .i64 y.to, .int .i64 y.at_, .int .i64 y.ty] 53)))
               have KNW4 : Hid (Kept wr (wr.alloc (.cells #[.int .i64 y.fr, .int .i64 y.to, .int .i64 y.at_, .int .i64 y.ty] 53))) := Lib.hid ((Below.refl _ wr).alloc (Nat.le_refl _) (.cells #[.int .i64 y.fr, .int .i64 y.to, .int .i64 y.at_, .int .i64 y.ty] 53))
               generalize (wr.alloc (.cells #[.int .i64 y.fr, .int .i64 y.to, .int .i64 y.at_, .int .i64 y.ty] 53)) = W4 at *
               have q0 := HBy.out.cell 0
               have q1 := HBy.out.cell 1
               have q2 := HBy.out.cell 2
               have q3 := HBy.out.cell 3
               simp only [List.getElem?_toArray, List.getElem?_cons_succ, List.getElem?_cons_zero] at q0 q1 q2 q3
               have KT := Lib.hid (Kept.trans K3.out KWy.out)
               have C := emit_twoN [y.fr, y.to, y.at_, y.ty] W4 (by simp)
               go_wp2_with fail
               refine C.mono ?_
               rintro e w5 ⟨bT, rfl, hb, hw⟩
               have K5 : Hid (Kept W w5) := Lib.hid (hw ▸ Kept.trans KT.out ((Below.refl _ W4).alloc (Nat.le_refl _) _))
               have KL : Hid (Kept W4 w5) := Lib.hid (hw ▸ (Below.refl _ W4).alloc (Nat.le_refl _) _)
               have HbT_ := Lib.hid hb
               clear hb hw C
               cases bT
               · go_wp2_with fail
                 go_ret
                 refine ⟨false, rfl, ⟨fun e => (by cases e), fun e => HbT_.out.2 ?_⟩, Kept.trans HK.out K5.out⟩
                 obtain ⟨f1, f2, f3, f4⟩ := ((HP.out.1 e).2.2.2.2.2.2.2.2 m HIN.out).2.2.2.2.2.1 y (List.mem_of_getElem? HY.out)
                 simp only [List.mem_cons, List.not_mem_nil, or_false]
                 rintro x (rfl | rfl | rfl | rfl) <;> assumption
               have HbU := Lib.hid (HbT_.out.1 rfl)
               have K51 := Lib.hid (Kept.trans KWy.out KL.out)
               clear HbT_ KL
               go_wp2_with fail
               go_roundw
               case rel => exact ⟨k + 1, by omega, by go_num, K51.out, all_snoc HAT.out HY.out ⟨HbU.out _ (by simp), HbU.out _ (by simp), HbU.out _ (by simp), HbU.out _ (by simp)⟩⟩
               case measure => simp [intOf]; omega)
end Go.Proofs.Ytbalmfoboaapjaa
