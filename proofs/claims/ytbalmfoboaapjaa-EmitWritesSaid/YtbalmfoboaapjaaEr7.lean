/-
  The document's answer for emit by contract: Write.
-/
import Derived.Test.YtbalmfoboaapjaaEr3
import Derived.Test.YtbalmfoboaapjaaEr6
import Derived.Test.YtbalmfoboaapjaaEm3
namespace Go.Proofs.Ytbalmfoboaapjaa
set_option linter.unusedVariables false
set_option linter.unusedSimpArgs false
open Go.RowKit
set_option maxRecDepth 100000

theorem rd_blk {w : World} {sz n : Nat} {v : Value} {xs : List Value} (h : Rd w sz v n xs) (hs : 0 < sz) : 0 < n → ∀ k, v.ownBlock = some k → k < w.heap.size := by
  intro h0 k hk
  obtain ⟨hl, a, c, rfl, _, _, h3⟩ := h
  obtain ⟨b, off, rfl, hc⟩ := h3 h0
  obtain ⟨u, hu⟩ : ∃ u, xs[0]? = some u := ⟨_, List.getElem?_eq_getElem (by rw [hl]; exact Nat.mul_pos h0 hs)⟩
  have h4 := World.block_lt_of_cell? w _ (hc 0 u hu)
  have h5 : b = k := by simpa [Value.ownBlock] using hk
  subst h5
  exact h4
set_option maxHeartbeats 1000000 in
theorem ref1_Put4 (v : Int) (w : World) :
    Calls Try.prog 24 #[.int .i64 v, .int .i64 4] w fun e w' => ∃ x, e = .returned x ∧ BW w.heap.size (beB 4 v) x w' ∧ Kept w w' := by
  go_enter Try.func24, Try.ntmps24
  go_wp2
  go_loopw [5, 6] (fun b k wr => ∃ j : Nat, j ≤ 4 ∧ k = .int .i64 (3 - j) ∧ wr.ownsRow w.heap.size 5 1 b j (((beB 4 v).take j).map byteV) ∧ Below w.heap.size w wr) (fun _ k _ => (intOf k + 1).toNat)
  case atStart => exact ⟨0, by omega, rfl, World.ownsRow_nil _ _ _ _, Below.refl _ _⟩
  case round =>
    obtain ⟨j, hj, rfl, hown, hb⟩ := hrel
    have hsz := hb.size
    rcases (by omega : j = 0 ∨ j = 1 ∨ j = 2 ∨ j = 3 ∨ j = 4) with rfl | rfl | rfl | rfl | rfl
    · go_wp2_with (at_builtin; refine wpl_push _ elem_u8 rfl _ _ rfl _ _ _ _ rfl hown [.int .u8 _] _ rfl rfl (byte_oneCell _) (by omega) (by omega) hsz ?_; intro v' w1 hown1 hg1 hb1)
      go_roundw
      case rel => exact ⟨1, by omega, by go_num, by simpa [beB, bz3 v] using hown1, hb.trans hb1⟩
      case measure => simp [intOf]
    · go_wp2_with (at_builtin; refine wpl_push _ elem_u8 rfl _ _ rfl _ _ _ _ rfl hown [.int .u8 _] _ rfl rfl (byte_oneCell _) (by omega) (by omega) hsz ?_; intro v' w1 hown1 hg1 hb1)
      go_roundw
      case rel => exact ⟨2, by omega, by go_num, by simpa [beB, bz2 v] using hown1, hb.trans hb1⟩
      case measure => simp [intOf]
    · go_wp2_with (at_builtin; refine wpl_push _ elem_u8 rfl _ _ rfl _ _ _ _ rfl hown [.int .u8 _] _ rfl rfl (byte_oneCell _) (by omega) (by omega) hsz ?_; intro v' w1 hown1 hg1 hb1)
      go_roundw
      case rel => exact ⟨3, by omega, by go_num, by simpa [beB, bz1 v] using hown1, hb.trans hb1⟩
      case measure => simp [intOf]
    · go_wp2_with (at_builtin; refine wpl_push _ elem_u8 rfl _ _ rfl _ _ _ _ rfl hown [.int .u8 _] _ rfl rfl (byte_oneCell _) (by omega) (by omega) hsz ?_; intro v' w1 hown1 hg1 hb1)
      go_roundw
      case rel => exact ⟨4, by omega, by go_num, by simpa [beB, bz0 v] using hown1, hb.trans hb1⟩
      case measure => simp [intOf]
    · go_wp2
      go_ret
      exact ⟨_, rfl, by simpa [BW, beB] using hown, hb⟩
/-- What Write tells: bytes of its own, the error. -/
def WriteG (c : ClassC) (w : World) (e : Ending) (w' : World) : Prop := ∃ v, e = .returned (.tuple #[v, .int .i64 (writeC c).2]) ∧ BW w.heap.size (writeC c).1 v w' ∧ Kept w w'
theorem write_refused {c : ClassC} (h : ¬ refusedC c = 0) : writeC c = ([], refusedC c) := by unfold writeC; rw [if_pos h]
theorem write_long {c : ClassC} (h : refusedC c = 0) (hl : 65536 < (classB c).length) : writeC c = ([], 2) := by unfold writeC; rw [if_neg (fun e => e h), if_pos hl]
theorem write_all {c : ClassC} (h : refusedC c = 0) (hl : ¬ 65536 < (classB c).length) : writeC c = (classB c, 0) := by unfold writeC; rw [if_neg (fun e => e h), if_neg hl]
theorem BW.nil (base : Nat) (w : World) : BW base [] (.slice none 0 0) w := World.ownsRow_nil _ _ _ _
theorem BW.mono {base base' : Nat} {L : List UInt8} {v : Value} {w : World} (h : BW base L v w) (hb : base' ≤ base) : BW base' L v w := ⟨h.1, h.2.imp id fun ⟨g, cap, cur, e1, e2, e3⟩ => ⟨g, cap, cur, e1, Nat.le_trans hb e2, e3⟩⟩
/-- The bytes ahead of the constants' end. -/
theorem classB_head (c : ClassC) (k : Nat) : ∃ X, classB c = beB 4 3405691582 ++ twoB [c.minor, c.major, (c.pool.length : Int) + 1] ++ (c.pool.take k).flatMap constB ++ X := by
  refine ⟨(c.pool.drop k).flatMap constB ++ twoB [c.access, c.this, c.super, (c.ifaces.length : Int)] ++ twoB c.ifaces ++
  beB 2 c.fields.length ++ c.fields.flatMap (fieldB (namedC c.pool valueS)) ++ beB 2 c.methods.length ++ c.methods.flatMap (methB (namedC c.pool codeS)) ++ beB 2 0, ?_⟩
  have h1 : c.pool.flatMap constB = (c.pool.take k).flatMap constB ++ (c.pool.drop k).flatMap constB := by rw [← List.flatMap_append, List.take_append_drop]
  unfold classB
  rw [h1]
  simp only [List.append_assoc]
theorem constB_len {x : ConstC} (h : x.text.size ≤ 65535) : (constB x).length ≤ 65540 := by
  have h2 : x.text.data.toList.length = x.text.size := Array.length_toList
  unfold constB
  rw [List.length_append]
  split
  · rw [List.length_append, h2]
    simp only [beB_length]
    omega
  · split
    · simp only [beB_length]; omega
    · split
      · simp only [beB_length]; omega
      · simp only [beB_length, twoB_len, List.length_cons, List.length_nil]; omega
theorem methB_len (v : Int) (m : MethC) (h1 : m.traps.length ≤ 64) (h2 : m.code.length ≤ 4096) : (methB v m).length ≤ 5000 := by
  unfold methB codeB
  have h3 := flat_le (f := trapB) 8 (fun _ => by simp [trapB, twoB_len]) m.traps
  split <;> simp only [List.length_append, twoB_len, beB_length, List.length_cons, List.length_nil] <;> omega
theorem meths_len (v : Int) : ∀ l : List (MethC × Value × Value), (∀ x ∈ l, x.1.traps.length ≤ 64 ∧ x.1.code.length ≤ 4096) → (l.flatMap (fun x => methB v x.1)).length ≤ 5000 * l.length
  | [], _ => by simp
  | x :: l, h => by
    have h1 := methB_len v x.1 (h x (by simp)).1 (h x (by simp)).2
    have h2 := meths_len v l fun y hy => h y (by simp [hy])
    rw [List.flatMap_cons, List.length_append, List.length_cons, Nat.mul_add]
    omega
theorem fieldB_len (v : Int) (f : FieldC) : (fieldB v f).length ≤ 16 := by
  unfold fieldB
  split <;> simp [twoB_len, beB_length]
set_option maxHeartbeats 16000000 in
theorem ref4_Write (c : ClassC) (mv : List (MethC × Value × Value)) (vP vI vF vM : Value) (w : World) (h : CRd w c mv vP vI vF vM) :
    Calls Try.prog 13 #[.agg (classV c vP vI vF vM).toArray] w (WriteG c w) := by
  have HC := Lib.hid h
  obtain ⟨aP, kP, aI, kI, aF, kF, aM, kM, rfl, rfl, rfl, rfl⟩ := h.forms
  obtain ⟨nP, hnP⟩ : ∃ n, n = c.pool.length := ⟨_, rfl⟩
  obtain ⟨nI, hnI⟩ : ∃ n, n = c.ifaces.length := ⟨_, rfl⟩
  obtain ⟨nF, hnF⟩ : ∃ n, n = c.fields.length := ⟨_, rfl⟩
  obtain ⟨nM, hnM⟩ : ∃ n, n = mv.length := ⟨_, rfl⟩
  change Calls Try.prog 13 #[.agg #[.int .i64 c.minor, .int .i64 c.major, .slice aP c.pool.length kP, .int .i64 c.access, .int .i64 c.this, .int .i64 c.super, .slice aI c.ifaces.length kI, .slice aF c.fields.length kF, .slice aM mv.length kM]] w _
  have HMS := Lib.hid h.ms
  rw [← hnP, ← hnI, ← hnF, ← hnM] at h ⊢
  have r1 := h.p
  have r2 := h.i
  have r3 := h.f
  have r4 := h.m
  rw [← hnP] at r1
  rw [← hnI] at r2
  rw [← hnF] at r3
  rw [← hnM] at r4
  have m1 : nP ≤ 9223372036854775807 := by obtain ⟨_, _, _, e, q1, q2, _⟩ := r1; cases e; omega
  have m2 : nI ≤ 9223372036854775807 := by obtain ⟨_, _, _, e, q1, q2, _⟩ := r2; cases e; omega
  have m3 : nF ≤ 9223372036854775807 := by obtain ⟨_, _, _, e, q1, q2, _⟩ := r3; cases e; omega
  have m4 : nM ≤ 9223372036854775807 := by obtain ⟨_, _, _, e, q1, q2, _⟩ := r4; cases e; omega
  have N1 := Lib.hid hnP
  have N2 := Lib.hid hnI
  have N3 := Lib.hid hnF
  have N4 := Lib.hid hnM
  clear hnP hnI hnF hnM
  have hk : Kept w (w.alloc (.cells #[.int .i64 c.minor, .int .i64 c.major, .slice aP nP kP, .int .i64 c.access, .int .i64 c.this, .int .i64 c.super, .slice aI nI kI, .slice aF nF kF, .slice aM nM kM] 27)) := (Below.refl _ _).alloc (Nat.le_refl _) _
  have HK := Lib.hid hk
  have HPP := Lib.hid (r1.kept hk)
  have HII := Lib.hid (r2.kept hk)
  have HFF := Lib.hid (r3.kept hk)
  have HMM := Lib.hid (r4.kept hk)
  have HRR := Lib.hid (fun x hx => (h.r x hx).kept hk)
  clear r1 r2 r3 r4
  have HB := Lib.hid (Blk.new w 27 #[.int .i64 c.minor, .int .i64 c.major, .slice aP nP kP, .int .i64 c.access, .int .i64 c.this, .int .i64 c.super, .slice aI nI kI, .slice aF nF kF, .slice aM nM kM])
  have HH := Lib.hid (show w.heap.size < (w.alloc (.cells #[.int .i64 c.minor, .int .i64 c.major, .slice aP nP kP, .int .i64 c.access, .int .i64 c.this, .int .i64 c.super, .slice aI nI kI, .slice aF nF kF, .slice aM nM kM] 27)).heap.size by simp)
  clear hk h
  go_enter Try.func13, Try.ntmps13
  go_upto_region 1 with fail
  generalize (w.alloc (.cells #[.int .i64 c.minor, .int .i64 c.major, .slice aP nP kP, .int .i64 c.access, .int .i64 c.this, .int .i64 c.super, .slice aI nI kI, .slice aF nF kF, .slice aM nM kM] 27)) = W at *
  have c0 := HB.out.cell 0
  have c1 := HB.out.cell 1
  have c2 := HB.out.cell 2
  have c3 := HB.out.cell 3
  have c4 := HB.out.cell 4
  have c5 := HB.out.cell 5
  have c6 := HB.out.cell 6
  have c7 := HB.out.cell 7
  have c8 := HB.out.cell 8
  simp only [List.getElem?_toArray, List.getElem?_cons_succ, List.getElem?_cons_zero] at c0 c1 c2 c3 c4 c5 c6 c7 c8
  have C := ref4_Refused c mv _ _ _ _ W (HC.out.kept HK.out)
  rw [← N1.out, ← N2.out, ← N3.out, ← N4.out] at C
  obtain ⟨z, hz⟩ : ∃ z, z = refusedC c := ⟨_, rfl⟩
  unfold RefG at C
  rw [← hz] at C
  have HZ := Lib.hid hz
  clear hz
  go_wp2_with fail
  refine C.mono ?_
  rintro e wz ⟨rfl, hk1⟩
  have K1 := Lib.hid hk1
  have HBcz := Lib.hid (HB.out.kept hk1)
  clear C hk1
  by_cases hz0 : z = 0
  rotate_left
  · have hz1 : (z != 0) = true := by simpa using hz0
    have HR := Lib.hid (write_refused (c := c) (by rw [← HZ.out]; exact hz0))
    clear hz0
    go_wp2_with fail
    go_returns
    refine ⟨.slice none 0 0, by rw [HR.out, HZ.out]; rfl, by rw [HR.out]; exact BW.nil _ _, Kept.trans HK.out K1.out⟩
  subst hz0
  have HFIT := Lib.hid (fit_of HZ.out.symm)
  have l1 : nP ≤ 1024 := by have := HFIT.out.long; unfold longC at this; have := N1.out; omega
  have l2 : nI ≤ 64 := by have := HFIT.out.long; unfold longC at this; have := N2.out; omega
  have l3 : nF ≤ 64 := by have := HFIT.out.long; unfold longC at this; have := N3.out; omega
  have l4 : nM ≤ 64 := by have := HFIT.out.long; unfold longC at this; have := N4.out; have h0 : c.methods.length = mv.length := by rw [HMS.out, List.length_map]
                          omega
  have C := ref1_Put4 3405691582 wz
  obtain ⟨base, hbase⟩ : ∃ b, b = wz.heap.size := ⟨_, rfl⟩
  rw [← hbase] at C
  go_wp2_with fail
  refine C.mono ?_
  rintro e w0 ⟨v0, rfl, h6, hk6⟩
  have HW0 := Lib.hid h6
  have HT0 := Lib.hid (TY.of_kept (G := (fun _ => False)) (base := base) hk6)
  have HBc0 := Lib.hid (HBcz.out.kept hk6)
  have hbW0 : base ≤ w0.heap.size := by have := hk6.size; omega
  have HL0 : Hid ((beB 4 3405691582).length ≤ 0 + 4) := Lib.hid (by decide)
  have HBS := Lib.hid hbase
  have BK := Lib.hid (fun (x : World) (h : TY (fun _ => False) base wz x) => (h.below (B := wz.heap.size) (by omega) (fun _ e => e.elim) (Nat.le_refl _) : Kept wz x))
  clear h6 hk6 C hbase
  have cc0 := HBc0.out.cell 0
  have cc1 := HBc0.out.cell 1
  have cc2 := HBc0.out.cell 2
  have cc3 := HBc0.out.cell 3
  have cc4 := HBc0.out.cell 4
  have cc5 := HBc0.out.cell 5
  have cc6 := HBc0.out.cell 6
  have cc7 := HBc0.out.cell 7
  have cc8 := HBc0.out.cell 8
  simp only [List.getElem?_toArray, List.getElem?_cons_succ, List.getElem?_cons_zero] at cc0 cc1 cc2 cc3 cc4 cc5 cc6 cc7 cc8
  have C := ref4_twoN base (beB 4 3405691582) v0 [c.minor, c.major, (nP : Int) + 1] w0 HW0.out hbW0 (by have := HL0.out; simp only [List.length_cons, List.length_nil]; omega)
  go_wp2_with fail
  refine C.mono ?_
  rintro e w1 ⟨v1, rfl, h6, h7⟩
  have HW1 := Lib.hid h6
  have HT1 := Lib.hid (HT0.out.trans h7)
  have HBc1 := Lib.hid (h7.blk HBc0.out (fun e => e) (by decide))
  have hbW1 : base ≤ w1.heap.size := by have := h7.size; omega
  have HL1 : Hid ((beB 4 3405691582 ++ twoB [c.minor, c.major, (nP : Int) + 1]).length ≤ 0 + 10) := Lib.hid (by have := HL0.out; simp only [List.length_append, twoB_len, beB_length, List.length_cons, List.length_nil] at this ⊢; omega)
  clear h6 h7 C
  have cc2 := HBc1.out.cell 2
  simp only [List.getElem?_toArray, List.getElem?_cons_succ, List.getElem?_cons_zero] at cc2
  go_wp2_with fail
  obtain ⟨LH, hLH⟩ : ∃ x, x = beB 4 3405691582 ++ twoB [c.minor, c.major, (nP : Int) + 1] := ⟨_, rfl⟩
  have HLH := Lib.hid hLH
  rw [← hLH] at HW1 HL1
  clear hLH
  go_loopw [5, 6] (fun s5 s6 wr => ∃ k : Nat, k ≤ nP ∧ s6 = .int .i64 k ∧ BW base (LH ++ (c.pool.take k).flatMap constB) s5 wr ∧ TY (fun _ => False) base wz wr ∧ (LH ++ (c.pool.take k).flatMap constB).length ≤ 65536) (fun _ s6 _ => nP - (intOf s6).toNat)
  case atStart => exact ⟨0, Nat.zero_le _, rfl, by simpa using HW1.out, HT1.out, by have := HL1.out; simp only [List.take_zero, List.flatMap_nil, List.append_nil]; omega⟩
  case round =>
    obtain ⟨k, hk, rfl, hw, hty, hlen⟩ := hrel
    have HW := Lib.hid hw
    have HTW := Lib.hid hty
    have hbr : base ≤ wr.heap.size := by have := hty.size; have := HBS.out; omega
    have HBcW := Lib.hid (hty.blk HBcz.out (fun e => e) (by decide))
    have KW := Lib.hid (Kept.trans K1.out (BK.out _ hty))
    have cc2 := HBcW.out.cell 2
    simp only [List.getElem?_toArray, List.getElem?_cons_succ, List.getElem?_cons_zero] at cc2
    clear hw hty
    by_cases hlt : k < nP
    · skip
      obtain ⟨x, hx⟩ : ∃ x, c.pool[k]? = some x := ⟨_, List.getElem?_eq_getElem (by have := N1.out; omega)⟩
      obtain ⟨b1, o1, d1, hv1, e0, e1, e2, e3, e4⟩ := const_cells N1.out (HPP.out.kept KW.out) hx
      simp only [Value.slice.injEq] at hv1
      obtain ⟨rfl, -, rfl⟩ := hv1
      have hkI : (k : Int) < (nP : Int) := by omega
      have h0I : (0 : Int) ≤ (k : Int) := by omega
      have HX := Lib.hid hx
      clear hx
      obtain ⟨LC, hLC⟩ : ∃ y, y = LH ++ (c.pool.take k).flatMap constB := ⟨_, rfl⟩
      rw [← hLC] at HW hlen
      have HTX := Lib.hid (HFIT.out.args.2.2.2.2.2.2.1 x (List.mem_of_getElem? HX.out)).2.2.1
      have C := ref4_constant base LC u5 x wr HW.out hbr (by omega) HTX.out (HFIT.out.kind x (List.mem_of_getElem? HX.out))
      obtain ⟨LN, hLN⟩ : ∃ y, y = LC ++ constB x := ⟨_, rfl⟩
      rw [← hLN] at C
      have HCAT := Lib.hid (show LN = LH ++ (c.pool.take (k + 1)).flatMap constB by
        rw [hLN, hLC, List.append_assoc, List.take_add_one, HX.out, List.flatMap_append]
        simp)
      have HLN := Lib.hid (show LN.length ≤ 200000 by have := constB_len HTX.out; rw [hLN, List.length_append]; omega)
      have HLEN := Lib.hid hlen
      clear hLC hLN hlen
      go_wp2_with fail
      refine C.mono ?_
      rintro e w9 ⟨v9, rfl, h6, h7⟩
      obtain ⟨a9, c9, rfl, -, -⟩ := own_slice h6
      have HW9 := Lib.hid h6
      have HT9 := Lib.hid (HTW.out.trans h7)
      have hln := HLN.out
      clear h6 h7 C
      by_cases hbig : 65536 < LN.length
      · have hbigI : (65536 : Int) < (LN.length : Int) := by omega
        have HR := Lib.hid (write_long (c := c) HZ.out.symm (by
          obtain ⟨X, hX⟩ := classB_head c (k + 1)
          have h1 := HCAT.out
          rw [HLH.out, N1.out] at h1
          rw [hX, ← h1, List.length_append]
          omega))
        go_wp2_with fail
        go_returns
        exact ⟨.slice none 0 0, by rw [HR.out]; rfl, by rw [HR.out]; exact BW.nil _ _, Kept.trans HK.out (Kept.trans K1.out (BK.out _ HT9.out))⟩
      · have hbigI : ¬ (65536 : Int) < (LN.length : Int) := by omega
        go_wp2_with fail
        go_roundw
        case rel => exact ⟨k + 1, by omega, by go_num, HCAT.out ▸ HW9.out, HT9.out, HCAT.out ▸ (by omega)⟩
        case measure => simp [intOf]; omega
    · have HEN := Lib.hid (show c.pool.take k = c.pool from List.take_of_length_le (by have := N1.out; omega))
      rw [HEN.out] at HW hlen
      obtain ⟨LP, hLP⟩ : ∃ x, x = LH ++ c.pool.flatMap constB := ⟨_, rfl⟩
      rw [← hLP] at HW hlen
      have HLP := Lib.hid hLP
      have HL10 : Hid (LP.length ≤ 65536 + 0) := Lib.hid hlen
      clear hLP hlen HEN
      have HW10 := HW
      have HT10 := HTW
      have HBc10 := HBcW
      have hbW10 := hbr
      have cc0 := HBcW.out.cell 0
      have cc1 := HBcW.out.cell 1
      have cc2 := HBcW.out.cell 2
      have cc3 := HBcW.out.cell 3
      have cc4 := HBcW.out.cell 4
      have cc5 := HBcW.out.cell 5
      have cc6 := HBcW.out.cell 6
      have cc7 := HBcW.out.cell 7
      have cc8 := HBcW.out.cell 8
      simp only [List.getElem?_toArray, List.getElem?_cons_succ, List.getElem?_cons_zero] at cc0 cc1 cc2 cc3 cc4 cc5 cc6 cc7 cc8
      clear HW HTW HBcW hbr
      have C := ref4_twoN base (LP) u5 [c.access, c.this, c.super, (nI : Int)] wr HW10.out hbW10 (by have := HL10.out; simp only [List.length_cons, List.length_nil]; omega)
      go_wp2_with fail
      refine C.mono ?_
      rintro e w11 ⟨v11, rfl, h6, h7⟩
      have HW11 := Lib.hid h6
      have HT11 := Lib.hid (HT10.out.trans h7)
      have HBc11 := Lib.hid (h7.blk HBc10.out (fun e => e) (by decide))
      have hbW11 : base ≤ w11.heap.size := by have := h7.size; omega
      have HL11 : Hid ((LP ++ twoB [c.access, c.this, c.super, (nI : Int)]).length ≤ 65536 + 8) := Lib.hid (by have := HL10.out; simp only [List.length_append, twoB_len, beB_length, List.length_cons, List.length_nil] at this ⊢; omega)
      clear h6 h7 C
      have cc0 := HBc11.out.cell 0
      have cc1 := HBc11.out.cell 1
      have cc2 := HBc11.out.cell 2
      have cc3 := HBc11.out.cell 3
      have cc4 := HBc11.out.cell 4
      have cc5 := HBc11.out.cell 5
      have cc6 := HBc11.out.cell 6
      have cc7 := HBc11.out.cell 7
      have cc8 := HBc11.out.cell 8
      simp only [List.getElem?_toArray, List.getElem?_cons_succ, List.getElem?_cons_zero] at cc0 cc1 cc2 cc3 cc4 cc5 cc6 cc7 cc8
      have C := ref4_twoR base (LP ++ twoB [c.access, c.this, c.super, (nI : Int)]) v11 c.ifaces nI N2.out (.slice aI nI kI) w11 HW11.out hbW11 (HII.out.kept (Kept.trans K1.out (BK.out _ HT11.out))) (fun h0 k hk => by have := rd_blk HII.out (by decide) h0 k hk; have := K1.out.size; have := HBS.out; omega) (by have := HL11.out; have := N2.out; omega)
      go_wp2_with fail
      refine C.mono ?_
      rintro e w12 ⟨v12, rfl, h6, h7⟩
      have HW12 := Lib.hid h6
      have HT12 := Lib.hid (HT11.out.trans h7)
      have HBc12 := Lib.hid (h7.blk HBc11.out (fun e => e) (by decide))
      have hbW12 : base ≤ w12.heap.size := by have := h7.size; omega
      have HL12 : Hid ((LP ++ twoB [c.access, c.this, c.super, (nI : Int)] ++ twoB c.ifaces).length ≤ 65536 + 136) := Lib.hid (by have := HL11.out; have q2 := N2.out; simp only [List.length_append, twoB_len, beB_length, List.length_cons, List.length_nil] at this ⊢; omega)
      clear h6 h7 C
      have cc0 := HBc12.out.cell 0
      have cc1 := HBc12.out.cell 1
      have cc2 := HBc12.out.cell 2
      have cc3 := HBc12.out.cell 3
      have cc4 := HBc12.out.cell 4
      have cc5 := HBc12.out.cell 5
      have cc6 := HBc12.out.cell 6
      have cc7 := HBc12.out.cell 7
      have cc8 := HBc12.out.cell 8
      simp only [List.getElem?_toArray, List.getElem?_cons_succ, List.getElem?_cons_zero] at cc0 cc1 cc2 cc3 cc4 cc5 cc6 cc7 cc8
      have C := ref4_twoN base (LP ++ twoB [c.access, c.this, c.super, (nI : Int)] ++ twoB c.ifaces) v12 [(nF : Int)] w12 HW12.out hbW12 (by have := HL12.out; simp only [List.length_cons, List.length_nil]; omega)
      go_wp2_with fail
      refine C.mono ?_
      rintro e w13 ⟨v13, rfl, h6, h7⟩
      have HW13 := Lib.hid h6
      have HT13 := Lib.hid (HT12.out.trans h7)
      have HBc13 := Lib.hid (h7.blk HBc12.out (fun e => e) (by decide))
      have hbW13 : base ≤ w13.heap.size := by have := h7.size; omega
      have HL13 : Hid ((LP ++ twoB [c.access, c.this, c.super, (nI : Int)] ++ twoB c.ifaces ++ twoB [(nF : Int)]).length ≤ 65536 + 138) := Lib.hid (by have := HL12.out; simp only [List.length_append, twoB_len, beB_length, List.length_cons, List.length_nil] at this ⊢; omega)
      clear h6 h7 C
      have cc0 := HBc13.out.cell 0
      have cc1 := HBc13.out.cell 1
      have cc2 := HBc13.out.cell 2
      have cc3 := HBc13.out.cell 3
      have cc4 := HBc13.out.cell 4
      have cc5 := HBc13.out.cell 5
      have cc6 := HBc13.out.cell 6
      have cc7 := HBc13.out.cell 7
      have cc8 := HBc13.out.cell 8
      simp only [List.getElem?_toArray, List.getElem?_cons_succ, List.getElem?_cons_zero] at cc0 cc1 cc2 cc3 cc4 cc5 cc6 cc7 cc8
      have C := ref4_named c mv _ _ _ _ w13 (HC.out.kept (Kept.trans HK.out (Kept.trans K1.out (BK.out _ HT13.out)))) valueS _ rfl
      rw [← N1.out, ← N2.out, ← N3.out, ← N4.out] at C
      obtain ⟨nv, hz⟩ : ∃ z : Int, z = ((namedC c.pool valueS : Nat) : Int) := ⟨_, rfl⟩
      rw [← hz] at C
      have HZnv := Lib.hid hz
      clear hz
      go_wp2_with fail
      refine C.mono ?_
      rintro e w14 ⟨rfl, hkn⟩
      obtain ⟨v14, hvj⟩ : ∃ x, x = v13 := ⟨_, rfl⟩
      have HW14 : Hid (BW base (LP ++ twoB [c.access, c.this, c.super, (nI : Int)] ++ twoB c.ifaces ++ twoB [(nF : Int)]) v14 w14) := Lib.hid (hvj ▸ HW13.out.kept hkn)
      rw [← hvj]
      clear hvj
      have HT14 := Lib.hid (HT13.out.trans (TY.of_kept hkn))
      have HBc14 := Lib.hid (HBc13.out.kept hkn)
      have hbW14 : base ≤ w14.heap.size := by have := hkn.size; omega
      have HL14 := HL13
      clear C hkn
      have cc0 := HBc14.out.cell 0
      have cc1 := HBc14.out.cell 1
      have cc2 := HBc14.out.cell 2
      have cc3 := HBc14.out.cell 3
      have cc4 := HBc14.out.cell 4
      have cc5 := HBc14.out.cell 5
      have cc6 := HBc14.out.cell 6
      have cc7 := HBc14.out.cell 7
      have cc8 := HBc14.out.cell 8
      simp only [List.getElem?_toArray, List.getElem?_cons_succ, List.getElem?_cons_zero] at cc0 cc1 cc2 cc3 cc4 cc5 cc6 cc7 cc8
      go_wp2_with fail
      obtain ⟨LF, hLF⟩ : ∃ x, x = LP ++ twoB [c.access, c.this, c.super, (nI : Int)] ++ twoB c.ifaces ++ twoB [(nF : Int)] := ⟨_, rfl⟩
      have HLF := Lib.hid hLF
      rw [← hLF] at HW14 HL14
      clear hLF hlt
      go_loopw [5, 8] (fun s5 s8 wr => ∃ k : Nat, k ≤ nF ∧ s8 = .int .i64 k ∧ BW base (LF ++ (c.fields.take k).flatMap (fieldB nv)) s5 wr ∧ TY (fun _ => False) base wz wr) (fun _ s8 _ => nF - (intOf s8).toNat)
      case atStart => exact ⟨0, Nat.zero_le _, rfl, by simpa using HW14.out, HT14.out⟩
      case round =>
        obtain ⟨k, hk, rfl, hw, hty⟩ := hrel
        have HW := Lib.hid hw
        have HTW := Lib.hid hty
        have hbr : base ≤ wr.heap.size := by have := hty.size; have := HBS.out; omega
        have HBcW := Lib.hid (hty.blk HBcz.out (fun e => e) (by decide))
        have KW := Lib.hid (Kept.trans K1.out (BK.out _ hty))
        have cc7 := HBcW.out.cell 7
        simp only [List.getElem?_toArray, List.getElem?_cons_succ, List.getElem?_cons_zero] at cc7
        clear hw hty
        by_cases hlt : k < nF
        · skip
          obtain ⟨x, hx⟩ : ∃ x, c.fields[k]? = some x := ⟨_, List.getElem?_eq_getElem (by have := N3.out; omega)⟩
          obtain ⟨b1, o1, d1, hv1, e0, e1, e2, e3⟩ := field_cells N3.out (HFF.out.kept KW.out) hx
          simp only [Value.slice.injEq] at hv1
          obtain ⟨rfl, -, rfl⟩ := hv1
          have hkI : (k : Int) < (nF : Int) := by omega
          have h0I : (0 : Int) ≤ (k : Int) := by omega
          have HX := Lib.hid hx
          clear hx
          obtain ⟨LC, hLC⟩ : ∃ y, y = LF ++ (c.fields.take k).flatMap (fieldB nv) := ⟨_, rfl⟩
          rw [← hLC] at HW
          have HL20 : Hid (LC.length ≤ 70000 + 0) := Lib.hid (by
            have q1 := flat_le (f := fieldB nv) 16 (fieldB_len nv) (c.fields.take k)
            have q2 := HL14.out
            have q3 : (c.fields.take k).length ≤ 64 := by rw [List.length_take]; omega
            rw [hLC, List.length_append]
            omega)
          have HCAT := Lib.hid (show LC ++ fieldB nv x = LF ++ (c.fields.take (k + 1)).flatMap (fieldB nv) by
            rw [hLC, List.append_assoc, List.take_add_one, HX.out, List.flatMap_append]
            simp)
          clear hLC
          go_upto_region 20 with fail
          have HBf20 := Lib.hid (Blk.new wr 51 #[.int .i64 x.access, .int .i64 x.name, .int .i64 x.desc, .int .i64 x.value])
          have hkn : Kept wr (wr.alloc (.cells #[.int .i64 x.access, .int .i64 x.name, .int .i64 x.desc, .int .i64 x.value] 51)) := (Below.refl _ wr).alloc (Nat.le_refl _) _
          have HW20 := Lib.hid (HW.out.kept hkn)
          have HT20 := Lib.hid (HTW.out.trans (TY.of_kept hkn))
          have HBc20 := Lib.hid (HBcW.out.kept hkn)
          have hbW20 : base ≤ (wr.alloc (.cells #[.int .i64 x.access, .int .i64 x.name, .int .i64 x.desc, .int .i64 x.value] 51)).heap.size := by have := hkn.size; omega
          clear hkn HW HTW HBcW
          generalize (wr.alloc (.cells #[.int .i64 x.access, .int .i64 x.name, .int .i64 x.desc, .int .i64 x.value] 51)) = w20 at *
          obtain ⟨v20, hv20⟩ : ∃ x, x = u5 := ⟨_, rfl⟩
          subst hv20
          have fc0 := HBf20.out.cell 0
          have fc1 := HBf20.out.cell 1
          have fc2 := HBf20.out.cell 2
          have fc3 := HBf20.out.cell 3
          simp only [List.getElem?_toArray, List.getElem?_cons_succ, List.getElem?_cons_zero] at fc0 fc1 fc2 fc3
          have C := ref4_twoN base (LC) v20 [x.access, x.name, x.desc] w20 HW20.out hbW20 (by have := HL20.out; simp only [List.length_cons, List.length_nil]; omega)
          go_wp2_with fail
          refine C.mono ?_
          rintro e w21 ⟨v21, rfl, h6, h7⟩
          have HW21 := Lib.hid h6
          have HT21 := Lib.hid (HT20.out.trans h7)
          have HBc21 := Lib.hid (h7.blk HBc20.out (fun e => e) (by decide))
          have HBf21 := Lib.hid (h7.blk HBf20.out (fun e => e) (by decide))
          have hbW21 : base ≤ w21.heap.size := by have := h7.size; omega
          have HL21 : Hid ((LC ++ twoB [x.access, x.name, x.desc]).length ≤ 70000 + 6) := Lib.hid (by have := HL20.out; simp only [List.length_append, twoB_len, beB_length, List.length_cons, List.length_nil] at this ⊢; omega)
          clear h6 h7 C
          have fc3 := HBf21.out.cell 3
          simp only [List.getElem?_toArray, List.getElem?_cons_succ, List.getElem?_cons_zero] at fc3
          by_cases hv : x.value = 0
          · have HVV := Lib.hid hv
            rw [hv] at fc3
            clear hv
            have C := ref4_twoN base (LC ++ twoB [x.access, x.name, x.desc]) v21 [0] w21 HW21.out hbW21 (by have := HL21.out; simp only [List.length_cons, List.length_nil]; omega)
            go_wp2_with fail
            refine C.mono ?_
            rintro e w22 ⟨v22, rfl, h6, h7⟩
            have HW22 := Lib.hid h6
            have HT22 := Lib.hid (HT21.out.trans h7)
            have hbW22 : base ≤ w22.heap.size := by have := h7.size; omega
            have HL22 : Hid ((LC ++ twoB [x.access, x.name, x.desc] ++ twoB [0]).length ≤ 70000 + 8) := Lib.hid (by have := HL21.out; simp only [List.length_append, twoB_len, beB_length, List.length_cons, List.length_nil] at this ⊢; omega)
            clear h6 h7 C
            go_wp2_with fail
            go_roundw
            case rel => exact ⟨k + 1, by omega, by go_num, (HCAT.out ▸ (by have h0 := HW22.out; simpa [fieldB, HVV.out, twoB, List.append_assoc] using h0)), HT22.out⟩
            case measure => simp [intOf]; omega
          have HVV := Lib.hid hv
          have hv1 : (x.value == 0) = false := by simpa using hv
          clear hv
          have C := ref4_twoN base (LC ++ twoB [x.access, x.name, x.desc]) v21 [1, nv] w21 HW21.out hbW21 (by have := HL21.out; simp only [List.length_cons, List.length_nil]; omega)
          go_wp2_with fail
          refine C.mono ?_
          rintro e w22 ⟨v22, rfl, h6, h7⟩
          have HW22 := Lib.hid h6
          have HT22 := Lib.hid (HT21.out.trans h7)
          have HBc22 := Lib.hid (h7.blk HBc21.out (fun e => e) (by decide))
          have HBf22 := Lib.hid (h7.blk HBf21.out (fun e => e) (by decide))
          have hbW22 : base ≤ w22.heap.size := by have := h7.size; omega
          have HL22 : Hid ((LC ++ twoB [x.access, x.name, x.desc] ++ twoB [1, nv]).length ≤ 70000 + 10) := Lib.hid (by have := HL21.out; simp only [List.length_append, twoB_len, beB_length, List.length_cons, List.length_nil] at this ⊢; omega)
          clear h6 h7 C
          have fc3 := HBf22.out.cell 3
          simp only [List.getElem?_toArray, List.getElem?_cons_succ, List.getElem?_cons_zero] at fc3
          have C := ref1_Put (2) 4 w22
          go_wp2_with fail
          refine C.mono ?_
          rintro e wp ⟨vx, rfl, hr, hkp⟩
          have HRp := Lib.hid hr
          have HWp := Lib.hid (HW22.out.kept hkp)
          have HTp := Lib.hid (HT22.out.trans (TY.of_kept hkp))
          have hbWp : base ≤ wp.heap.size := by have := hkp.size; omega
          have HBcp := Lib.hid (HBc22.out.kept hkp)
          have HBfp := Lib.hid (HBf22.out.kept hkp)
          clear hr hkp C
          go_wp2_with (at_builtin; refine wpl_appR _ elem_byte rfl (.tmp 101) (.tmp 102) rfl base v22 _ (List.map byteV _) rfl HWp.out _ _ _ rfl HRp.out (byteV_one _) (by have := HL22.out; rw [putL_4, beB_length]; omega) (by have := HL22.out; rw [putL_4, beB_length]; omega) hbWp _ rfl ?_; intro a7 c7 w23 ho7 hg7 hk7; obtain ⟨v23, hv7⟩ : ∃ v, v = Value.slice a7 ((LC ++ twoB [x.access, x.name, x.desc] ++ twoB [1, nv]).length + (putL (2) 4).length) c7 := ⟨_, rfl⟩; rw [← hv7] at ho7 ⊢; have HW23 : Hid (BW base (LC ++ twoB [x.access, x.name, x.desc] ++ twoB [1, nv] ++ beB 4 (2)) v23 w23) := Lib.hid (bw_app (X := putL (2) 4) ho7 rfl); have hty := (TY.of_row (G := (fun _ => False)) HWp.out (Touch.of_grown hg7 fun k hk => hk)); have HT23 := Lib.hid (HTp.out.trans hty); have HBc23 := Lib.hid (hty.blk HBcp.out (fun e => e) (by decide)); have HBf23 := Lib.hid (hty.blk HBfp.out (fun e => e) (by decide)); have hbW23 : base ≤ w23.heap.size := (by have := hty.size; omega); clear ho7 hg7 hk7 hv7 hty; have HL23 : Hid ((LC ++ twoB [x.access, x.name, x.desc] ++ twoB [1, nv] ++ beB 4 (2)).length ≤ 70000 + 14) := Lib.hid (by have := HL22.out; simp only [List.length_append, twoB_len, beB_length, List.length_cons, List.length_nil] at this ⊢; omega); have fc3 := HBf23.out.cell 3; simp only [List.getElem?_toArray, List.getElem?_cons_succ, List.getElem?_cons_zero] at fc3)
          have C := ref4_twoN base (LC ++ twoB [x.access, x.name, x.desc] ++ twoB [1, nv] ++ beB 4 (2)) v23 [x.value] w23 HW23.out hbW23 (by have := HL23.out; simp only [List.length_cons, List.length_nil]; omega)
          go_wp2_with fail
          refine C.mono ?_
          rintro e w24 ⟨v24, rfl, h6, h7⟩
          have HW24 := Lib.hid h6
          have HT24 := Lib.hid (HT23.out.trans h7)
          have HBc24 := Lib.hid (h7.blk HBc23.out (fun e => e) (by decide))
          have HBf24 := Lib.hid (h7.blk HBf23.out (fun e => e) (by decide))
          have hbW24 : base ≤ w24.heap.size := by have := h7.size; omega
          have HL24 : Hid ((LC ++ twoB [x.access, x.name, x.desc] ++ twoB [1, nv] ++ beB 4 (2) ++ twoB [x.value]).length ≤ 70000 + 16) := Lib.hid (by have := HL23.out; simp only [List.length_append, twoB_len, beB_length, List.length_cons, List.length_nil] at this ⊢; omega)
          clear h6 h7 C
          go_wp2_with fail
          go_roundw
          case rel => exact ⟨k + 1, by omega, by go_num, (HCAT.out ▸ (by have h0 := HW24.out; simpa [fieldB, HVV.out, twoB, List.append_assoc] using h0)), HT24.out⟩
          case measure => simp [intOf]; omega
        · have HEN := Lib.hid (show c.fields.take k = c.fields from List.take_of_length_le (by have := N3.out; omega))
          rw [HEN.out] at HW
          obtain ⟨LG, hLG⟩ : ∃ x, x = LF ++ c.fields.flatMap (fieldB nv) := ⟨_, rfl⟩
          rw [← hLG] at HW
          have HLG := Lib.hid hLG
          have HL40 : Hid (LG.length ≤ 70000 + 0) := Lib.hid (by
            have q1 := flat_le (f := fieldB nv) 16 (fieldB_len nv) c.fields
            have q2 := HL14.out
            have q3 := N3.out
            rw [hLG, List.length_append]
            omega)
          clear hLG HEN
          have HW40 := HW
          have HT40 := HTW
          have HBc40 := HBcW
          have hbW40 := hbr
          have cc0 := HBcW.out.cell 0
          have cc1 := HBcW.out.cell 1
          have cc2 := HBcW.out.cell 2
          have cc3 := HBcW.out.cell 3
          have cc4 := HBcW.out.cell 4
          have cc5 := HBcW.out.cell 5
          have cc6 := HBcW.out.cell 6
          have cc7 := HBcW.out.cell 7
          have cc8 := HBcW.out.cell 8
          simp only [List.getElem?_toArray, List.getElem?_cons_succ, List.getElem?_cons_zero] at cc0 cc1 cc2 cc3 cc4 cc5 cc6 cc7 cc8
          clear HW HTW HBcW hbr
          have C := ref4_twoN base (LG) u5 [(nM : Int)] wr HW40.out hbW40 (by have := HL40.out; simp only [List.length_cons, List.length_nil]; omega)
          go_wp2_with fail
          refine C.mono ?_
          rintro e w41 ⟨v41, rfl, h6, h7⟩
          have HW41 := Lib.hid h6
          have HT41 := Lib.hid (HT40.out.trans h7)
          have HBc41 := Lib.hid (h7.blk HBc40.out (fun e => e) (by decide))
          have hbW41 : base ≤ w41.heap.size := by have := h7.size; omega
          have HL41 : Hid ((LG ++ twoB [(nM : Int)]).length ≤ 70000 + 2) := Lib.hid (by have := HL40.out; simp only [List.length_append, twoB_len, beB_length, List.length_cons, List.length_nil] at this ⊢; omega)
          clear h6 h7 C
          have cc0 := HBc41.out.cell 0
          have cc1 := HBc41.out.cell 1
          have cc2 := HBc41.out.cell 2
          have cc3 := HBc41.out.cell 3
          have cc4 := HBc41.out.cell 4
          have cc5 := HBc41.out.cell 5
          have cc6 := HBc41.out.cell 6
          have cc7 := HBc41.out.cell 7
          have cc8 := HBc41.out.cell 8
          simp only [List.getElem?_toArray, List.getElem?_cons_succ, List.getElem?_cons_zero] at cc0 cc1 cc2 cc3 cc4 cc5 cc6 cc7 cc8
          have C := ref4_named c mv _ _ _ _ w41 (HC.out.kept (Kept.trans HK.out (Kept.trans K1.out (BK.out _ HT41.out)))) codeS _ rfl
          rw [← N1.out, ← N2.out, ← N3.out, ← N4.out] at C
          obtain ⟨nc, hz⟩ : ∃ z : Int, z = ((namedC c.pool codeS : Nat) : Int) := ⟨_, rfl⟩
          rw [← hz] at C
          have HZnc := Lib.hid hz
          clear hz
          go_wp2_with fail
          refine C.mono ?_
          rintro e w42 ⟨rfl, hkn⟩
          obtain ⟨v42, hvj⟩ : ∃ x, x = v41 := ⟨_, rfl⟩
          have HW42 : Hid (BW base (LG ++ twoB [(nM : Int)]) v42 w42) := Lib.hid (hvj ▸ HW41.out.kept hkn)
          rw [← hvj]
          clear hvj
          have HT42 := Lib.hid (HT41.out.trans (TY.of_kept hkn))
          have HBc42 := Lib.hid (HBc41.out.kept hkn)
          have hbW42 : base ≤ w42.heap.size := by have := hkn.size; omega
          have HL42 := HL41
          clear C hkn
          have cc0 := HBc42.out.cell 0
          have cc1 := HBc42.out.cell 1
          have cc2 := HBc42.out.cell 2
          have cc3 := HBc42.out.cell 3
          have cc4 := HBc42.out.cell 4
          have cc5 := HBc42.out.cell 5
          have cc6 := HBc42.out.cell 6
          have cc7 := HBc42.out.cell 7
          have cc8 := HBc42.out.cell 8
          simp only [List.getElem?_toArray, List.getElem?_cons_succ, List.getElem?_cons_zero] at cc0 cc1 cc2 cc3 cc4 cc5 cc6 cc7 cc8
          go_wp2_with fail
          obtain ⟨LM, hLM⟩ : ∃ x, x = LG ++ twoB [(nM : Int)] := ⟨_, rfl⟩
          have HLM := Lib.hid hLM
          rw [← hLM] at HW42 HL42
          clear hLM hlt
          go_loopw [5, 11] (fun s5 s11 wr => ∃ k : Nat, k ≤ nM ∧ s11 = .int .i64 k ∧ BW base (LM ++ (mv.take k).flatMap (fun x => methB nc x.1)) s5 wr ∧ TY (fun _ => False) base wz wr) (fun _ s11 _ => nM - (intOf s11).toNat)
          case atStart => exact ⟨0, Nat.zero_le _, rfl, by simpa using HW42.out, HT42.out⟩
          case round =>
            obtain ⟨k, hk, rfl, hw, hty⟩ := hrel
            have HW := Lib.hid hw
            have HTW := Lib.hid hty
            have hbr : base ≤ wr.heap.size := by have := hty.size; have := HBS.out; omega
            have HBcW := Lib.hid (hty.blk HBcz.out (fun e => e) (by decide))
            have KW := Lib.hid (Kept.trans K1.out (BK.out _ hty))
            have cc8 := HBcW.out.cell 8
            simp only [List.getElem?_toArray, List.getElem?_cons_succ, List.getElem?_cons_zero] at cc8
            clear hw hty
            have HALLM := Lib.hid (show ∀ x ∈ mv, x.1.traps.length ≤ 64 ∧ x.1.code.length ≤ 4096 from fun x hx => by
              have h0 := HFIT.out.long
              have h1 : x.1 ∈ c.methods := by rw [HMS.out]; exact List.mem_map.2 ⟨x, hx, rfl⟩
              constructor
              · rcases Nat.lt_or_ge 64 x.1.traps.length with hh | hh
                · exact absurd (.inr (.inr (.inr (.inr ⟨x.1, h1, .inl hh⟩)))) h0
                · exact hh
              · rcases Nat.lt_or_ge 4096 x.1.code.length with hh | hh
                · exact absurd (.inr (.inr (.inr (.inr ⟨x.1, h1, .inr hh⟩)))) h0
                · exact hh)
            have HLC : Hid ((LM ++ (mv.take k).flatMap (fun x => methB nc x.1)).length ≤ 1000000) := Lib.hid (by
              have q1 := meths_len nc (mv.take k) fun x hx => HALLM.out x (List.mem_of_mem_take hx)
              have q2 := HL42.out
              have q3 : (mv.take k).length ≤ 64 := by rw [List.length_take]; have := N4.out; omega
              rw [List.length_append]
              omega)
            by_cases hlt : k < nM
            · obtain ⟨⟨m, vc, vt⟩, hx⟩ : ∃ x, mv[k]? = some x := ⟨_, List.getElem?_eq_getElem (by have := N4.out; omega)⟩
              obtain ⟨b1, o1, d1, hv1, e0, e1, e2, e3, e4, e5, e6, e7⟩ := meth_cells N4.out (HMM.out.kept KW.out) hx
              have hrm := HRR.out _ (List.mem_of_getElem? hx)
              simp only [Value.slice.injEq] at hv1
              obtain ⟨rfl, -, rfl⟩ := hv1
              dsimp only at e0 e1 e2 e3 e4 e5 e6 e7 hrm
              obtain ⟨_, ac, kc, rfl, -⟩ := hrm.code
              obtain ⟨_, at_, kt, rfl, -⟩ := hrm.traps
              have hkI : (k : Int) < (nM : Int) := by omega
              have h0I : (0 : Int) ≤ (k : Int) := by omega
              have HX := Lib.hid hx
              have HRM := Lib.hid hrm
              have HAM := Lib.hid (HALLM.out _ (List.mem_of_getElem? hx))
              clear hx hrm
              obtain ⟨LC, hLC⟩ : ∃ y, y = LM ++ (mv.take k).flatMap (fun x => methB nc x.1) := ⟨_, rfl⟩
              rw [← hLC] at HW HLC
              have HCAT := Lib.hid (show LC ++ methB nc m = LM ++ (mv.take (k + 1)).flatMap (fun x => methB nc x.1) by
                rw [hLC, List.append_assoc, List.take_add_one, HX.out, List.flatMap_append]
                simp)
              clear hLC
              have C := ref4_method base LC u5 m _ _ nc wr 1000000 HW.out hbr HLC.out (by decide) (HRM.out.kept KW.out) (fun h0 k hk => by have := rd_blk HRM.out.code (by decide) h0 k hk; have := K1.out.size; have := HBS.out; omega) (fun h0 k hk => by have := rd_blk HRM.out.traps (by decide) h0 k hk; have := K1.out.size; have := HBS.out; omega) HAM.out.2 HAM.out.1
              obtain ⟨lc, hlc⟩ : ∃ lc, lc = m.code.length := ⟨_, rfl⟩
              obtain ⟨lt, hlt'⟩ : ∃ lt, lt = m.traps.length := ⟨_, rfl⟩
              rw [← hlc] at e6 C
              rw [← hlt'] at e7 C
              clear hlc hlt'
              go_wp2_with fail
              refine C.mono ?_
              rintro e w9 ⟨v9, rfl, h6, h7⟩
              have HW9 := Lib.hid h6
              have HT9 := Lib.hid (HTW.out.trans h7)
              clear h6 h7 C
              go_wp2_with fail
              go_roundw
              case rel => exact ⟨k + 1, by omega, by go_num, HCAT.out ▸ HW9.out, HT9.out⟩
              case measure => simp [intOf]; omega
            · have HEN := Lib.hid (show mv.take k = mv from List.take_of_length_le (by have := N4.out; omega))
              rw [HEN.out] at HW HLC
              have C := ref4_twoN base _ u5 [0] wr HW.out hbr (by have := HLC.out; simp only [List.length_cons, List.length_nil]; omega)
              obtain ⟨LZ, hLZ⟩ : ∃ y, y = LM ++ mv.flatMap (fun x => methB nc x.1) ++ twoB [0] := ⟨_, rfl⟩
              rw [← hLZ] at C
              have HALL := Lib.hid (show LZ = classB c by
                rw [hLZ, HLM.out, HLG.out, HLF.out, HLP.out, HLH.out]
                unfold classB
                rw [HMS.out, List.length_map, List.flatMap_map, HZnv.out, HZnc.out, N1.out, N2.out, N3.out, N4.out]
                simp [twoB, List.append_assoc])
              have HLZ := Lib.hid (show LZ.length ≤ 2000000 by have := HLC.out; rw [hLZ, List.length_append]; simp only [twoB_len, List.length_cons, List.length_nil]; omega)
              clear hLZ
              go_wp2_with fail
              refine C.mono ?_
              rintro e w9 ⟨v9, rfl, h6, h7⟩
              obtain ⟨a9, c9, rfl, -, -⟩ := own_slice h6
              have HW9 := Lib.hid h6
              have HT9 := Lib.hid (HTW.out.trans h7)
              have hln := HLZ.out
              clear h6 h7 C
              by_cases hbig : 65536 < LZ.length
              · have hbigI : (65536 : Int) < (LZ.length : Int) := by omega
                have HR := Lib.hid (write_long (c := c) HZ.out.symm (by rw [← HALL.out]; exact hbig))
                go_wp2_with fail
                go_returns
                exact ⟨.slice none 0 0, by rw [HR.out]; rfl, by rw [HR.out]; exact BW.nil _ _, Kept.trans HK.out (Kept.trans K1.out (BK.out _ HT9.out))⟩
              · have hbigI : ¬ (65536 : Int) < (LZ.length : Int) := by omega
                have HR := Lib.hid (write_all (c := c) HZ.out.symm (by rw [← HALL.out]; exact hbig))
                go_wp2_with fail
                go_returns
                exact ⟨_, by rw [HR.out]; rfl, by rw [HR.out]; have h0 := HW9.out; rw [HALL.out] at h0 ⊢; exact h0.mono (by have := HBS.out; have := K1.out.size; have := HK.out.size; omega), Kept.trans HK.out (Kept.trans K1.out (BK.out _ HT9.out))⟩
end Go.Proofs.Ytbalmfoboaapjaa
