/-
  The document's answer for emit by contract: method.
-/
import Derived.Test.YtbalmfoboaapjaaEr5
import Derived.Deep.RegionHeld2
namespace Go.Proofs.Ytbalmfoboaapjaa
set_option linter.unusedVariables false
set_option linter.unusedSimpArgs false
open Go.RowKit
set_option maxRecDepth 100000

theorem twoB_len (l : List Int) : (twoB l).length = 2 * l.length := flat_lenB 2 l
theorem flat_le {α : Type} {f : α → List UInt8} (n : Nat) (h : ∀ x, (f x).length ≤ n) : ∀ l : List α, (l.flatMap f).length ≤ n * l.length
  | [] => by simp
  | x :: l => by have h1 := h x; have h2 := flat_le n h l; rw [List.flatMap_cons, List.length_append, List.length_cons, Nat.mul_add]; omega
theorem len_app {L X : List UInt8} {n m : Nat} (h : L.length ≤ n) (k : X.length ≤ m) : (L ++ X).length ≤ n + m := by rw [List.length_append]; omega
theorem TY.rd {G : Nat → Prop} {base : Nat} {w w' : World} {sz n : Nat} {v : Value} {xs : List Value} (h : TY G base w w') (hv : 0 < n → ∀ k, v.ownBlock = some k → k < base) (hr : Rd w sz v n xs) (hg : 0 < n → ∀ k, v.ownBlock = some k → ¬ G k := by intro _ _ _ e; exact e) : Rd w' sz v n xs :=
  hr.touch h fun h0 k hk e => e.elim (hg h0 k hk) fun e => by have := hv h0 k hk; omega
set_option maxHeartbeats 16000000 in
theorem ref4_method (base : Nat) (L : List UInt8) (vb : Value) (m : MethC) (vc vt : Value) (code : Int) (w : World) (lim : Nat) (ho : BW base L vb w) (hbase : base ≤ w.heap.size) (hL : L.length ≤ lim) (hlim : lim ≤ 99990000000) (hr : MRd w m vc vt) (hne : 0 < m.code.length → ∀ k, vc.ownBlock = some k → k < base) (hnt : 0 < m.traps.length → ∀ k, vt.ownBlock = some k → k < base) (hc1 : m.code.length ≤ 4096) (ht1 : m.traps.length ≤ 64) :
    Calls Try.prog 28 #[vb, .agg (methV m vc vt).toArray, .int .i64 code] w (TwoY base (L ++ methB code m) w) := by
  obtain ⟨lc, hlc⟩ : ∃ lc, lc = m.code.length := ⟨_, rfl⟩
  obtain ⟨lt, hlt'⟩ : ∃ lt, lt = m.traps.length := ⟨_, rfl⟩
  have hrc := hr.code
  have hrt := hr.traps
  rw [← hlc] at hrc hne hc1
  rw [← hlt'] at hrt hnt ht1
  have HLC := Lib.hid hlc
  have HLT := Lib.hid hlt'
  have HNE := Lib.hid hne
  have HNT := Lib.hid hnt
  have HRc := Lib.hid hrc
  have HRt := Lib.hid hrt
  obtain ⟨_, ac, kc, rfl, -⟩ := hrc
  obtain ⟨_, at_, kt, rfl, -⟩ := hrt
  have hk : Kept w (w.alloc (.cells #[.int .i64 m.access, .int .i64 m.name, .int .i64 m.desc, .bool m.has, .int .i64 m.stack, .int .i64 m.locals, .slice ac lc kc, .slice at_ lt kt] 49)) := (Below.refl _ _).alloc (Nat.le_refl _) _
  have HW0 := Lib.hid (ho.kept hk)
  have HT0 := Lib.hid (TY.of_kept (G := (fun _ => False)) (base := base) hk)
  have hbW0 : base ≤ (w.alloc (.cells #[.int .i64 m.access, .int .i64 m.name, .int .i64 m.desc, .bool m.has, .int .i64 m.stack, .int .i64 m.locals, .slice ac lc kc, .slice at_ lt kt] 49)).heap.size := by have := hk.size; omega
  have HBm0 := Lib.hid (Blk.new w 49 #[.int .i64 m.access, .int .i64 m.name, .int .i64 m.desc, .bool m.has, .int .i64 m.stack, .int .i64 m.locals, .slice ac lc kc, .slice at_ lt kt])
  have HL0 := Lib.hid (show L.length ≤ lim + 0 by omega)
  obtain ⟨v0, hv0⟩ : ∃ v, v = vb := ⟨_, rfl⟩
  rw [← hv0] at HW0 ⊢
  clear hk ho hlc hlt' hne hnt hr hv0 hL
  change Calls Try.prog 28 #[v0, .agg #[.int .i64 m.access, .int .i64 m.name, .int .i64 m.desc, .bool m.has, .int .i64 m.stack, .int .i64 m.locals, .slice ac lc kc, .slice at_ lt kt], .int .i64 code] w _
  go_enter Try.func28, Try.ntmps28
  go_upto_region 1 with fail
  generalize (w.alloc (.cells #[.int .i64 m.access, .int .i64 m.name, .int .i64 m.desc, .bool m.has, .int .i64 m.stack, .int .i64 m.locals, .slice ac lc kc, .slice at_ lt kt] 49)) = w0 at *
  have mc0 := HBm0.out.cell 0
  have mc1 := HBm0.out.cell 1
  have mc2 := HBm0.out.cell 2
  have mc3 := HBm0.out.cell 3
  have mc4 := HBm0.out.cell 4
  have mc5 := HBm0.out.cell 5
  have mc6 := HBm0.out.cell 6
  have mc7 := HBm0.out.cell 7
  simp only [List.getElem?_toArray, List.getElem?_cons_succ, List.getElem?_cons_zero] at mc0 mc1 mc2 mc3 mc4 mc5 mc6 mc7
  have C := ref4_twoN base (L) v0 [m.access, m.name, m.desc] w0 HW0.out hbW0 (by have := HL0.out; simp only [List.length_cons, List.length_nil]; omega)
  go_wp2_with fail
  refine C.mono ?_
  rintro e w1 ⟨v1, rfl, h6, h7⟩
  have HW1 := Lib.hid h6
  have HT1 := Lib.hid (HT0.out.trans h7)
  have HBm1 := Lib.hid (h7.blk HBm0.out (fun e => e) (by decide))
  have hbW1 : base ≤ w1.heap.size := by have := h7.size; omega
  have HL1 : Hid ((L ++ twoB [m.access, m.name, m.desc]).length ≤ lim + 6) := Lib.hid (by have := HL0.out; simp only [List.length_append, twoB_len, beB_length, List.length_cons, List.length_nil] at this ⊢; omega)
  clear h6 h7 C
  have mc0 := HBm1.out.cell 0
  have mc1 := HBm1.out.cell 1
  have mc2 := HBm1.out.cell 2
  have mc3 := HBm1.out.cell 3
  have mc4 := HBm1.out.cell 4
  have mc5 := HBm1.out.cell 5
  have mc6 := HBm1.out.cell 6
  have mc7 := HBm1.out.cell 7
  simp only [List.getElem?_toArray, List.getElem?_cons_succ, List.getElem?_cons_zero] at mc0 mc1 mc2 mc3 mc4 mc5 mc6 mc7
  by_cases hh : m.has = true
  rotate_left
  · have hf : m.has = false := by cases hm : m.has <;> simp_all
    have HH := Lib.hid hf
    rw [hf] at mc3
    clear hf hh
    have C := ref4_twoN base (L ++ twoB [m.access, m.name, m.desc]) v1 [0] w1 HW1.out hbW1 (by have := HL1.out; simp only [List.length_cons, List.length_nil]; omega)
    go_wp2_with fail
    refine C.mono ?_
    rintro e w2 ⟨v2, rfl, h6, h7⟩
    have HW2 := Lib.hid h6
    have HT2 := Lib.hid (HT1.out.trans h7)
    have hbW2 : base ≤ w2.heap.size := by have := h7.size; omega
    have HL2 : Hid ((L ++ twoB [m.access, m.name, m.desc] ++ twoB [0]).length ≤ lim + 8) := Lib.hid (by have := HL1.out; simp only [List.length_append, twoB_len, beB_length, List.length_cons, List.length_nil] at this ⊢; omega)
    clear h6 h7 C
    go_wp2_with fail
    go_ret
    refine ⟨_, rfl, ?_, HT2.out⟩
    have h0 := HW2.out
    simpa [methB, HH.out, twoB, List.append_assoc] using h0
  have HH := Lib.hid hh
  rw [hh] at mc3
  clear hh
  have C := ref4_twoN base (L ++ twoB [m.access, m.name, m.desc]) v1 [1, code] w1 HW1.out hbW1 (by have := HL1.out; simp only [List.length_cons, List.length_nil]; omega)
  go_wp2_with fail
  refine C.mono ?_
  rintro e w2 ⟨v2, rfl, h6, h7⟩
  have HW2 := Lib.hid h6
  have HT2 := Lib.hid (HT1.out.trans h7)
  have HBm2 := Lib.hid (h7.blk HBm1.out (fun e => e) (by decide))
  have hbW2 : base ≤ w2.heap.size := by have := h7.size; omega
  have HL2 : Hid ((L ++ twoB [m.access, m.name, m.desc] ++ twoB [1, code]).length ≤ lim + 10) := Lib.hid (by have := HL1.out; simp only [List.length_append, twoB_len, beB_length, List.length_cons, List.length_nil] at this ⊢; omega)
  clear h6 h7 C
  have mc0 := HBm2.out.cell 0
  have mc1 := HBm2.out.cell 1
  have mc2 := HBm2.out.cell 2
  have mc3 := HBm2.out.cell 3
  have mc4 := HBm2.out.cell 4
  have mc5 := HBm2.out.cell 5
  have mc6 := HBm2.out.cell 6
  have mc7 := HBm2.out.cell 7
  simp only [List.getElem?_toArray, List.getElem?_cons_succ, List.getElem?_cons_zero] at mc0 mc1 mc2 mc3 mc4 mc5 mc6 mc7
  have C := ref1_Put (12 + (lc : Int) + 8 * (lt : Int)) 4 w2
  go_wp2_with fail
  refine C.mono ?_
  rintro e wp ⟨vx, rfl, hr, hkp⟩
  have HRp := Lib.hid hr
  have HWp := Lib.hid (HW2.out.kept hkp)
  have HTp := Lib.hid (HT2.out.trans (TY.of_kept hkp))
  have hbWp : base ≤ wp.heap.size := by have := hkp.size; omega
  have HBmp := Lib.hid (HBm2.out.kept hkp)
  clear hr hkp C
  go_wp2_with (at_builtin; refine wpl_appR _ elem_byte rfl (.tmp 27) (.tmp 37) rfl base v2 _ (List.map byteV _) rfl HWp.out _ _ _ rfl HRp.out (byteV_one _) (by have := HL2.out; rw [putL_4, beB_length]; omega) (by have := HL2.out; rw [putL_4, beB_length]; omega) hbWp _ rfl ?_; intro a7 c7 w3 ho7 hg7 hk7; obtain ⟨v3, hv7⟩ : ∃ v, v = Value.slice a7 ((L ++ twoB [m.access, m.name, m.desc] ++ twoB [1, code]).length + (putL (12 + (lc : Int) + 8 * (lt : Int)) 4).length) c7 := ⟨_, rfl⟩; rw [← hv7] at ho7 ⊢; have HW3 : Hid (BW base (L ++ twoB [m.access, m.name, m.desc] ++ twoB [1, code] ++ beB 4 (12 + (lc : Int) + 8 * (lt : Int))) v3 w3) := Lib.hid (bw_app (X := putL (12 + (lc : Int) + 8 * (lt : Int)) 4) ho7 rfl); have hty := (TY.of_row (G := (fun _ => False)) HWp.out (Touch.of_grown hg7 fun k hk => hk)); have HT3 := Lib.hid (HTp.out.trans hty); have HBm3 := Lib.hid (hty.blk HBmp.out (fun e => e) (by decide)); have hbW3 : base ≤ w3.heap.size := (by have := hty.size; omega); clear ho7 hg7 hk7 hv7 hty; have HL3 : Hid ((L ++ twoB [m.access, m.name, m.desc] ++ twoB [1, code] ++ beB 4 (12 + (lc : Int) + 8 * (lt : Int))).length ≤ lim + 14) := Lib.hid (by have := HL2.out; simp only [List.length_append, twoB_len, beB_length, List.length_cons, List.length_nil] at this ⊢; omega); have mc0 := HBm3.out.cell 0; have mc1 := HBm3.out.cell 1; have mc2 := HBm3.out.cell 2; have mc3 := HBm3.out.cell 3; have mc4 := HBm3.out.cell 4; have mc5 := HBm3.out.cell 5; have mc6 := HBm3.out.cell 6; have mc7 := HBm3.out.cell 7; simp only [List.getElem?_toArray, List.getElem?_cons_succ, List.getElem?_cons_zero] at mc0 mc1 mc2 mc3 mc4 mc5 mc6 mc7)
  have C := ref4_twoN base (L ++ twoB [m.access, m.name, m.desc] ++ twoB [1, code] ++ beB 4 (12 + (lc : Int) + 8 * (lt : Int))) v3 [m.stack, m.locals] w3 HW3.out hbW3 (by have := HL3.out; simp only [List.length_cons, List.length_nil]; omega)
  go_wp2_with fail
  refine C.mono ?_
  rintro e w4 ⟨v4, rfl, h6, h7⟩
  have HW4 := Lib.hid h6
  have HT4 := Lib.hid (HT3.out.trans h7)
  have HBm4 := Lib.hid (h7.blk HBm3.out (fun e => e) (by decide))
  have hbW4 : base ≤ w4.heap.size := by have := h7.size; omega
  have HL4 : Hid ((L ++ twoB [m.access, m.name, m.desc] ++ twoB [1, code] ++ beB 4 (12 + (lc : Int) + 8 * (lt : Int)) ++ twoB [m.stack, m.locals]).length ≤ lim + 18) := Lib.hid (by have := HL3.out; simp only [List.length_append, twoB_len, beB_length, List.length_cons, List.length_nil] at this ⊢; omega)
  clear h6 h7 C
  have mc0 := HBm4.out.cell 0
  have mc1 := HBm4.out.cell 1
  have mc2 := HBm4.out.cell 2
  have mc3 := HBm4.out.cell 3
  have mc4 := HBm4.out.cell 4
  have mc5 := HBm4.out.cell 5
  have mc6 := HBm4.out.cell 6
  have mc7 := HBm4.out.cell 7
  simp only [List.getElem?_toArray, List.getElem?_cons_succ, List.getElem?_cons_zero] at mc0 mc1 mc2 mc3 mc4 mc5 mc6 mc7
  have C := ref1_Put ((lc : Int)) 4 w4
  go_wp2_with fail
  refine C.mono ?_
  rintro e wp ⟨vx, rfl, hr, hkp⟩
  have HRp := Lib.hid hr
  have HWp := Lib.hid (HW4.out.kept hkp)
  have HTp := Lib.hid (HT4.out.trans (TY.of_kept hkp))
  have hbWp : base ≤ wp.heap.size := by have := hkp.size; omega
  have HBmp := Lib.hid (HBm4.out.kept hkp)
  clear hr hkp C
  go_upto_region 8 with (at_builtin; refine wpl_appR _ elem_byte rfl (.tmp 46) (.tmp 50) rfl base v4 _ (List.map byteV _) rfl HWp.out _ _ _ rfl HRp.out (byteV_one _) (by have := HL4.out; rw [putL_4, beB_length]; omega) (by have := HL4.out; rw [putL_4, beB_length]; omega) hbWp _ rfl ?_; intro a7 c7 w5 ho7 hg7 hk7; obtain ⟨v5, hv7⟩ : ∃ v, v = Value.slice a7 ((L ++ twoB [m.access, m.name, m.desc] ++ twoB [1, code] ++ beB 4 (12 + (lc : Int) + 8 * (lt : Int)) ++ twoB [m.stack, m.locals]).length + (putL ((lc : Int)) 4).length) c7 := ⟨_, rfl⟩; rw [← hv7] at ho7 ⊢; have HW5 : Hid (BW base (L ++ twoB [m.access, m.name, m.desc] ++ twoB [1, code] ++ beB 4 (12 + (lc : Int) + 8 * (lt : Int)) ++ twoB [m.stack, m.locals] ++ beB 4 ((lc : Int))) v5 w5) := Lib.hid (bw_app (X := putL ((lc : Int)) 4) ho7 rfl); have hty := (TY.of_row (G := (fun _ => False)) HWp.out (Touch.of_grown hg7 fun k hk => hk)); have HT5 := Lib.hid (HTp.out.trans hty); have HBm5 := Lib.hid (hty.blk HBmp.out (fun e => e) (by decide)); have hbW5 : base ≤ w5.heap.size := (by have := hty.size; omega); clear ho7 hg7 hk7 hv7 hty; have HL5 : Hid ((L ++ twoB [m.access, m.name, m.desc] ++ twoB [1, code] ++ beB 4 (12 + (lc : Int) + 8 * (lt : Int)) ++ twoB [m.stack, m.locals] ++ beB 4 ((lc : Int))).length ≤ lim + 22) := Lib.hid (by have := HL4.out; simp only [List.length_append, twoB_len, beB_length, List.length_cons, List.length_nil] at this ⊢; omega); have mc0 := HBm5.out.cell 0; have mc1 := HBm5.out.cell 1; have mc2 := HBm5.out.cell 2; have mc3 := HBm5.out.cell 3; have mc4 := HBm5.out.cell 4; have mc5 := HBm5.out.cell 5; have mc6 := HBm5.out.cell 6; have mc7 := HBm5.out.cell 7; simp only [List.getElem?_toArray, List.getElem?_cons_succ, List.getElem?_cons_zero] at mc0 mc1 mc2 mc3 mc4 mc5 mc6 mc7)
  have HRD := Lib.hid ((TY.rd HT5.out HNE.out HRc.out))
  go_wp2_with (at_builtin; go_loud (refine wpl_appR _ elem_byte rfl (.tmp 52) (.tmp 54) rfl base v5 _ (List.map byteV _) rfl HW5.out _ _ _ rfl HRD.out (byteV_one _) (by have := HL5.out; omega) (by have := HL5.out; omega) hbW5 _ rfl ?_; intro a7 c7 w6 ho7 hg7 hk7; obtain ⟨v6, hv7⟩ : ∃ v, v = Value.slice a7 ((L ++ twoB [m.access, m.name, m.desc] ++ twoB [1, code] ++ beB 4 (12 + (lc : Int) + 8 * (lt : Int)) ++ twoB [m.stack, m.locals] ++ beB 4 ((lc : Int))).length + lc) c7 := ⟨_, rfl⟩; rw [← hv7] at ho7 ⊢; have HW6 : Hid (BW base (L ++ twoB [m.access, m.name, m.desc] ++ twoB [1, code] ++ beB 4 (12 + (lc : Int) + 8 * (lt : Int)) ++ twoB [m.stack, m.locals] ++ beB 4 ((lc : Int)) ++ m.code) v6 w6) := Lib.hid (bw_app (X := m.code) ho7 (by have := HLC.out; omega)); have hty := (TY.of_row (G := (fun _ => False)) HW5.out (Touch.of_grown hg7 fun k hk => hk)); have HT6 := Lib.hid (HT5.out.trans hty); have HBm6 := Lib.hid (hty.blk HBm5.out (fun e => e) (by decide)); have hbW6 : base ≤ w6.heap.size := (by have := hty.size; omega); clear ho7 hg7 hk7 hv7 hty; have HL6 : Hid ((L ++ twoB [m.access, m.name, m.desc] ++ twoB [1, code] ++ beB 4 (12 + (lc : Int) + 8 * (lt : Int)) ++ twoB [m.stack, m.locals] ++ beB 4 ((lc : Int)) ++ m.code).length ≤ lim + 4118) := Lib.hid (by have q1 := HL5.out; have q2 := HLC.out; rw [List.length_append]; omega); have mc0 := HBm6.out.cell 0; have mc1 := HBm6.out.cell 1; have mc2 := HBm6.out.cell 2; have mc3 := HBm6.out.cell 3; have mc4 := HBm6.out.cell 4; have mc5 := HBm6.out.cell 5; have mc6 := HBm6.out.cell 6; have mc7 := HBm6.out.cell 7; simp only [List.getElem?_toArray, List.getElem?_cons_succ, List.getElem?_cons_zero] at mc0 mc1 mc2 mc3 mc4 mc5 mc6 mc7))
  have C := ref4_twoN base (L ++ twoB [m.access, m.name, m.desc] ++ twoB [1, code] ++ beB 4 (12 + (lc : Int) + 8 * (lt : Int)) ++ twoB [m.stack, m.locals] ++ beB 4 ((lc : Int)) ++ m.code) v6 [(lt : Int)] w6 HW6.out hbW6 (by have := HL6.out; simp only [List.length_cons, List.length_nil]; omega)
  go_wp2_with fail
  refine C.mono ?_
  rintro e w7 ⟨v7, rfl, h6, h7⟩
  have HW7 := Lib.hid h6
  have HT7 := Lib.hid (HT6.out.trans h7)
  have HBm7 := Lib.hid (h7.blk HBm6.out (fun e => e) (by decide))
  have hbW7 : base ≤ w7.heap.size := by have := h7.size; omega
  have HL7 : Hid ((L ++ twoB [m.access, m.name, m.desc] ++ twoB [1, code] ++ beB 4 (12 + (lc : Int) + 8 * (lt : Int)) ++ twoB [m.stack, m.locals] ++ beB 4 ((lc : Int)) ++ m.code ++ twoB [(lt : Int)]).length ≤ lim + 4120) := Lib.hid (by have := HL6.out; simp only [List.length_append, twoB_len, beB_length, List.length_cons, List.length_nil] at this ⊢; omega)
  clear h6 h7 C
  have mc0 := HBm7.out.cell 0
  have mc1 := HBm7.out.cell 1
  have mc2 := HBm7.out.cell 2
  have mc3 := HBm7.out.cell 3
  have mc4 := HBm7.out.cell 4
  have mc5 := HBm7.out.cell 5
  have mc6 := HBm7.out.cell 6
  have mc7 := HBm7.out.cell 7
  simp only [List.getElem?_toArray, List.getElem?_cons_succ, List.getElem?_cons_zero] at mc0 mc1 mc2 mc3 mc4 mc5 mc6 mc7
  go_wp2_with fail
  obtain ⟨LH, hLH⟩ : ∃ x, x = L ++ twoB [m.access, m.name, m.desc] ++ twoB [1, code] ++ beB 4 (12 + (lc : Int) + 8 * (lt : Int)) ++ twoB [m.stack, m.locals] ++ beB 4 ((lc : Int)) ++ m.code ++ twoB [(lt : Int)] := ⟨_, rfl⟩
  have HLH := Lib.hid hLH
  rw [← hLH] at HW7 HL7
  clear hLH
  have HBmE := HBm7
  have HTE := HT7
  have HLE := HL7
  go_loopw [0, 7] (fun s0 s7 wr => ∃ k : Nat, k ≤ lt ∧ s7 = .int .i64 k ∧ BW base (LH ++ (m.traps.take k).flatMap trapB) s0 wr ∧ TY (fun _ => False) base w7 wr) (fun _ s7 _ => lt - (intOf s7).toNat)
  case atStart => exact ⟨0, Nat.zero_le _, rfl, by simpa using HW7.out, TY.refl _ _ _⟩
  case round =>
    obtain ⟨k, hk, rfl, hw, hty⟩ := hrel
    have HW := Lib.hid hw
    have HTW := Lib.hid hty
    have HTA := Lib.hid (HTE.out.trans hty)
    have hbr : base ≤ wr.heap.size := by have := hty.size; omega
    have HBmW := Lib.hid (hty.blk HBmE.out (fun e => e) (by decide))
    have mc7 := HBmW.out.cell 7
    simp only [List.getElem?_toArray, List.getElem?_cons_succ, List.getElem?_cons_zero] at mc7
    clear hw hty
    by_cases hlt : k < lt
    · obtain ⟨y, hy⟩ : ∃ y, m.traps[k]? = some y := ⟨_, List.getElem?_eq_getElem (by have := HLT.out; omega)⟩
      obtain ⟨b2, o2, d2, hv1, e0, e1, e2, e3⟩ := trap_cell HLT.out (TY.rd HTA.out HNT.out HRt.out) hy
      simp only [Value.slice.injEq] at hv1
      obtain ⟨rfl, -, rfl⟩ := hv1
      have hkI : (k : Int) < (lt : Int) := by omega
      have h0I : (0 : Int) ≤ (k : Int) := by omega
      have HY := Lib.hid hy
      clear hy
      obtain ⟨LC, hLC⟩ : ∃ x, x = LH ++ (m.traps.take k).flatMap trapB := ⟨_, rfl⟩
      rw [← hLC] at HW
      have HLC2 := Lib.hid (show LC.length ≤ 99990010000 by
        have q1 := flat_le (f := trapB) 8 (fun _ => by simp [trapB, twoB_len]) (m.traps.take k)
        have q2 := HLE.out
        have q3 : (m.traps.take k).length ≤ 64 := by rw [List.length_take]; omega
        rw [hLC, List.length_append]
        omega)
      have HCAT := Lib.hid (show LC ++ twoB [y.fr, y.to, y.at_, y.ty] = LH ++ (m.traps.take (k + 1)).flatMap trapB by
        rw [hLC, List.append_assoc]
        congr 1
        rw [List.take_add_one, HY.out, List.flatMap_append]
        simp [trapB])
      clear hLC
      go_wp2_with fail
      go_region_held2 (fun w' => w'.cell? ⟨w.heap.size, 7, none⟩ = some (.slice (some ⟨b2, o2, none⟩) lt kt) ∧ w'.cell? ⟨b2, o2 + k * 4, none⟩ = some (.int .i64 y.fr) ∧ w'.cell? ⟨b2, o2 + k * 4 + 1, none⟩ = some (.int .i64 y.to) ∧ w'.cell? ⟨b2, o2 + k * 4 + 2, none⟩ = some (.int .i64 y.at_) ∧ w'.cell? ⟨b2, o2 + k * 4 + 3, none⟩ = some (.int .i64 y.ty)) (go_keep) (first
        | (go_at_call 25
           refine (ref4_twoN base LC u0 [y.fr, y.to, y.at_, y.ty] wr.drew (HW.out.kept (kept_drewN (Below.refl _ _) 1)) hbr (by have := HLC2.out; simp only [List.length_cons, List.length_nil]; omega)).mono ?_
           rintro e w9 ⟨v9, rfl, h6, h7⟩
           have HW9 := Lib.hid h6
           have HT9 := Lib.hid (HTW.out.trans (TY.trans ((TY.refl _ _ wr).drew) h7))
           have HTB := (HTA.out.trans (TY.trans ((TY.refl _ _ wr).drew) h7))
           have mc7 := ((TY.trans ((TY.refl _ _ wr).drew) h7).blk HBmW.out (fun e => e) (by decide)).cell 7
           simp only [List.getElem?_toArray, List.getElem?_cons_succ, List.getElem?_cons_zero] at mc7
           obtain ⟨b3, o3, d3, hv3, f0, f1, f2, f3⟩ := trap_cell HLT.out (TY.rd HTB HNT.out HRt.out) HY.out
           simp only [Value.slice.injEq, Option.some.injEq, Addr.mk.injEq] at hv3
           obtain ⟨⟨rfl, rfl, -⟩, -, -⟩ := hv3
           clear h6 h7 HTB)
        | (go_at_call 25
           refine (ref4_twoN base LC u0 [y.fr, y.to, y.at_, y.ty] wr HW.out hbr (by have := HLC2.out; simp only [List.length_cons, List.length_nil]; omega)).mono ?_
           rintro e w9 ⟨v9, rfl, h6, h7⟩
           have HW9 := Lib.hid h6
           have HT9 := Lib.hid (HTW.out.trans (TY.trans (TY.refl _ _ wr) h7))
           have HTB := (HTA.out.trans (TY.trans (TY.refl _ _ wr) h7))
           have mc7 := ((TY.trans (TY.refl _ _ wr) h7).blk HBmW.out (fun e => e) (by decide)).cell 7
           simp only [List.getElem?_toArray, List.getElem?_cons_succ, List.getElem?_cons_zero] at mc7
           obtain ⟨b3, o3, d3, hv3, f0, f1, f2, f3⟩ := trap_cell HLT.out (TY.rd HTB HNT.out HRt.out) HY.out
           simp only [Value.slice.injEq, Option.some.injEq, Addr.mk.injEq] at hv3
           obtain ⟨⟨rfl, rfl, -⟩, -, -⟩ := hv3
           clear h6 h7 HTB))
      all_goals
        (go_wp2_with fail
         go_roundw
         case rel => exact ⟨k + 1, by omega, by go_num, HCAT.out ▸ HW9.out, HT9.out⟩
         case measure => simp [intOf]; omega)
    · have HE := Lib.hid (show m.traps.take k = m.traps from List.take_of_length_le (by have := HLT.out; omega))
      have C := ref4_twoN base (LH ++ (m.traps.take k).flatMap trapB) u0 [0] wr HW.out hbr (by
        have q1 := flat_le (f := trapB) 8 (fun _ => by simp [trapB, twoB_len]) (m.traps.take k)
        have q2 := HLE.out
        have q3 : (m.traps.take k).length ≤ 64 := by rw [List.length_take]; omega
        rw [List.length_append]
        simp only [List.length_cons, List.length_nil]
        omega)
      go_wp2_with fail
      refine C.mono ?_
      rintro e w9 ⟨v9, rfl, h6, h7⟩
      have HW9 := Lib.hid h6
      have HT9 := Lib.hid (HTA.out.trans h7)
      clear h6 h7 C
      go_wp2_with fail
      go_ret
      refine ⟨_, rfl, ?_, HT9.out⟩
      have h0 := HW9.out
      rw [HE.out, HLH.out] at h0
      have e1 : 12 + (m.code.length : Int) + 8 * (m.traps.length : Int) = 12 + (lc : Int) + 8 * (lt : Int) := by have := HLC.out; have := HLT.out; omega
      have e2 : (m.code.length : Int) = (lc : Int) := by have := HLC.out; omega
      have e3 : (m.traps.length : Int) = (lt : Int) := by have := HLT.out; omega
      unfold methB codeB
      rw [if_pos HH.out, e1, e2, e3]
      simpa [twoB, List.append_assoc] using h0
end Go.Proofs.Ytbalmfoboaapjaa
