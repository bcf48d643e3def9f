/-
  The document's answer for emit by contract: constant.
-/
import Derived.Test.YtbalmfoboaapjaaEr4
namespace Go.Proofs.Ytbalmfoboaapjaa
set_option linter.unusedVariables false
set_option linter.unusedSimpArgs false
open Go.RowKit
set_option maxRecDepth 100000

theorem bw_snoc {base : Nat} {L : List UInt8} {t : Int} {a : Option Addr} {c : Nat} {w : World} (h : w.ownsRow base 5 1 (.slice a (L.length + 1) c) (L.length + 1) (L.map byteV ++ [.int .u8 (IntKind.u8.wrap t)])) : BW base (L ++ beB 1 t) (.slice a (L.length + 1) c) w := by
  rw [ep_by0] at h
  unfold BW
  simpa [beB] using h
theorem bw_app {base : Nat} {L X : List UInt8} {v : Value} {n : Nat} {w : World} (h : w.ownsRow base 5 1 v n (L.map byteV ++ X.map byteV)) (hn : n = L.length + X.length) : BW base (L ++ X) v w := by
  subst hn
  unfold BW
  rw [List.length_append, List.map_append]
  exact h
theorem bw_str {base : Nat} {L : List UInt8} {s : ByteArray} {v : Value} {w : World} (h : w.ownsRow base 5 1 v (L.length + s.size) (L.map byteV ++ Lib.strCells s)) : BW base (L ++ s.data.toList) v w :=
  bw_app (X := s.data.toList) h (by rw [Array.length_toList]; rfl)
set_option maxHeartbeats 4000000 in
theorem ref4_constant_1 (base : Nat) (L : List UInt8) (vb : Value) (t n a b : Int) (s : ByteArray) (w : World) (ho : BW base L vb w) (hbase : base ≤ w.heap.size) (hsz : L.length ≤ 99999000000) (hs : s.size ≤ 65535) (ht : t = 1) :
    Calls Try.prog 26 #[vb, .agg #[.int .i64 t, .string s, .int .i64 n, .int .i64 a, .int .i64 b]] w (TwoY base (L ++ constB ⟨t, s, n, a, b⟩) w) := by
  have hk : Kept w (w.alloc (.cells #[.int .i64 t, .string s, .int .i64 n, .int .i64 a, .int .i64 b] 41)) := (Below.refl _ _).alloc (Nat.le_refl _) _
  have HW := Lib.hid (ho.kept hk)
  have HT := Lib.hid (TY.of_kept (G := fun _ => False) (base := base) hk)
  have hbW : base ≤ (w.alloc (.cells #[.int .i64 t, .string s, .int .i64 n, .int .i64 a, .int .i64 b] 41)).heap.size := by have := hk.size; omega
  have HB := Lib.hid (Blk.new w 41 #[.int .i64 t, .string s, .int .i64 n, .int .i64 a, .int .i64 b])
  subst ht
  clear hk ho
  go_enter Try.func26, Try.ntmps26
  go_upto_region 1 with fail
  generalize (w.alloc (.cells #[.int .i64 1, .string s, .int .i64 n, .int .i64 a, .int .i64 b] 41)) = W at *
  have c0 := HB.out.cell 0
  have c1 := HB.out.cell 1
  have c2 := HB.out.cell 2
  have c3 := HB.out.cell 3
  have c4 := HB.out.cell 4
  simp only [List.getElem?_toArray, List.getElem?_cons_succ, List.getElem?_cons_zero] at c0 c1 c2 c3 c4
  have z1 : 0 < 0 + 1 := by omega
  go_wp2_with (at_builtin; refine wpl_pushH _ elem_byte rfl (.tmp 5) (.tmp 9) rfl base vb L.length (L.map byteV) rfl HW.out [.int .u8 _] _ _ rfl rfl rfl (byte_oneCell _) (by omega) (by omega) hbW ?_; intro v5 w5 ho5 hg5 hk5 hb5; obtain ⟨a5, c5, rfl, -, -⟩ := own_slice (n := L.length + 1) ho5; have HW5 := Lib.hid (bw_snoc (t := 1) ho5); have HT5 := Lib.hid (HT.out.trans (TY.of_row (G := fun _ => False) HW.out (Touch.of_grown hg5 fun k hk => hk))); have HB5 := Lib.hid ((TY.of_row (G := fun _ => False) HW.out (Touch.of_grown hg5 fun k hk => hk)).blk HB.out (fun e => e) (by decide)); have c0 := HB5.out.cell 0; have c1 := HB5.out.cell 1; have c2 := HB5.out.cell 2; have c3 := HB5.out.cell 3; have c4 := HB5.out.cell 4; simp only [List.getElem?_toArray, List.getElem?_cons_succ, List.getElem?_cons_zero] at c0 c1 c2 c3 c4; have hbW5 : base ≤ w5.heap.size := (by have := HT5.out.size; omega); clear ho5 hg5 hk5 hb5)
  have C := ref4_twoN base (L ++ beB 1 1) (.slice a5 (L.length + 1) c5) [(s.size : Int)] w5 HW5.out hbW5 (by rw [List.length_append, beB_length]; simp; omega)
  refine C.mono ?_
  rintro e w6 ⟨v6, rfl, h6, h7⟩
  have HW6 := Lib.hid h6
  have HT6 := Lib.hid (HT5.out.trans h7)
  have HB6 := Lib.hid (h7.blk HB5.out (fun e => e) (by decide))
  have c1 := HB6.out.cell 1
  simp only [List.getElem?_toArray, List.getElem?_cons_succ, List.getElem?_cons_zero] at c1
  have hbW6 : base ≤ w6.heap.size := by have := h7.size; omega
  have HL6 := Lib.hid (show (L ++ beB 1 1 ++ twoB [(s.size : Int)]).length = L.length + 3 by simp [twoB, beB_length])
  clear h6 h7 C
  go_wp2_with (at_builtin; refine wpl_appS _ elem_byte Try.underlying9 rfl (.tmp 21) (.tmp 23) rfl base v6 _ (List.map byteV _) rfl HW6.out s rfl (by rw [HL6.out]; omega) hbW6 _ rfl ?_; intro a7 c7 w7 ho7 hg7 hk7; have HW7 := Lib.hid (bw_str ho7); have HT7 := Lib.hid (HT6.out.trans (TY.of_row (G := fun _ => False) HW6.out (Touch.of_grown hg7 fun k hk => hk))); clear ho7 hg7 hk7)
  go_ret
  refine ⟨_, rfl, ?_, HT7.out⟩
  have h0 := HW7.out
  simpa [constB, twoB, List.append_assoc] using h0
set_option maxHeartbeats 4000000 in
theorem ref4_constant_3 (base : Nat) (L : List UInt8) (vb : Value) (t n a b : Int) (s : ByteArray) (w : World) (ho : BW base L vb w) (hbase : base ≤ w.heap.size) (hsz : L.length ≤ 99999000000) (hs : s.size ≤ 65535) (ht : t = 3) :
    Calls Try.prog 26 #[vb, .agg #[.int .i64 t, .string s, .int .i64 n, .int .i64 a, .int .i64 b]] w (TwoY base (L ++ constB ⟨t, s, n, a, b⟩) w) := by
  have hk : Kept w (w.alloc (.cells #[.int .i64 t, .string s, .int .i64 n, .int .i64 a, .int .i64 b] 41)) := (Below.refl _ _).alloc (Nat.le_refl _) _
  have HW := Lib.hid (ho.kept hk)
  have HT := Lib.hid (TY.of_kept (G := fun _ => False) (base := base) hk)
  have hbW : base ≤ (w.alloc (.cells #[.int .i64 t, .string s, .int .i64 n, .int .i64 a, .int .i64 b] 41)).heap.size := by have := hk.size; omega
  have HB := Lib.hid (Blk.new w 41 #[.int .i64 t, .string s, .int .i64 n, .int .i64 a, .int .i64 b])
  subst ht
  clear hk ho
  go_enter Try.func26, Try.ntmps26
  go_upto_region 1 with fail
  generalize (w.alloc (.cells #[.int .i64 3, .string s, .int .i64 n, .int .i64 a, .int .i64 b] 41)) = W at *
  have c0 := HB.out.cell 0
  have c1 := HB.out.cell 1
  have c2 := HB.out.cell 2
  have c3 := HB.out.cell 3
  have c4 := HB.out.cell 4
  simp only [List.getElem?_toArray, List.getElem?_cons_succ, List.getElem?_cons_zero] at c0 c1 c2 c3 c4
  have z1 : 0 < 0 + 1 := by omega
  go_wp2_with (at_builtin; refine wpl_pushH _ elem_byte rfl (.tmp 5) (.tmp 9) rfl base vb L.length (L.map byteV) rfl HW.out [.int .u8 _] _ _ rfl rfl rfl (byte_oneCell _) (by omega) (by omega) hbW ?_; intro v5 w5 ho5 hg5 hk5 hb5; obtain ⟨a5, c5, rfl, -, -⟩ := own_slice (n := L.length + 1) ho5; have HW5 := Lib.hid (bw_snoc (t := 3) ho5); have HT5 := Lib.hid (HT.out.trans (TY.of_row (G := fun _ => False) HW.out (Touch.of_grown hg5 fun k hk => hk))); have HB5 := Lib.hid ((TY.of_row (G := fun _ => False) HW.out (Touch.of_grown hg5 fun k hk => hk)).blk HB.out (fun e => e) (by decide)); have c0 := HB5.out.cell 0; have c1 := HB5.out.cell 1; have c2 := HB5.out.cell 2; have c3 := HB5.out.cell 3; have c4 := HB5.out.cell 4; simp only [List.getElem?_toArray, List.getElem?_cons_succ, List.getElem?_cons_zero] at c0 c1 c2 c3 c4; have hbW5 : base ≤ w5.heap.size := (by have := HT5.out.size; omega); clear ho5 hg5 hk5 hb5)
  have C := ref1_Put n 4 w5
  refine C.mono ?_
  rintro e w6 ⟨vx, rfl, hr, hk6⟩
  have HR6 := Lib.hid hr
  have HW6 := Lib.hid (HW5.out.kept hk6)
  have HT6 := Lib.hid (HT5.out.trans (TY.of_kept hk6))
  have hbW6 : base ≤ w6.heap.size := by have := hk6.size; omega
  have HL6 := Lib.hid (show (L ++ beB 1 3).length = L.length + 1 by simp [beB_length])
  clear hr hk6 C
  go_wp2_with (at_builtin; refine wpl_appR _ elem_byte rfl (.tmp 27) (.tmp 30) rfl base (.slice a5 (L.length + 1) c5) _ (List.map byteV _) rfl HW6.out _ _ _ rfl HR6.out (byteV_one _) (by rw [HL6.out, putL_4, beB_length]; omega) (by rw [HL6.out, putL_4, beB_length]; omega) hbW6 _ rfl ?_; intro a7 c7 w7 ho7 hg7 hk7; obtain ⟨v7, hv7⟩ : ∃ v, v = Value.slice a7 ((L ++ beB 1 3).length + (putL n 4).length) c7 := ⟨_, rfl⟩; rw [← hv7] at ho7 ⊢; have HW7 := Lib.hid (bw_app (X := putL n 4) ho7 rfl); have HT7 := Lib.hid (HT6.out.trans (TY.of_row (G := fun _ => False) HW6.out (Touch.of_grown hg7 fun k hk => hk))); clear ho7 hg7 hk7 hv7)
  go_ret
  refine ⟨_, rfl, ?_, HT7.out⟩
  have h0 := HW7.out
  rw [show L ++ constB ⟨3, s, n, a, b⟩ = L ++ beB 1 3 ++ putL n 4 by simp [constB, putL_4]]
  exact h0
set_option maxHeartbeats 4000000 in
theorem ref4_constant_7 (base : Nat) (L : List UInt8) (vb : Value) (t n a b : Int) (s : ByteArray) (w : World) (ho : BW base L vb w) (hbase : base ≤ w.heap.size) (hsz : L.length ≤ 99999000000) (hs : s.size ≤ 65535) (ht : t = 7) :
    Calls Try.prog 26 #[vb, .agg #[.int .i64 t, .string s, .int .i64 n, .int .i64 a, .int .i64 b]] w (TwoY base (L ++ constB ⟨t, s, n, a, b⟩) w) := by
  have hk : Kept w (w.alloc (.cells #[.int .i64 t, .string s, .int .i64 n, .int .i64 a, .int .i64 b] 41)) := (Below.refl _ _).alloc (Nat.le_refl _) _
  have HW := Lib.hid (ho.kept hk)
  have HT := Lib.hid (TY.of_kept (G := fun _ => False) (base := base) hk)
  have hbW : base ≤ (w.alloc (.cells #[.int .i64 t, .string s, .int .i64 n, .int .i64 a, .int .i64 b] 41)).heap.size := by have := hk.size; omega
  have HB := Lib.hid (Blk.new w 41 #[.int .i64 t, .string s, .int .i64 n, .int .i64 a, .int .i64 b])
  subst ht
  clear hk ho
  go_enter Try.func26, Try.ntmps26
  go_upto_region 1 with fail
  generalize (w.alloc (.cells #[.int .i64 7, .string s, .int .i64 n, .int .i64 a, .int .i64 b] 41)) = W at *
  have c0 := HB.out.cell 0
  have c1 := HB.out.cell 1
  have c2 := HB.out.cell 2
  have c3 := HB.out.cell 3
  have c4 := HB.out.cell 4
  simp only [List.getElem?_toArray, List.getElem?_cons_succ, List.getElem?_cons_zero] at c0 c1 c2 c3 c4
  have z1 : 0 < 0 + 1 := by omega
  go_wp2_with (at_builtin; refine wpl_pushH _ elem_byte rfl (.tmp 5) (.tmp 9) rfl base vb L.length (L.map byteV) rfl HW.out [.int .u8 _] _ _ rfl rfl rfl (byte_oneCell _) (by omega) (by omega) hbW ?_; intro v5 w5 ho5 hg5 hk5 hb5; obtain ⟨a5, c5, rfl, -, -⟩ := own_slice (n := L.length + 1) ho5; have HW5 := Lib.hid (bw_snoc (t := 7) ho5); have HT5 := Lib.hid (HT.out.trans (TY.of_row (G := fun _ => False) HW.out (Touch.of_grown hg5 fun k hk => hk))); have HB5 := Lib.hid ((TY.of_row (G := fun _ => False) HW.out (Touch.of_grown hg5 fun k hk => hk)).blk HB.out (fun e => e) (by decide)); have c0 := HB5.out.cell 0; have c1 := HB5.out.cell 1; have c2 := HB5.out.cell 2; have c3 := HB5.out.cell 3; have c4 := HB5.out.cell 4; simp only [List.getElem?_toArray, List.getElem?_cons_succ, List.getElem?_cons_zero] at c0 c1 c2 c3 c4; have hbW5 : base ≤ w5.heap.size := (by have := HT5.out.size; omega); clear ho5 hg5 hk5 hb5)
  have C := ref4_twoN base (L ++ beB 1 7) (.slice a5 (L.length + 1) c5) [a] w5 HW5.out hbW5 (by rw [List.length_append, beB_length]; simp; omega)
  refine C.mono ?_
  rintro e w6 ⟨v6, rfl, h6, h7⟩
  have HW6 := Lib.hid h6
  have HT6 := Lib.hid (HT5.out.trans h7)
  clear h6 h7 C
  go_wp2_with fail
  go_ret
  refine ⟨_, rfl, ?_, HT6.out⟩
  have h0 := HW6.out
  simpa [constB, twoB, List.append_assoc] using h0
set_option maxHeartbeats 4000000 in
theorem ref4_constant_9 (base : Nat) (L : List UInt8) (vb : Value) (t n a b : Int) (s : ByteArray) (w : World) (ho : BW base L vb w) (hbase : base ≤ w.heap.size) (hsz : L.length ≤ 99999000000) (hs : s.size ≤ 65535) (ht : 9 ≤ t ∧ t ≤ 12) :
    Calls Try.prog 26 #[vb, .agg #[.int .i64 t, .string s, .int .i64 n, .int .i64 a, .int .i64 b]] w (TwoY base (L ++ constB ⟨t, s, n, a, b⟩) w) := by
  have hk : Kept w (w.alloc (.cells #[.int .i64 t, .string s, .int .i64 n, .int .i64 a, .int .i64 b] 41)) := (Below.refl _ _).alloc (Nat.le_refl _) _
  have HW := Lib.hid (ho.kept hk)
  have HT := Lib.hid (TY.of_kept (G := fun _ => False) (base := base) hk)
  have hbW : base ≤ (w.alloc (.cells #[.int .i64 t, .string s, .int .i64 n, .int .i64 a, .int .i64 b] 41)).heap.size := by have := hk.size; omega
  have HB := Lib.hid (Blk.new w 41 #[.int .i64 t, .string s, .int .i64 n, .int .i64 a, .int .i64 b])
  have e1 : (t == 1) = false := by simp; omega
  have e3 : (t == 3) = false := by simp; omega
  have e7 : (t == 7) = false := by simp; omega
  have HT9 := Lib.hid ht
  clear ht
  clear hk ho
  go_enter Try.func26, Try.ntmps26
  go_upto_region 1 with fail
  generalize (w.alloc (.cells #[.int .i64 t, .string s, .int .i64 n, .int .i64 a, .int .i64 b] 41)) = W at *
  have c0 := HB.out.cell 0
  have c1 := HB.out.cell 1
  have c2 := HB.out.cell 2
  have c3 := HB.out.cell 3
  have c4 := HB.out.cell 4
  simp only [List.getElem?_toArray, List.getElem?_cons_succ, List.getElem?_cons_zero] at c0 c1 c2 c3 c4
  have z1 : 0 < 0 + 1 := by omega
  go_wp2_with (at_builtin; refine wpl_pushH _ elem_byte rfl (.tmp 5) (.tmp 9) rfl base vb L.length (L.map byteV) rfl HW.out [.int .u8 _] _ _ rfl rfl rfl (byte_oneCell _) (by omega) (by omega) hbW ?_; intro v5 w5 ho5 hg5 hk5 hb5; obtain ⟨a5, c5, rfl, -, -⟩ := own_slice (n := L.length + 1) ho5; have HW5 := Lib.hid (bw_snoc (t := t) ho5); have HT5 := Lib.hid (HT.out.trans (TY.of_row (G := fun _ => False) HW.out (Touch.of_grown hg5 fun k hk => hk))); have HB5 := Lib.hid ((TY.of_row (G := fun _ => False) HW.out (Touch.of_grown hg5 fun k hk => hk)).blk HB.out (fun e => e) (by decide)); have c0 := HB5.out.cell 0; have c1 := HB5.out.cell 1; have c2 := HB5.out.cell 2; have c3 := HB5.out.cell 3; have c4 := HB5.out.cell 4; simp only [List.getElem?_toArray, List.getElem?_cons_succ, List.getElem?_cons_zero] at c0 c1 c2 c3 c4; have hbW5 : base ≤ w5.heap.size := (by have := HT5.out.size; omega); clear ho5 hg5 hk5 hb5)
  have C := ref4_twoN base (L ++ beB 1 t) (.slice a5 (L.length + 1) c5) [a, b] w5 HW5.out hbW5 (by rw [List.length_append, beB_length]; simp; omega)
  refine C.mono ?_
  rintro e w6 ⟨v6, rfl, h6, h7⟩
  have HW6 := Lib.hid h6
  have HT6 := Lib.hid (HT5.out.trans h7)
  clear h6 h7 C
  go_wp2_with fail
  go_ret
  refine ⟨_, rfl, ?_, HT6.out⟩
  have h0 := HW6.out
  have q1 : ¬ t = 1 := by have := HT9.out; omega
  have q3 : ¬ t = 3 := by have := HT9.out; omega
  have q7 : ¬ t = 7 := by have := HT9.out; omega
  simpa [constB, q1, q3, q7, List.append_assoc] using h0
theorem ref4_constant (base : Nat) (L : List UInt8) (vb : Value) (c : ConstC) (w : World) (ho : BW base L vb w) (hbase : base ≤ w.heap.size) (hsz : L.length ≤ 99999000000) (hs : c.text.size ≤ 65535) (hk : kindC c.tag) :
    Calls Try.prog 26 #[vb, .agg (encC c).toArray] w (TwoY base (L ++ constB c) w) := by
  obtain ⟨t, s, n, a, b⟩ := c
  rcases hk with h | h | h | h
  · exact ref4_constant_1 base L vb t n a b s w ho hbase hsz hs h
  · exact ref4_constant_3 base L vb t n a b s w ho hbase hsz hs h
  · exact ref4_constant_7 base L vb t n a b s w ho hbase hsz hs h
  · exact ref4_constant_9 base L vb t n a b s w ho hbase hsz hs h
end Go.Proofs.Ytbalmfoboaapjaa
