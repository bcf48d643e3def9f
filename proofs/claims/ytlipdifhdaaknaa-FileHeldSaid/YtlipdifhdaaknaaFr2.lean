/-
  The document's own reader of class files by contract: what it is in memory; fail, num, bytes, count, attribute, skip.
-/
import Derived.Test.YtlipdifhdaaknaaProg
import Derived.Test.YtlipdifhdaaknaaFileD
import Derived.Test.YtlipdifhdaaknaaFr0
import Derived.Test.YtlipdifhdaaknaaApp
import Derived.Test.YtlipdifhdaaknaaWordGet
import Derived.Deep.RegionHeld2
namespace Go.Proofs.Ytlipdifhdaaknaa
open Go.RowKit
set_option maxRecDepth 100000

def rdV (vb vP vI vF vM : Value) (q : QS) : List Value := [vb, .int .i64 q.at_, .int .i64 q.e, .int .i64 q.bad, .int .i64 q.most, .int .i64 q.named, .int .i64 q.c.minor, .int .i64 q.c.major, vP, .int .i64 q.c.access, .int .i64 q.c.this, .int .i64 q.c.super, vI, vF, vM]
/-- The document's reader in memory. -/
structure RX (w : World) (g : Nat) (L : List UInt8) (vb vP vI vF vM : Value) (q : QS) : Prop where
  blk : Blk w g 54 (rdV vb vP vI vF vM q).toArray
  rb : Rd w 1 vb L.length (L.map byteV)
  nb : 0 < L.length → ∀ k, vb.ownBlock = some k → k ≠ g
  rp : Rd w 5 vP q.c.pool.length (q.c.pool.flatMap encC)
  np : 0 < q.c.pool.length → ∀ k, vP.ownBlock = some k → k ≠ g
  len : L.length ≤ 65536
  plen : q.c.pool.length ≤ 65536
  at_ : q.at_ ≤ L.length
  most : -4611686018427387904 ≤ q.most ∧ q.most ≤ 4611686018427387904
section
variable {w w' : World} {g : Nat} {L : List UInt8} {vb vP vI vF vM : Value} {q q' : QS}
theorem RX.touch (h : RX w g L vb vP vI vF vM q) (ht : Touch (fun b => b = g) w w') (hb : Blk w' g 54 (rdV vb vP vI vF vM q').toArray) (hc : q'.c.pool = q.c.pool) (ha : q'.at_ ≤ L.length) (hm : -4611686018427387904 ≤ q'.most ∧ q'.most ≤ 4611686018427387904) : RX w' g L vb vP vI vF vM q' :=
  ⟨hb, h.rb.touch ht fun hp k hk => h.nb hp k hk, h.nb, hc ▸ h.rp.touch ht fun hp k hk => h.np hp k hk, hc ▸ h.np, h.len, hc ▸ h.plen, ha, hm⟩
theorem RX.same (h : RX w g L vb vP vI vF vM q) {S : Nat → Prop} (ht : Touch S w w') (hS : ∀ k, S k → w.heap.size ≤ k) : RX w' g L vb vP vI vF vM q := by
  have lt : ∀ {sz n : Nat} {v : Value} {xs : List Value}, Rd w sz v n xs → 0 < n → 0 < sz → ∀ k, v.ownBlock = some k → k < w.heap.size := by
    rintro sz n v xs ⟨hl, a, c, rfl, -, -, h3⟩ hn hs k hk
    obtain ⟨b, off, rfl, hc⟩ := h3 hn
    have : 0 < xs.length := by rw [hl]; exact Nat.mul_pos hn hs
    have := World.block_lt_of_cell? w _ (hc 0 _ (List.getElem?_eq_getElem this))
    cases hk
    exact this
  exact ⟨h.blk.touch ht fun e => by have := hS _ e; have := h.blk.lt; omega, h.rb.touch ht fun hp k hk e => by have := hS k e; have := lt h.rb hp (by decide) k hk; omega, h.nb, h.rp.touch ht fun hp k hk e => by have := hS k e; have := lt h.rp hp (by decide) k hk; omega, h.np, h.len, h.plen, h.at_, h.most⟩
theorem RX.alloc (h : RX w g L vb vP vI vF vM q) (o : Obj) : RX (w.alloc o) g L vb vP vI vF vM q := h.same (S := fun _ => False) ((Touch.refl _ w).alloc o) fun _ e => e.elim
theorem RX.drewN (h : RX w g L vb vP vI vF vM q) (n : Nat) : RX (w.drewN n) g L vb vP vI vF vM q := h.same (S := fun _ => False) ((Touch.refl _ w).drewN n) fun _ e => e.elim
theorem RX.drew (h : RX w g L vb vP vI vF vM q) : RX w.drew g L vb vP vI vF vM q := h.drewN 1
theorem RX.cell (h : RX w g L vb vP vI vF vM q) (i : Nat) (u : Value) (hu : (rdV vb vP vI vF vM q)[i]? = some u) : w.cell? ⟨g, i, none⟩ = some u := by
  rw [h.blk.cell i, List.getElem?_toArray, hu]
theorem RX.c1 (h : RX w g L vb vP vI vF vM q) : w.cell? ⟨g, 1, none⟩ = some (.int .i64 q.at_) := h.cell 1 _ rfl
theorem RX.c2 (h : RX w g L vb vP vI vF vM q) : w.cell? ⟨g, 2, none⟩ = some (.int .i64 q.e) := h.cell 2 _ rfl
end
/-- What a part of the document's reader leaves behind. -/
def RG (g : Nat) (L : List UInt8) (vb vP vI vF vM : Value) (q : QS) (w w' : World) : Prop := RX w' g L vb vP vI vF vM q ∧ Touch (fun b => b = g) w w'
theorem fail_in {q : QS} (h : q.e = 0) (p k : Int) : failQ q p k = { q with e := k, bad := p } := by unfold failQ; rw [if_pos h]
theorem fail_out {q : QS} (h : ¬ q.e = 0) (p k : Int) : failQ q p k = q := by unfold failQ; rw [if_neg h]
theorem int_ne {a : Int} (h : ¬ a = 0) : (a == 0) = false := by simpa using h
theorem ref3_fail (g : Nat) (L : List UInt8) (vb vP vI vF vM : Value) (q : QS) (p k : Int) (w : World) (h : RX w g L vb vP vI vF vM q) :
    Calls Try.prog 18 #[.pointer (some ⟨g, 0, none⟩), .int .i64 p, .int .i64 k] w fun e w' => e = .returned (.tuple #[]) ∧ RG g L vb vP vI vF vM (failQ q p k) w w' := by
  have c2 := h.c2
  by_cases he : q.e = 0
  · rw [fail_in he]
    rw [he] at c2
    have f2 := h.blk.frozen 2
    have f3 := h.blk.frozen 3
    have c3 := h.cell 3 _ rfl
    have lg := h.blk.lt
    have H := Lib.hid h
    have HE := Lib.hid he
    clear h he
    go_enter Try.func18, Try.ntmps18
    go_wp2_with fail
    refine bodyPost_end (results_none rfl _ _ _) rfl ?_
    have ht : Touch (fun b => b = g) w ((w.setCell ⟨g, 2, none⟩ (.int .i64 k)).setCell ⟨g, 3, none⟩ (.int .i64 p)) := ((Touch.refl (fun b => b = g) w).setCell (p := ⟨g, 2, none⟩) (.inl rfl) _).setCell (p := ⟨g, 3, none⟩) (.inl rfl) _
    refine ⟨rfl, H.out.touch ht ?_ rfl H.out.at_ H.out.most, ht⟩
    simpa [rdV] using (H.out.blk.set_ 2 (.int .i64 k)).set_ 3 (.int .i64 p)
  · rw [fail_out he]
    have he' := int_ne he
    have H := Lib.hid h
    clear h he
    go_enter Try.func18, Try.ntmps18
    go_wp2_with fail
    exact bodyPost_end (results_none rfl _ _ _) rfl ⟨rfl, H.out, Touch.refl _ _⟩
theorem num_q0 {L : List UInt8} {n : Nat} {q : QS} (h : ¬ q.e = 0) : numQ L n q = (0, q) := by unfold numQ; rw [if_pos h]
theorem num_q1 {L : List UInt8} {n : Nat} {q : QS} (h : q.e = 0) (h1 : L.length < q.at_ + n) : numQ L n q = (0, failQ q q.at_ 10) := by unfold numQ; rw [if_neg (fun e => e h), if_pos h1]
theorem num_q2 {L : List UInt8} {n : Nat} {q : QS} (h : q.e = 0) (h1 : ¬ L.length < q.at_ + n) (h2 : q.most - q.at_ < n) : numQ L n q = (0, failQ q q.named 25) := by unfold numQ; rw [if_neg (fun e => e h), if_neg h1, if_pos h2]
theorem num_q3 {L : List UInt8} {n : Nat} {q : QS} (h : q.e = 0) (h1 : ¬ L.length < q.at_ + n) (h2 : ¬ q.most - q.at_ < n) : numQ L n q = ((beN ((L.drop q.at_).take n) : Int), { q with at_ := q.at_ + n }) := by unfold numQ; rw [if_neg (fun e => e h), if_neg h1, if_neg h2]
theorem num_lt (L : List UInt8) (n : Nat) (q : QS) : 0 ≤ (numQ L n q).1 ∧ (numQ L n q).1 < (256 ^ n : Nat) := by
  have h0 : 0 < 256 ^ n := Nat.pow_pos (by decide)
  unfold numQ
  split
  · simp only; omega
  · split
    · simp only; omega
    · split
      · simp only; omega
      · have h1 := beN_lt ((L.drop q.at_).take n)
        have h2 : ((L.drop q.at_).take n).length ≤ n := List.length_take_le _ _
        have h3 : 256 ^ ((L.drop q.at_).take n).length ≤ 256 ^ n := Nat.pow_le_pow_right (by decide) h2
        simp only; omega

set_option maxHeartbeats 2000000 in
theorem ref3_num (g : Nat) (L : List UInt8) (vb vP vI vF vM : Value) (q : QS) (n : Nat) (w : World) (h : RX w g L vb vP vI vF vM q) (hn : n = 1 ∨ n = 2 ∨ n = 4) (i : Int) (hi : i = n) :
    Calls Try.prog 17 #[.pointer (some ⟨g, 0, none⟩), .int .i64 i] w fun e w' => e = .returned (.int .i64 (numQ L n q).1) ∧ RG g L vb vP vI vF vM (numQ L n q).2 w w' := by
  subst hi
  have c2 := h.c2
  by_cases he : q.e = 0
  rotate_left
  · rw [num_q0 he]
    have he' := int_ne he
    have H := Lib.hid h
    clear h he
    go_enter Try.func17, Try.ntmps17
    go_wp2_with fail
    go_ret
    exact ⟨rfl, H.out, Touch.refl _ _⟩
  have HE := Lib.hid he
  rw [he] at c2
  clear he
  have c0 := h.cell 0 _ rfl
  have c1 := h.c1
  have c4 := h.cell 4 _ rfl
  have c5 := h.cell 5 _ rfl
  have hat := h.at_
  have hlen := h.len
  obtain ⟨hm0, hm1⟩ := h.most
  have H := Lib.hid h
  have G := fun m => ref1_Get L vb q.at_ n (w.drewN m) (H.out.drewN m).rb
  have hg0 : ¬ L.length < q.at_ + n → getU L q.at_ n = (beN ((L.drop q.at_).take n) : Int) := by
    intro h1
    unfold getU okAt
    rw [if_pos (by rw [decide_eq_true_iff]; omega)]
    rfl
  have hg1 : ¬ L.length < q.at_ + n → okAt L q.at_ n = true := fun h1 => by unfold okAt; rw [decide_eq_true_iff]; omega
  have hg2 : L.length < q.at_ + n → okAt L q.at_ n = false := fun h1 => by unfold okAt; rw [decide_eq_false_iff_not]; omega
  have hg3 : L.length < q.at_ + n → getU L q.at_ n = 0 := fun h1 => by unfold getU; rw [hg2 h1]; rfl
  clear h
  by_cases h1 : L.length < q.at_ + n
  · rw [num_q1 HE.out h1]
    have HO := Lib.hid (hg2 h1)
    have HG : ∀ m, Calls Try.prog 32 #[vb, .int .i64 q.at_, .int .i64 n] (w.drewN m) fun e w' => e = .returned (.tuple #[.int .i64 0, .bool false]) ∧ w.drewN m = w' := by
      intro m
      have := G m
      rw [hg2 h1, hg3 h1] at this
      exact this
    clear G hg0 hg1 hg2 hg3
    go_enter Try.func17, Try.ntmps17
    go_wp2_with fail
    go_quiet ((go_at_call 32; exact quiet_l (HG _)))
    go_wp2_with fail
    refine (ref3_fail g L vb vP vI vF vM q _ _ _ (H.out.drewN _)).mono ?_
    rintro e w1 ⟨rfl, hr, ht⟩
    have HR := Lib.hid (And.intro hr (((Touch.refl (fun b => b = g) w).drewN _).trans ht fun b hb => .inl hb))
    clear hr ht
    go_wp2_with fail
    go_ret
    exact ⟨rfl, HR.out⟩
  have HG : ∀ m, Calls Try.prog 32 #[vb, .int .i64 q.at_, .int .i64 n] (w.drewN m) fun e w' => e = .returned (.tuple #[.int .i64 (beN ((L.drop q.at_).take n)), .bool true]) ∧ w.drewN m = w' := by
    intro m
    have := G m
    rw [hg1 h1, hg0 h1] at this
    exact this
  clear G hg0 hg1 hg2 hg3
  by_cases h2 : q.most - q.at_ < n
  · rw [num_q2 HE.out h1 h2]
    go_enter Try.func17, Try.ntmps17
    go_wp2_with fail
    go_quiet ((go_at_call 32; exact quiet_l (HG _)))
    go_wp2_with fail
    go_quiet (fail)
    go_wp2_with fail
    refine (ref3_fail g L vb vP vI vF vM q _ _ _ (H.out.drewN _)).mono ?_
    rintro e w1 ⟨rfl, hr, ht⟩
    have HR := Lib.hid (And.intro hr (((Touch.refl (fun b => b = g) w).drewN _).trans ht fun b hb => .inl hb))
    clear hr ht
    go_wp2_with fail
    go_ret
    exact ⟨rfl, HR.out⟩
  rw [num_q3 HE.out h1 h2]
  have lg := H.out.blk.lt
  have f1 := H.out.blk.frozen 1
  go_enter Try.func17, Try.ntmps17
  go_wp2_with fail
  go_quiet ((go_at_call 32; exact quiet_l (HG _)))
  go_wp2_with fail
  go_quiet (fail)
  go_wp2_with fail
  go_ret
  have ht : ∀ m, Touch (fun b => b = g) w ((w.drewN m).setCell ⟨g, 1, none⟩ (.int .i64 ((q.at_ : Int) + n))) := fun m => ((Touch.refl (fun b => b = g) w).drewN m).setCell (p := ⟨g, 1, none⟩) (.inl rfl) _
  refine ⟨rfl, H.out.touch (ht _) ?_ rfl (by show q.at_ + n ≤ L.length; omega) H.out.most, ht _⟩
  have hB : ∀ m, Blk ((w.drewN m).setCell ⟨g, 1, none⟩ (.int .i64 ((q.at_ : Int) + n))) g 54 (rdV vb vP vI vF vM { q with at_ := q.at_ + n }).toArray := by
    intro m
    have := (H.out.blk.drewN m).set_ 1 (.int .i64 ((q.at_ : Int) + n))
    simpa [rdV] using this
  exact hB _
end Go.Proofs.Ytlipdifhdaaknaa
