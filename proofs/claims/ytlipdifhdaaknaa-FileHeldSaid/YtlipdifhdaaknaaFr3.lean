/-
  The document's own reader of class files by contract: bytes, count, attribute, skip.
-/
import Derived.Test.YtlipdifhdaaknaaFr2
namespace Go.Proofs.Ytlipdifhdaaknaa
open Go.RowKit
set_option maxRecDepth 100000

theorem bytes_q0 {L : List UInt8} {n : Int} {q : QS} (h : ¬ q.e = 0) : bytesQ L n q = ([], q) := by unfold bytesQ; rw [if_pos h]
theorem bytes_q1 {L : List UInt8} {n : Int} {q : QS} (h : q.e = 0) (h1 : (L.length : Int) - q.at_ < n) : bytesQ L n q = ([], failQ q q.at_ 10) := by unfold bytesQ; rw [if_neg (fun e => e h), if_pos h1]
theorem bytes_q2 {L : List UInt8} {n : Int} {q : QS} (h : q.e = 0) (h1 : ¬ (L.length : Int) - q.at_ < n) (h2 : q.most - q.at_ < n) : bytesQ L n q = ([], failQ q q.named 25) := by unfold bytesQ; rw [if_neg (fun e => e h), if_neg h1, if_pos h2]
theorem bytes_q3 {L : List UInt8} {n : Int} {q : QS} (h : q.e = 0) (h1 : ¬ (L.length : Int) - q.at_ < n) (h2 : ¬ q.most - q.at_ < n) : bytesQ L n q = ((L.drop q.at_).take n.toNat, { q with at_ := q.at_ + n.toNat }) := by unfold bytesQ; rw [if_neg (fun e => e h), if_neg h1, if_neg h2]
/-- What bytes hands back: a row of its own. -/
def BytesQ (g : Nat) (L : List UInt8) (vb vP vI vF vM : Value) (w : World) (r : List UInt8 × QS) (e : Ending) (w' : World) : Prop :=
  ∃ v, e = .returned v ∧ w'.ownsRow w.heap.size 5 1 v r.1.length (r.1.map byteV) ∧ RG g L vb vP vI vF vM r.2 w w'
theorem rd_slice {w : World} {L : List UInt8} {a : Option Addr} {c0 : Nat} (H : Rd w 1 (.slice a L.length c0) L.length (L.map byteV)) (hL : L.length ≤ 65536) (at_ m : Nat) (hm : at_ + m ≤ L.length) (v : Value) (hv : v = .slice (a.map fun x => x.add at_) m (c0 - at_) ∨ (m = 0 ∧ ∃ c, v = .slice a 0 c ∧ c ≤ 9223372036854775807)) :
    Rd w 1 v ((L.drop at_).take m).length (((L.drop at_).take m).map byteV) := by
  have hl : ((L.drop at_).take m).length = m := by rw [List.length_take, List.length_drop]; omega
  obtain ⟨_, a', c', hv', h1, h2, h3⟩ := H
  simp only [Value.slice.injEq] at hv'
  obtain ⟨rfl, -, rfl⟩ := hv'
  rw [hl]
  rcases Nat.eq_zero_or_pos m with h0 | h0
  · subst h0
    simp only [List.take_zero, List.map_nil]
    rcases hv with rfl | ⟨_, c, rfl, hc⟩
    · exact ⟨rfl, _, _, rfl, Nat.zero_le _, by omega, fun h => absurd h (by omega)⟩
    · exact ⟨rfl, _, c, rfl, Nat.zero_le _, hc, fun h => absurd h (by omega)⟩
  · rcases hv with rfl | ⟨h, _⟩
    · obtain ⟨b, off, rfl, hc⟩ := h3 (by omega)
      refine ⟨by rw [List.length_map, hl, Nat.mul_one], _, c0 - at_, rfl, by omega, by omega, fun _ => ⟨b, off + at_, by simp [add_none], fun j u hu => ?_⟩⟩
      rw [List.getElem?_map] at hu
      have hj : j < m := by
        rcases Nat.lt_or_ge j m with h | h
        · exact h
        · rw [List.getElem?_eq_none (by rw [hl]; exact h)] at hu; cases hu
      rw [List.getElem?_take_of_lt hj, List.getElem?_drop, ← List.getElem?_map] at hu
      rw [Nat.add_assoc]
      exact hc _ _ hu
    · omega
theorem cells_bytes {l : List UInt8} : ∀ u ∈ l.map byteV, u.oneCell' = true := by
  intro u hu
  obtain ⟨x, _, rfl⟩ := List.mem_map.1 hu
  rfl

set_option maxHeartbeats 2000000 in
theorem ref3_bytes (g : Nat) (L : List UInt8) (vb vP vI vF vM : Value) (q : QS) (n : Int) (w : World) (h : RX w g L vb vP vI vF vM q) (hn : 0 ≤ n ∧ n ≤ 4294967295) :
    Calls Try.prog 33 #[.pointer (some ⟨g, 0, none⟩), .int .i64 n] w (BytesQ g L vb vP vI vF vM w (bytesQ L n q)) := by
  obtain ⟨a, b0, c0, rfl, h1, h2, h3⟩ : ∃ a n c, vb = .slice a n c ∧ n = L.length ∧ n ≤ c ∧ c ≤ 9223372036854775807 := by
    obtain ⟨_, a, c, hv, h1, h2, _⟩ := h.rb
    exact ⟨a, _, c, hv, rfl, h1, h2⟩
  subst h1
  have c2 := h.c2
  by_cases he : q.e = 0
  rotate_left
  · rw [bytes_q0 he]
    have he' := int_ne he
    have H := Lib.hid h
    clear h he
    go_enter Try.func33, Try.ntmps33
    go_wp2_with fail
    go_ret
    exact ⟨_, rfl, World.ownsRow_nil _ _ _ _, H.out, Touch.refl _ _⟩
  have HE := Lib.hid he
  rw [he] at c2
  clear he
  have c0' := h.cell 0 _ rfl
  have c1 := h.c1
  have c4 := h.cell 4 _ rfl
  have c5 := h.cell 5 _ rfl
  have hat := h.at_
  have hlen := h.len
  obtain ⟨hm0, hm1⟩ := h.most
  obtain ⟨hn0, hn1⟩ := hn
  have H := Lib.hid h
  clear h
  by_cases h1 : (L.length : Int) - q.at_ < n
  · rw [bytes_q1 HE.out h1]
    go_enter Try.func33, Try.ntmps33
    go_wp2_with fail
    go_quiet (fail)
    go_wp2_with fail
    refine (ref3_fail g L _ vP vI vF vM q _ _ _ (H.out.drewN _)).mono ?_
    rintro e w1 ⟨rfl, hr, ht⟩
    have HR := Lib.hid (And.intro hr (((Touch.refl (fun b => b = g) w).drewN _).trans ht fun b hb => .inl hb))
    clear hr ht
    go_wp2_with fail
    go_ret
    exact ⟨_, rfl, World.ownsRow_nil _ _ _ _, HR.out⟩
  by_cases h2' : q.most - q.at_ < n
  · rw [bytes_q2 HE.out h1 h2']
    go_enter Try.func33, Try.ntmps33
    go_wp2_with fail
    go_quiet (fail)
    go_wp2_with fail
    go_quiet (fail)
    go_wp2_with fail
    refine (ref3_fail g L _ vP vI vF vM q _ _ _ (H.out.drewN _)).mono ?_
    rintro e w1 ⟨rfl, hr, ht⟩
    have HR := Lib.hid (And.intro hr (((Touch.refl (fun b => b = g) w).drewN _).trans ht fun b hb => .inl hb))
    clear hr ht
    go_wp2_with fail
    go_ret
    exact ⟨_, rfl, World.ownsRow_nil _ _ _ _, HR.out⟩
  rw [bytes_q3 HE.out h1 h2']
  obtain ⟨m, rfl⟩ : ∃ m : Nat, n = m := ⟨n.toNat, by omega⟩
  have lg := H.out.blk.lt
  have f1 := H.out.blk.frozen 1
  have b1 : (0 : Int) ≤ (q.at_ : Int) := by omega
  have b2 : (q.at_ : Int) ≤ (q.at_ : Int) + (m : Int) := by omega
  have b3 : (q.at_ : Int) + (m : Int) ≤ (L.length : Int) := by omega
  have b4 : (q.at_ : Int) + (m : Int) ≤ (c0 : Int) := by omega
  have HBM := Lib.hid (show q.at_ + m ≤ L.length by omega)
  have hl : ((L.drop q.at_).take m).length = m := by rw [List.length_take, List.length_drop]; omega
  have HL := Lib.hid hl
  clear hl
  go_enter Try.func33, Try.ntmps33
  go_wp2_with fail
  go_quiet (fail)
  go_wp2_with fail
  go_quiet (fail)
  go_wp2_with fail
  have hrd : ∀ (k : Nat), Rd (w.drewN k) 1 (.slice (if c0 = q.at_ then a else a.map fun x => x.add q.at_) (((q.at_ : Int) + m).toNat - q.at_) (c0 - q.at_)) m (((L.drop q.at_).take m).map byteV) := by
    intro k
    have e1 : ((q.at_ : Int) + m).toNat - q.at_ = m := by omega
    have hm := HBM.out
    rw [e1]
    by_cases hc : c0 = q.at_
    · have := rd_slice (H.out.drewN k).rb hlen q.at_ m hm (.slice a m (c0 - q.at_)) (.inr ⟨by omega, _, by rw [show m = 0 by omega], by omega⟩)
      rw [HL.out] at this
      rw [if_pos hc]
      exact this
    · have := rd_slice (H.out.drewN k).rb hlen q.at_ m hm _ (.inl rfl)
      rw [HL.out] at this
      rw [if_neg hc]
      exact this
  have HRD := Lib.hid hrd
  have hwr : IntKind.i64.wrap ((q.at_ : Int) + m) = q.at_ + m := IntWalk.i64_in _ (by omega)
  clear hrd
  go_region_law (first
    | (refine step_appR _ elem_byte rfl (.const (.slice none 0 0)) (.tmp 60) rfl w.heap.size (.slice none 0 0) 0 [] rfl (World.ownsRow_nil _ _ _ _) _ m (((L.drop q.at_).take m).map byteV) rfl (HRD.out _) cells_bytes (by omega) (by omega) (by simp) w.heap.size (by simp) ?_
       intro a1 d1 w1 ho hg hk
       rw [Nat.zero_add] at ho ⊢
       rw [List.nil_append] at ho
       rw [Nat.zero_add] at hk
       have HO := Lib.hid ho
       have HT := Lib.hid (Touch.of_grown (S := fun _ => False) hg (fun k hk => by cases hk))
       have HX := Lib.hid ((H.out.drewN _).same HT.out fun _ e => e.elim)
       have e1 := HX.out.c1
       have g1 := HX.out.blk.frozen 1
       have lg1 := HX.out.blk.lt
       have hk1 : ∀ k, (Value.slice a1 m d1).ownBlock = some k → w.heap.size ≤ k := fun k h => (hk k h).resolve_left (fun e => by cases e)
       have HK := Lib.hid hk1
       clear ho hg hk hk1))
  all_goals
    (clear HRD
     generalize (if c0 = q.at_ then a else Option.map (fun x => x.add q.at_) a) = aa
     have hb := HK.out
     have hT1 : Touch (fun b => b = g) w (w1.setCell ⟨g, 1, none⟩ (.int .i64 ((q.at_ : Int) + m))) := ((((Touch.refl (fun b => b = g) w).drewN _).trans HT.out fun b e => e.elim)).setCell (p := ⟨g, 1, none⟩) (.inl rfl) _
     have hT2 : Touch (fun b => b = g) w1 (w1.setCell ⟨g, 1, none⟩ (.int .i64 ((q.at_ : Int) + m))) := (Touch.refl _ _).one 1 _
     have hO : (w1.setCell ⟨g, 1, none⟩ (.int .i64 ((q.at_ : Int) + m))).ownsRow w.heap.size 5 1 (.slice a1 m d1) m (((L.drop q.at_).take m).map byteV) := hT2.own HO.out fun k hk => by have := hb k hk; omega
     have hX : RX (w1.setCell ⟨g, 1, none⟩ (.int .i64 ((q.at_ : Int) + m))) g L (.slice a L.length c0) vP vI vF vM { q with at_ := q.at_ + m } := HX.out.touch hT2 (by simpa [rdV] using HX.out.blk.set_ 1 (.int .i64 ((q.at_ : Int) + m))) rfl HBM.out HX.out.most
     have HF := Lib.hid (And.intro hO (And.intro hX hT1))
     clear hb hT1 hT2 hO hX
     go_wp2_with fail
     go_ret
     refine ⟨_, rfl, ?_, HF.out.2⟩
     show World.ownsRow _ _ _ _ _ ((L.drop q.at_).take m).length (((L.drop q.at_).take m).map byteV)
     rw [HL.out]
     exact HF.out.1)
end Go.Proofs.Ytlipdifhdaaknaa
