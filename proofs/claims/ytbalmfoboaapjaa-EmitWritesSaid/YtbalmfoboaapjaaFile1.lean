/-
  Package file by contract: what a reader is in memory; wrong, bytes, number, count.
-/
import Derived.Test.YtbalmfoboaapjaaProg
import Derived.Test.YtbalmfoboaapjaaTouch
import Derived.Test.YtbalmfoboaapjaaFile0
import Derived.Test.YtbalmfoboaapjaaWordBytes
import Derived.Deep.CutBlock
import Derived.IntWalk
namespace Go.Proofs.Ytbalmfoboaapjaa
set_option linter.unusedVariables false
set_option linter.unusedSimpArgs false
open Go.RowKit
set_option maxRecDepth 100000

def encC (c : ConstC) : List Value := [.int .i64 c.tag, .string c.text, .int .i64 c.num, .int .i64 c.a, .int .i64 c.b]
/-- A reader in memory: its block, its bytes, its constants. -/
structure RS (w : World) (g B : Nat) (L : List UInt8) (vb : Value) (pool : List ConstC) (vp : Value) (s : PS) : Prop where
  blk : Blk w g 75 #[vb, .int .i64 s.at_, .int .i64 s.most, .int .i64 s.named, vp]
  rb : Rd w 1 vb L.length (L.map byteV)
  nb : 0 < L.length → ∀ k, vb.ownBlock = some k → k ≠ g ∧ k < B
  rp : Rd w 5 vp pool.length (pool.flatMap encC)
  np : 0 < pool.length → ∀ k, vp.ownBlock = some k → k ≠ g ∧ k < B
  lt : g < B
  le : B ≤ w.heap.size
  len : L.length ≤ 65536
  plen : pool.length ≤ 1024
  at_ : s.at_ ≤ L.length
  most : 0 ≤ s.most ∧ s.most ≤ 4611686018427387904
  named : 0 ≤ s.named ∧ s.named ≤ 65536
theorem Rd.touch {w w' : World} {S : Nat → Prop} {sz n : Nat} {v : Value} {xs : List Value} (h : Rd w sz v n xs) (ht : Touch S w w') (hn : 0 < n → ∀ k, v.ownBlock = some k → ¬ S k) : Rd w' sz v n xs := by
  obtain ⟨hl, a, c, rfl, h1, h2, h3⟩ := h
  refine ⟨hl, a, c, rfl, h1, h2, fun hp => ?_⟩
  obtain ⟨b, off, rfl, hc⟩ := h3 hp
  exact ⟨b, off, rfl, fun j u hu => ht.cell (hc j u hu) (hn hp b rfl)⟩
section
variable {w w' : World} {g B : Nat} {L : List UInt8} {vb vp : Value} {pool : List ConstC} {s s' : PS}
theorem RS.touch (h : RS w g B L vb pool vp s) (ht : Touch (fun b => b = g) w w')
    (hb : Blk w' g 75 #[vb, .int .i64 s'.at_, .int .i64 s'.most, .int .i64 s'.named, vp]) (h1 : s'.at_ ≤ L.length) (h2 : 0 ≤ s'.most ∧ s'.most ≤ 4611686018427387904) (h3 : 0 ≤ s'.named ∧ s'.named ≤ 65536) : RS w' g B L vb pool vp s' :=
  ⟨hb, h.rb.touch ht fun hp k hk => (h.nb hp k hk).1, h.nb, h.rp.touch ht fun hp k hk => (h.np hp k hk).1, h.np, h.lt, Nat.le_trans h.le ht.size, h.len, h.plen, h1, h2, h3⟩
/-- Blocks from B on are no reader's. -/
theorem RS.far (h : RS w g B L vb pool vp s) {S : Nat → Prop} (ht : Touch S w w') (hS : ∀ k, S k → B ≤ k) : RS w' g B L vb pool vp s :=
  ⟨h.blk.touch ht fun e => by have := hS g e; have := h.lt; omega, h.rb.touch ht fun hp k hk e => by have := hS k e; have := (h.nb hp k hk).2; omega, h.nb, h.rp.touch ht fun hp k hk e => by have := hS k e; have := (h.np hp k hk).2; omega, h.np, h.lt, Nat.le_trans h.le ht.size, h.len, h.plen, h.at_, h.most, h.named⟩
theorem RS.alloc (h : RS w g B L vb pool vp s) (o : Obj) : RS (w.alloc o) g B L vb pool vp s := h.far (S := fun _ => False) ((Touch.refl _ w).alloc o) fun _ e => e.elim
theorem RS.drewN (h : RS w g B L vb pool vp s) (n : Nat) : RS (w.drewN n) g B L vb pool vp s := h.far (S := fun _ => False) ((Touch.refl _ w).drewN n) fun _ e => e.elim
theorem RS.setCell (h : RS w g B L vb pool vp s) {p : Addr} (hp : B ≤ p.block) (u : Value) : RS (w.setCell p u) g B L vb pool vp s := h.far (S := fun b => b = p.block) ((Touch.refl (fun b => b = p.block) w).setCell (.inl rfl) u) fun k e => e ▸ hp
end
/-- What gives up: the place, the error. -/
def stopV (p e : Int) : Value := .iface 71 (.agg #[.int .i64 p, .int .i64 e])
def BadR (S : Nat → Prop) (w : World) (p k : Int) (e : Ending) (w' : World) : Prop := e = .panicked [{ v := stopV p k, recovered := false }] ∧ Touch S w w'
/-- A call that reads: what it tells, or that it gives up. -/
def Ans {α : Type} (o : Out α) (S : Nat → Prop) (w : World) (G : α → PS → Ending → World → Prop) : Ending → World → Prop := match o with
  | .ok a s => G a s
  | .bad p k => BadR S w p k
theorem Ans.ok_ {α : Type} (a : α) (s : PS) (S : Nat → Prop) (w : World) (G : α → PS → Ending → World → Prop) : Ans (.ok a s) S w G = G a s := rfl
theorem Ans.bad_ {α : Type} (p k : Int) (S : Nat → Prop) (w : World) (G : α → PS → Ending → World → Prop) : Ans (.bad p k) S w G = BadR S w p k := rfl

theorem file_wrong (v : Value) (p k : Int) (w : World) :
    Calls Try.prog 39 #[v, .int .i64 p, .int .i64 k] w fun e w' => e = .panicked [{ v := stopV p k, recovered := false }] ∧ w = w' := by
  go_enter Try.func39, Try.ntmps39
  go_wp2
  exact ⟨rfl, rfl, rfl⟩

section
variable {w : World} {g B : Nat} {L : List UInt8} {vb vp : Value} {pool : List ConstC} {s : PS}
theorem RS.cells (h : RS w g B L vb pool vp s) : w.cell? ⟨g, 0, none⟩ = some vb ∧ w.cell? ⟨g, 1, none⟩ = some (.int .i64 s.at_) ∧ w.cell? ⟨g, 2, none⟩ = some (.int .i64 s.most) ∧ w.cell? ⟨g, 3, none⟩ = some (.int .i64 s.named) ∧ w.cell? ⟨g, 4, none⟩ = some vp :=
  ⟨h.blk.cell 0, h.blk.cell 1, h.blk.cell 2, h.blk.cell 3, h.blk.cell 4⟩
end
theorem bytesP_end {L : List UInt8} {n : Int} {s : PS} (h : (L.length : Int) - s.at_ < n) : bytesP L n s = .bad s.at_ 10 := by unfold bytesP; rw [if_pos h]
theorem bytesP_most {L : List UInt8} {n : Int} {s : PS} (h : ¬ (L.length : Int) - s.at_ < n) (h2 : s.most - s.at_ < n) : bytesP L n s = .bad s.named 25 := by unfold bytesP; rw [if_neg h, if_pos h2]
theorem bytesP_ok {L : List UInt8} {n : Int} {s : PS} (h : ¬ (L.length : Int) - s.at_ < n) (h2 : ¬ s.most - s.at_ < n) : bytesP L n s = .ok ((L.drop s.at_).take n.toNat) { s with at_ := s.at_ + n.toNat } := by unfold bytesP; rw [if_neg h, if_neg h2]
def BytesG (g B : Nat) (L : List UInt8) (vb : Value) (pool : List ConstC) (vp : Value) (w : World) (l : List UInt8) (s' : PS) (e : Ending) (w' : World) : Prop :=
  ∃ v, e = .returned v ∧ Rd w' 1 v l.length (l.map byteV) ∧ RS w' g B L vb pool vp s' ∧ Touch (fun b => b = g) w w' ∧ (0 < l.length → ∀ k, v.ownBlock = some k → k ≠ g ∧ k < B)

theorem add_none (b off i : Nat) : (⟨b, off, none⟩ : Addr).add i = ⟨b, off + i, none⟩ := by unfold Addr.add; split <;> simp_all
theorem bytes_fin {w : World} {g B : Nat} {L : List UInt8} {a : Option Addr} {c0 : Nat} {vp : Value} {pool : List ConstC} {s : PS} {m k : Nat} (H : RS w g B L (.slice a L.length c0) pool vp s) (hm : s.at_ + m ≤ L.length) (v : Value)
    (hv : v = .slice (a.map fun x => x.add s.at_) m m ∨ (m = 0 ∧ v = .slice a 0 0)) :
    BytesG g B L (.slice a L.length c0) pool vp w ((L.drop s.at_).take m) { s with at_ := s.at_ + m } (.returned v) ((w.drewN k).setCell ⟨g, 1, none⟩ (.int .i64 ((s.at_ : Int) + m))) := by
  have ht : Touch (fun b => b = g) w ((w.drewN k).setCell ⟨g, 1, none⟩ (.int .i64 ((s.at_ : Int) + m))) := ((Touch.refl (fun b => b = g) w).drewN k).setCell (p := ⟨g, 1, none⟩) (.inl rfl) _
  have hb : Blk ((w.drewN k).setCell ⟨g, 1, none⟩ (.int .i64 ((s.at_ : Int) + m))) g 75 #[.slice a L.length c0, .int .i64 ((s.at_ + m : Nat) : Int), .int .i64 s.most, .int .i64 s.named, vp] := by
    rw [Int.natCast_add]
    simpa using (H.blk.drewN k).set_ 1 (.int .i64 ((s.at_ : Int) + m))
  have hl : ((L.drop s.at_).take m).length = m := by rw [List.length_take, List.length_drop]; omega
  have hrd : Rd w 1 v m (((L.drop s.at_).take m).map byteV) := by
    obtain ⟨_, a', c', hv', h1, h2, h3⟩ := H.rb
    simp only [Value.slice.injEq] at hv'
    obtain ⟨rfl, -, rfl⟩ := hv'
    rcases Nat.eq_zero_or_pos m with h0 | h0
    · subst h0
      simp only [List.take_zero, List.map_nil]
      rcases hv with rfl | ⟨_, rfl⟩
      · exact ⟨rfl, _, 0, rfl, Nat.le_refl _, by omega, fun h => absurd h (by omega)⟩
      · exact ⟨rfl, _, 0, rfl, Nat.le_refl _, by omega, fun h => absurd h (by omega)⟩
    · rcases hv with rfl | ⟨h, _⟩
      · obtain ⟨b, off, rfl, hc⟩ := h3 (by omega)
        refine ⟨by rw [List.length_map, hl, Nat.mul_one], _, m, rfl, Nat.le_refl _, by have := H.len; omega, fun _ => ⟨b, off + s.at_, by simp [add_none], fun j u hu => ?_⟩⟩
        rw [List.getElem?_map] at hu
        have hj : j < m := by
          rcases Nat.lt_or_ge j m with h | h
          · exact h
          · rw [List.getElem?_eq_none (by rw [hl]; exact h)] at hu; cases hu
        rw [List.getElem?_take_of_lt hj, List.getElem?_drop, ← List.getElem?_map] at hu
        rw [Nat.add_assoc]
        exact hc _ _ hu
      · omega
  have hnv : 0 < m → ∀ k, v.ownBlock = some k → k ≠ g ∧ k < B := by
    intro hm0 k' hk'
    refine H.nb (by omega) k' ?_
    rcases hv with rfl | ⟨_, rfl⟩
    · cases a with
      | none => cases hk'
      | some ad =>
        have : (ad.add s.at_).block = ad.block := by unfold Addr.add; split <;> rfl
        simp only [Value.ownBlock, Option.map_some, this] at hk' ⊢
        exact hk'
    · omega
  exact ⟨v, rfl, by rw [hl]; exact hrd.touch ht fun hp k hk => (hnv hp k hk).1, H.touch ht hb hm H.most H.named, ht, by rw [hl]; exact hnv⟩
set_option maxHeartbeats 2000000 in
theorem file_bytes (g B : Nat) (L : List UInt8) (vb : Value) (pool : List ConstC) (vp : Value) (s : PS) (n : Int) (w : World) (h : RS w g B L vb pool vp s) (hn : 0 ≤ n ∧ n ≤ 4294967295) :
    Calls Try.prog 46 #[.pointer (some ⟨g, 0, none⟩), .int .i64 n] w (Ans (bytesP L n s) (fun b => b = g) w (BytesG g B L vb pool vp w)) := by
  obtain ⟨a, b0, c0, rfl, h1, h2, h3⟩ : ∃ a n c, vb = .slice a n c ∧ n = L.length ∧ n ≤ c ∧ c ≤ 9223372036854775807 := by
    obtain ⟨_, a, c, hv, h1, h2, _⟩ := h.rb
    exact ⟨a, _, c, hv, rfl, h1, h2⟩
  subst h1
  obtain ⟨c0', c1, c2, c3, c4⟩ := h.cells
  have hlen := h.len
  have hat := h.at_
  have hmost := h.most
  have hnamed := h.named
  obtain ⟨hn0, hn1⟩ := hn
  obtain ⟨hm0, hm1⟩ := hmost
  have H := Lib.hid h
  clear h
  by_cases t1 : (L.length : Int) - s.at_ < n
  · rw [bytesP_end t1, Ans.bad_]
    go_enter Try.func46, Try.ntmps46
    go_wp2_with fail
    go_quiet (fail)
    go_wp2_with fail
    refine (file_wrong _ _ _ _).mono ?_
    rintro e w1 ⟨rfl, rfl⟩
    exact ⟨rfl, rfl, (Touch.refl _ _).drewN _⟩
  by_cases t2 : s.most - s.at_ < n
  · rw [bytesP_most t1 t2, Ans.bad_]
    go_enter Try.func46, Try.ntmps46
    go_wp2_with fail
    go_quiet (fail)
    go_wp2_with fail
    go_quiet (fail)
    go_wp2_with fail
    refine (file_wrong _ _ _ _).mono ?_
    rintro e w1 ⟨rfl, rfl⟩
    exact ⟨rfl, rfl, (Touch.refl _ _).drewN _⟩
  · rw [bytesP_ok t1 t2, Ans.ok_]
    have f1 := H.out.blk.frozen 1
    obtain ⟨m, rfl⟩ : ∃ m : Nat, n = m := ⟨n.toNat, by omega⟩
    have b1 : (0 : Int) ≤ (s.at_ : Int) := by omega
    have b2 : (s.at_ : Int) ≤ (s.at_ : Int) + (m : Int) := by omega
    have b3 : (s.at_ : Int) + (m : Int) ≤ (L.length : Int) := by omega
    have b4 : (s.at_ : Int) + (m : Int) ≤ (c0 : Int) := by omega
    have HBM := Lib.hid (show s.at_ + m ≤ L.length by omega)
    go_enter Try.func46, Try.ntmps46
    go_wp2_with fail
    go_quiet (fail)
    go_wp2_with fail
    go_quiet (fail)
    go_wp2_with fail
    go_quiet (fail)
    go_wp2_with fail
    all_goals
      go_ret
      first
        | exact bytes_fin H.out HBM.out _ (.inl rfl)
        | exact bytes_fin H.out HBM.out _ (.inr ⟨by omega, rfl⟩)
        | (have hm0 : m = 0 := by omega
           subst hm0
           exact bytes_fin (m := 0) H.out HBM.out _ (.inr ⟨rfl, rfl⟩))
end Go.Proofs.Ytbalmfoboaapjaa
