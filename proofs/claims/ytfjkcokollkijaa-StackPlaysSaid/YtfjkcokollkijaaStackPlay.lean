/-
  Chapter 16's law StackPlays: both frames side by side, and one call of both.
-/
import Derived.Test.YtfjkcokollkijaaStackRef2
import Derived.Deep.RegionHeld2
namespace Go.Proofs.Ytfjkcokollkijaa
open Go.RowKit
set_option maxRecDepth 100000

theorem f_Pop_no (B : Nat) (w : World) (x : FrV) (g : Nat) (v u : Value) (s : ByteArray) (h : PFr B w (.pointer (some ⟨g, 0, none⟩)) x g v u) (hl : x.l.length ≤ 64) (hs : s.size ≤ 9223372036854775807) (hno : ¬ popOk s x.l) :
    Calls Try.prog 12 #[.pointer (some ⟨g, 0, none⟩), .string s] w fun e w' => e = .returned (.tuple #[.slice none 0 0, .bool false]) ∧ Kept w w' :=
  (stack_Pop B w x g v u s h hl hs).mono fun e w' h => by
    rcases h with ⟨_, h1, h2⟩ | ⟨h1, _⟩
    · exact ⟨h1, h2⟩
    · exact absurd h1 hno
theorem f_Pop_yes (B : Nat) (w : World) (x : FrV) (g : Nat) (v u : Value) (s : ByteArray) (h : PFr B w (.pointer (some ⟨g, 0, none⟩)) x g v u) (hl : x.l.length ≤ 64) (hs : s.size ≤ 9223372036854775807) (hyes : popOk s x.l) :
    Calls Try.prog 12 #[.pointer (some ⟨g, 0, none⟩), .string s] w fun e w' => ∃ t v', e = .returned (.tuple #[t, .bool true]) ∧ w'.ownsRow w.heap.size 34 2 t s.size ((x.l.drop (x.l.length - s.size)).flatMap encVal) ∧ PFr B w' (.pointer (some ⟨g, 0, none⟩)) ⟨x.l.take (x.l.length - s.size), x.most, x.loc⟩ g v' u ∧
    Touch (fun b => b = g) w w' ∧ ∀ k, v'.ownBlock = some k → v.ownBlock = some k :=
  (stack_Pop B w x g v u s h hl hs).mono fun e w' h => by
    rcases h with ⟨h1, _⟩ | ⟨_, h2⟩
    · exact absurd hyes h1
    · exact h2
theorem r_Pop_no (B : Nat) (w : World) (x : FrV) (g : Nat) (v u : Value) (s : ByteArray) (h : PRf B w (.pointer (some ⟨g, 0, none⟩)) x g v u) (hl : x.l.length ≤ 64) (hs : s.size ≤ 9223372036854775807) (hno : ¬ popOk s x.l) :
    Calls Try.prog 14 #[.pointer (some ⟨g, 0, none⟩), .string s] w fun e w' => e = .returned (.tuple #[.slice none 0 0, .bool false]) ∧ Kept w w' :=
  (ref_Pop B w x g v u s h hl hs).mono fun e w' h => by
    rcases h with ⟨_, h1, h2⟩ | ⟨h1, _⟩
    · exact ⟨h1, h2⟩
    · exact absurd h1 hno
theorem r_Pop_yes (B : Nat) (w : World) (x : FrV) (g : Nat) (v u : Value) (s : ByteArray) (h : PRf B w (.pointer (some ⟨g, 0, none⟩)) x g v u) (hl : x.l.length ≤ 64) (hs : s.size ≤ 9223372036854775807) (hyes : popOk s x.l) :
    Calls Try.prog 14 #[.pointer (some ⟨g, 0, none⟩), .string s] w fun e w' => ∃ t v', e = .returned (.tuple #[t, .bool true]) ∧ w'.ownsRow w.heap.size 34 2 t s.size ((x.l.drop (x.l.length - s.size)).flatMap encVal) ∧ PRf B w' (.pointer (some ⟨g, 0, none⟩)) ⟨x.l.take (x.l.length - s.size), x.most, x.loc⟩ g v' u ∧
    Touch (fun b => b = g) w w' ∧ ∀ k, v'.ownBlock = some k → v.ownBlock = some k :=
  (ref_Pop B w x g v u s h hl hs).mono fun e w' h => by
    rcases h with ⟨h1, _⟩ | ⟨_, h2⟩
    · exact absurd hyes h1
    · exact h2

/-- Both frames, and blocks F that are neither's. -/
structure Pair (B : Nat) (F : Nat → Prop) (w : World) (x y : FrV) (g r : Nat) (v u v' u' : Value) : Prop where
  f : PFr B w (.pointer (some ⟨g, 0, none⟩)) x g v u
  d : PRf B w (.pointer (some ⟨r, 0, none⟩)) y r v' u'
  fr : ∀ b, footF g v u b → ¬ footF r v' u' b
  ff : ∀ b, footF g v u b → ¬ F b
  rf : ∀ b, footF r v' u' b → ¬ F b
  lt : ∀ b, F b → b < w.heap.size
  size : B ≤ w.heap.size

/-- Blocks that a call of the pair may turn. -/
def Out (B : Nat) (F : Nat → Prop) (b : Nat) : Prop := B ≤ b ∧ ¬ F b

section
variable {B : Nat} {F : Nat → Prop} {w w1 : World} {x y x1 : FrV} {g r : Nat} {v u v' u' v1 : Value}
theorem IsFr.foot_lt {T E : Nat} {p : Value} (h : IsFr T E B w p x g v u) : ∀ b, footF g v u b → B ≤ b ∧ b < w.heap.size := by
  intro b hb
  rcases hb with rfl | hb | hb
  · exact ⟨h.ge, h.blk.lt⟩
  · exact h.own.lt b hb
  · exact h.owl.lt b hb
theorem IsRf.foot_lt {T E : Nat} {p : Value} (h : IsRf T E B w p x g v u) : ∀ b, footF g v u b → B ≤ b ∧ b < w.heap.size := by
  intro b hb
  rcases hb with rfl | hb | hb
  · exact ⟨h.ge, h.blk.lt⟩
  · exact h.own.lt b hb
  · exact h.owl.lt b hb
theorem foot_new {n : Nat} (hk : ∀ k, v1.ownBlock = some k → v.ownBlock = some k ∨ n ≤ k) : ∀ b, footF g v1 u b → footF g v u b ∨ n ≤ b := by
  intro b hb
  rcases hb with rfl | hb | hb
  · exact .inl (.inl rfl)
  · exact (hk b hb).imp (fun h => .inr (.inl h)) id
  · exact .inl (.inr (.inr hb))
theorem foot_less (hk : ∀ k, v1.ownBlock = some k → v.ownBlock = some k) : ∀ b, footF g v1 u b → footF g v u b := by
  intro b hb
  rcases hb with rfl | hb | hb
  · exact .inl rfl
  · exact .inr (.inl (hk b hb))
  · exact .inr (.inr hb)
theorem Pair.kept (h : Pair B F w x y g r v u v' u') (hk : Kept w w1) : Pair B F w1 x y g r v u v' u' :=
  ⟨h.f.kept hk, h.d.kept hk, h.fr, h.ff, h.rf, fun b hb => Nat.lt_of_lt_of_le (h.lt b hb) hk.size, Nat.le_trans h.size hk.size⟩
theorem Pair.apart {S : Nat → Prop} (h : Pair B F w x y g r v u v' u') (hk : Touch S w w1) (h1 : ∀ b, footF g v u b → ¬ S b) (h2 : ∀ b, footF r v' u' b → ¬ S b) : Pair B F w1 x y g r v u v' u' :=
  ⟨h.f.apart_ hk h1, h.d.apart_ hk h2, h.fr, h.ff, h.rf, fun b hb => Nat.lt_of_lt_of_le (h.lt b hb) hk.size, Nat.le_trans h.size hk.size⟩
theorem Pair.f_to (h : Pair B F w x y g r v u v' u') (hf : PFr B w1 (.pointer (some ⟨g, 0, none⟩)) x1 g v1 u) (ht : Touch (footF g v u) w w1) (hk : ∀ k, v1.ownBlock = some k → v.ownBlock = some k ∨ w.heap.size ≤ k) :
    Pair B F w1 x1 y g r v1 u v' u' ∧ Touch (Out B F) w w1 := by
  refine ⟨⟨hf, h.d.apart_ ht fun b hb hb' => h.fr b hb' hb, fun b hb hb' => ?_, fun b hb hb' => ?_, h.rf, fun b hb => Nat.lt_of_lt_of_le (h.lt b hb) ht.size, Nat.le_trans h.size ht.size⟩, ht.mono fun b hb => ⟨(h.f.foot_lt b hb).1, h.ff b hb⟩⟩
  · rcases foot_new hk b hb with h1 | h1
    · exact h.fr b h1 hb'
    · have := (h.d.foot_lt b hb').2; omega
  · rcases foot_new hk b hb with h1 | h1
    · exact h.ff b h1 hb'
    · have := h.lt b hb'; omega
theorem Pair.r_to (h : Pair B F w x y g r v u v' u') (hf : PRf B w1 (.pointer (some ⟨r, 0, none⟩)) x1 r v1 u') (ht : Touch (footF r v' u') w w1) (hk : ∀ k, v1.ownBlock = some k → v'.ownBlock = some k ∨ w.heap.size ≤ k) :
    Pair B F w1 x x1 g r v u v1 u' ∧ Touch (Out B F) w w1 := by
  refine ⟨⟨h.f.apart_ ht fun b hb hb' => h.fr b hb hb', hf, fun b hb hb' => ?_, h.ff, fun b hb hb' => ?_, fun b hb => Nat.lt_of_lt_of_le (h.lt b hb) ht.size, Nat.le_trans h.size ht.size⟩, ht.mono fun b hb => ⟨(h.d.foot_lt b hb).1, h.rf b hb⟩⟩
  · rcases foot_new hk b hb' with h1 | h1
    · exact h.fr b hb h1
    · have := (h.f.foot_lt b hb).2; omega
  · rcases foot_new hk b hb with h1 | h1
    · exact h.rf b h1 hb'
    · have := h.lt b hb'; omega
end

/-- Sizes that hold all along. -/
structure FrSz (x : FrV) : Prop where
  m0 : 0 ≤ x.most
  m1 : x.most ≤ 64
  l : (x.l.length : Int) ≤ x.most
  o : x.loc.length ≤ 64
theorem FrSz.l64 {x : FrV} (h : FrSz x) : x.l.length ≤ 64 := by have := h.l; have := h.m1; omega

/-- What one call of both leaves. -/
def Called (B : Nat) (F : Nat → Prop) (w : World) (x : FrV) (g r : Nat) (e : Ending) (w' : World) : Prop :=
  e = .returned (.bool true) ∧ ∃ x' v u v' u', x'.most = x.most ∧ FrSz x' ∧ Pair B F w' x' x' g r v u v' u' ∧ Touch (Out B F) w w'

theorem Called.mk {B : Nat} {F : Nat → Prop} {w w' : World} {x x' : FrV} {g r : Nat} {v u v' u' : Value} (hp : Pair B F w' x' x' g r v u v' u') (ht : Touch (Out B F) w w') (hm : x'.most = x.most) (hs : FrSz x') : Called B F w x g r (.returned (.bool true)) w' := ⟨rfl, x', v, u, v', u', hm, hs, hp, ht⟩

theorem out_trans {B : Nat} {F : Nat → Prop} {w w1 w2 : World} (h : Touch (Out B F) w w1) (h2 : Touch (Out B F) w1 w2) : Touch (Out B F) w w2 := h.trans h2 fun b hb => .inl hb

/-- The parameter o's own block. -/
abbrev opObj (kd t : Int) (s : ByteArray) (y : ValV) (b0 : Bool) : Obj := .cells #[.int .i64 kd, .int .i64 t, .string s, .bool y.ref, .int .i64 y.n, .bool b0] 36

set_option maxHeartbeats 1000000 in
theorem call_push (B : Nat) (F : Nat → Prop) (w : World) (x : FrV) (g r : Nat) (v u v' u' : Value) (kd t : Int) (s : ByteArray) (y : ValV) (b0 : Bool) (hP : Pair B F w x x g r v u v' u') (hz : FrSz x) (hs : s.size ≤ 300) (c0 : kd.tmod 5 = 0) (hlt : (x.l.length : Int) < x.most) :
    Calls Try.prog 7 #[.pointer (some ⟨g, 0, none⟩), .pointer (some ⟨r, 0, none⟩), .agg #[.int .i64 kd, .int .i64 t, .string s, .bool y.ref, .int .i64 y.n, .bool b0]] w (Called B F w x g r) := by
  have HZ := Lib.hid hz
  have k0 : Kept w ((w.alloc (opObj kd t s y b0)).drew) := ((Below.refl _ _).alloc (Nat.le_refl _) _).drew
  have HP := Lib.hid (hP.kept k0)
  have hbl : Blk ((w.alloc (opObj kd t s y b0)).drew) w.heap.size 36 #[.int .i64 kd, .int .i64 t, .string s, .bool y.ref, .int .i64 y.n, .bool b0] := Blk.new w _ _
  have HB := Lib.hid hbl
  have T0 := Lib.hid (Touch.of_kept (S := Out B F) k0)
  have hnf : ¬ footF g v u w.heap.size := fun h => by have := (hP.f.foot_lt _ h).2; omega
  have HNF := Lib.hid hnf
  have hnr : ¬ footF r v' u' w.heap.size := fun h => by have := (hP.d.foot_lt _ h).2; omega
  have HNR := Lib.hid hnr
  clear hP hz k0 hbl hnf hnr
  have C1 := Lib.hid (stack_Push B _ _ x g v u y HP.out.f HP.out.size HZ.out.l64 hlt)
  go_enter Try.func7, Try.ntmps7
  go_wp2_with fail
  go_region_with (first
    | (go_at_call 11; refine C1.out.mono ?_; rintro e w1 ⟨rfl, v1, hP1, hT1, hk1⟩; have bx := HB.out.touch hT1 HNF.out; have x3 := bx.cell 3; have x4 := bx.cell 4; simp at x3 x4; have Q1 := HP.out.f_to hP1 hT1 hk1; have H1 := Lib.hid Q1.1; have T1 := Lib.hid Q1.2; have C2 := Lib.hid (ref_Push B _ _ x r v' u' y H1.out.d H1.out.size HZ.out.l64 hlt); clear hP1 hT1 hk1 Q1 bx)
    | (go_at_call 13; refine C2.out.mono ?_; rintro e w2 ⟨rfl, v2, hP2, hT2, hk2⟩; have Q2 := H1.out.r_to hP2 hT2 hk2; have H2 := Lib.hid Q2.1; have T2 := Lib.hid Q2.2; clear hP2 hT2 hk2 Q2))
  all_goals go_wp2
  all_goals go_ret
  all_goals exact Called.mk H2.out (out_trans T0.out (out_trans T1.out T2.out)) rfl ⟨HZ.out.m0, HZ.out.m1, by show ((x.l ++ [y]).length : Int) ≤ x.most; rw [List.length_append]; simp; omega, HZ.out.o⟩

set_option maxHeartbeats 1000000 in
theorem call_push_no (B : Nat) (F : Nat → Prop) (w : World) (x : FrV) (g r : Nat) (v u v' u' : Value) (kd t : Int) (s : ByteArray) (y : ValV) (b0 : Bool) (hP : Pair B F w x x g r v u v' u') (hz : FrSz x) (hs : s.size ≤ 300) (c0 : kd.tmod 5 = 0) (hge : x.most ≤ x.l.length) :
    Calls Try.prog 7 #[.pointer (some ⟨g, 0, none⟩), .pointer (some ⟨r, 0, none⟩), .agg #[.int .i64 kd, .int .i64 t, .string s, .bool y.ref, .int .i64 y.n, .bool b0]] w (Called B F w x g r) := by
  have HZ := Lib.hid hz
  have k0 : Kept w ((w.alloc (opObj kd t s y b0)).drew) := ((Below.refl _ _).alloc (Nat.le_refl _) _).drew
  have HP := Lib.hid (hP.kept k0)
  have hbl : Blk ((w.alloc (opObj kd t s y b0)).drew) w.heap.size 36 #[.int .i64 kd, .int .i64 t, .string s, .bool y.ref, .int .i64 y.n, .bool b0] := Blk.new w _ _
  have HB := Lib.hid hbl
  have T0 := Lib.hid (Touch.of_kept (S := Out B F) k0)
  have hnf : ¬ footF g v u w.heap.size := fun h => by have := (hP.f.foot_lt _ h).2; omega
  have HNF := Lib.hid hnf
  have hnr : ¬ footF r v' u' w.heap.size := fun h => by have := (hP.d.foot_lt _ h).2; omega
  have HNR := Lib.hid hnr
  clear hP hz k0 hbl hnf hnr
  have C1 := Lib.hid (stack_Push_no B _ _ x g v u y HP.out.f hge)
  go_enter Try.func7, Try.ntmps7
  go_wp2_with fail
  go_region_with (first
    | (go_at_call 11; refine C1.out.mono ?_; rintro e w1 ⟨rfl, k1⟩; have bx := HB.out.kept k1; have x3 := bx.cell 3; have x4 := bx.cell 4; simp at x3 x4; have H1 := Lib.hid (HP.out.kept k1); have T1 := Lib.hid (Touch.of_kept (S := Out B F) k1); have C2 := Lib.hid (ref_Push_no B _ _ x r v' u' y H1.out.d hge); clear k1 bx)
    | (go_at_call 13; refine C2.out.mono ?_; rintro e w2 ⟨rfl, k2⟩; have H2 := Lib.hid (H1.out.kept k2); have T2 := Lib.hid (Touch.of_kept (S := Out B F) k2); clear k2))
  all_goals go_wp2
  all_goals go_ret
  all_goals exact Called.mk H2.out (out_trans T0.out (out_trans T1.out T2.out)) rfl HZ.out

set_option maxHeartbeats 1000000 in
theorem call_pop_no (B : Nat) (F : Nat → Prop) (w : World) (x : FrV) (g r : Nat) (v u v' u' : Value) (kd t : Int) (s : ByteArray) (y : ValV) (b0 : Bool) (hP : Pair B F w x x g r v u v' u') (hz : FrSz x) (hs : s.size ≤ 300) (c0 : ¬ kd.tmod 5 = 0) (c1 : kd.tmod 5 = 1) (hno : ¬ popOk s x.l) :
    Calls Try.prog 7 #[.pointer (some ⟨g, 0, none⟩), .pointer (some ⟨r, 0, none⟩), .agg #[.int .i64 kd, .int .i64 t, .string s, .bool y.ref, .int .i64 y.n, .bool b0]] w (Called B F w x g r) := by
  have HZ := Lib.hid hz
  have k0 : Kept w (w.alloc (opObj kd t s y b0)) := ((Below.refl _ _).alloc (Nat.le_refl _) _)
  have HP := Lib.hid (hP.kept k0)
  have hbl : Blk (w.alloc (opObj kd t s y b0)) w.heap.size 36 #[.int .i64 kd, .int .i64 t, .string s, .bool y.ref, .int .i64 y.n, .bool b0] := Blk.new w _ _
  have HB := Lib.hid hbl
  have T0 := Lib.hid (Touch.of_kept (S := Out B F) k0)
  have hnf : ¬ footF g v u w.heap.size := fun h => by have := (hP.f.foot_lt _ h).2; omega
  have HNF := Lib.hid hnf
  have hnr : ¬ footF r v' u' w.heap.size := fun h => by have := (hP.d.foot_lt _ h).2; omega
  have HNR := Lib.hid hnr
  clear hP hz k0 hbl hnf hnr
  have C1 := Lib.hid (f_Pop_no B _ x g v u s HP.out.f HZ.out.l64 (by omega) hno)
  go_enter Try.func7, Try.ntmps7
  go_wp2_with fail
  refine C1.out.mono ?_
  rintro e w1 ⟨rfl, k1⟩
  have bx := HB.out.kept k1
  have x2 := bx.cell 2
  simp at x2
  have H1 := Lib.hid (HP.out.kept k1)
  have T1 := Lib.hid (Touch.of_kept (S := Out B F) k1)
  clear k1 bx
  have C2 := Lib.hid (r_Pop_no B _ x r v' u' s H1.out.d HZ.out.l64 (by omega) hno)
  go_wp2_with fail
  refine C2.out.mono ?_
  rintro e w2 ⟨rfl, k2⟩
  have H2 := Lib.hid (H1.out.kept k2)
  have T2 := Lib.hid (Touch.of_kept (S := Out B F) k2)
  clear k2
  go_wp2_with fail
  refine (law16_sameValues [] 0 _ _ _ rfl Rd.nil Rd.nil).mono ?_
  rintro e w3 ⟨rfl, m3, hw3⟩
  have H3 := Lib.hid (H2.out.kept (w1 := w3) (by rw [hw3]; exact kept_drewN (Below.refl _ _) m3))
  have T3 := Lib.hid (show Touch (Out B F) w2 w3 by rw [hw3]; exact (Touch.refl _ _).drewN m3)
  clear hw3
  go_wp2_with fail
  go_loopw [12] (fun s9 wr => s9 = .int .i64 0 ∧ wr = w3) (fun _ _ => 0)
  case atStart => exact ⟨rfl, rfl⟩
  case round =>
    obtain ⟨rfl, rfl⟩ := hrel
    go_wp2_with fail
    go_ret
    exact Called.mk H3.out (out_trans T0.out (out_trans T1.out (out_trans T2.out T3.out))) rfl HZ.out

set_option maxHeartbeats 1000000 in
theorem call_pop (B : Nat) (F : Nat → Prop) (w : World) (x : FrV) (g r : Nat) (v u v' u' : Value) (kd t : Int) (s : ByteArray) (y : ValV) (b0 : Bool) (hP : Pair B F w x x g r v u v' u') (hz : FrSz x) (hs : s.size ≤ 300) (c0 : ¬ kd.tmod 5 = 0) (c1 : kd.tmod 5 = 1) (hyes : popOk s x.l) :
    Calls Try.prog 7 #[.pointer (some ⟨g, 0, none⟩), .pointer (some ⟨r, 0, none⟩), .agg #[.int .i64 kd, .int .i64 t, .string s, .bool y.ref, .int .i64 y.n, .bool b0]] w (Called B F w x g r) := by
  have HZ := Lib.hid hz
  have k0 : Kept w (w.alloc (opObj kd t s y b0)) := ((Below.refl _ _).alloc (Nat.le_refl _) _)
  have HP := Lib.hid (hP.kept k0)
  have hbl : Blk (w.alloc (opObj kd t s y b0)) w.heap.size 36 #[.int .i64 kd, .int .i64 t, .string s, .bool y.ref, .int .i64 y.n, .bool b0] := Blk.new w _ _
  have HB := Lib.hid hbl
  have T0 := Lib.hid (Touch.of_kept (S := Out B F) k0)
  have hnf : ¬ footF g v u w.heap.size := fun h => by have := (hP.f.foot_lt _ h).2; omega
  have HNF := Lib.hid hnf
  have hnr : ¬ footF r v' u' w.heap.size := fun h => by have := (hP.d.foot_lt _ h).2; omega
  have HNR := Lib.hid hnr
  clear hP hz k0 hbl hnf hnr
  have C1 := Lib.hid (f_Pop_yes B _ x g v u s HP.out.f HZ.out.l64 (by omega) hyes)
  obtain ⟨W0, hW0⟩ : ∃ W0, W0 = (w.alloc (opObj kd t s y b0)) := ⟨_, rfl⟩
  have hfl := HP.out.f.foot_lt
  have hrl := HP.out.d.foot_lt
  have HFL := Lib.hid hfl
  have HRL := Lib.hid hrl
  clear hfl hrl
  go_enter Try.func7, Try.ntmps7
  go_wp2_with fail
  refine C1.out.mono ?_
  rintro e w1 ⟨a1, v1, rfl, hO1, hP1, hT1, hk1⟩
  have bx := HB.out.touch hT1 (fun e => HNF.out (.inl e))
  have x2 := bx.cell 2
  simp at x2
  have Q1 := HP.out.f_to hP1 (hT1.mono fun b hb => .inl hb) (fun k hk => .inl (hk1 k hk))
  have H1 := Lib.hid Q1.1
  have T1 := Lib.hid Q1.2
  have O1 := Lib.hid hO1
  have HK1 := Lib.hid hk1
  clear hO1 hP1 hT1 hk1 Q1 bx
  have C2 := Lib.hid (r_Pop_yes B _ x r v' u' s H1.out.d HZ.out.l64 (by omega) hyes)
  go_wp2_with fail
  refine C2.out.mono ?_
  rintro e w2 ⟨a2, v2, rfl, hO2, hP2, hT2, hk2⟩
  have Q2 := H1.out.r_to hP2 (hT2.mono fun b hb => .inl hb) (fun k hk => .inl (hk2 k hk))
  have H2 := Lib.hid Q2.1
  have T2 := Lib.hid Q2.2
  have O2 := Lib.hid (hT2.own O1.out fun k hk hk' => by subst hk'; have h1 := (O1.out.lt _ hk).1; have h2 := (HRL.out k (.inl rfl)).2; omega)
  have hR2 := Rd.of_own hO2
  have R2 := Lib.hid hR2
  have HK2 := Lib.hid hk2
  clear hO2 hP2 hT2 hk2 Q2 hR2
  have hdl : (x.l.drop (x.l.length - s.size)).length = s.size := by rw [List.length_drop]; have := hyes.1; omega
  have HDL := Lib.hid hdl
  clear hdl
  go_wp2_with fail
  refine (law16_sameValues (x.l.drop (x.l.length - s.size)) s.size _ _ _ HDL.out (Rd.of_own O2.out) R2.out).mono ?_
  rintro e w3 ⟨rfl, m3, hw3⟩
  have k3 : Kept w2 w3 := by rw [hw3]; exact kept_drewN (Below.refl _ _) m3
  have H3 := Lib.hid (H2.out.kept k3)
  have T3 := Lib.hid (Touch.of_kept (S := Out B F) k3)
  have O3 := Lib.hid (Touch.own (S := fun _ => False) (Touch.of_kept k3) O2.out (fun _ _ => id))
  clear hw3 k3
  obtain ⟨aa, cc, rfl, hcl, hcr⟩ := own_slice O3.out
  have hs3 : s.size ≤ 300 := hs
  go_wp2_with fail
  go_loopw [12] (fun s12 wr => ∃ (k : Nat) (l' : List ValV), k ≤ s.size ∧ s12 = .int .i64 k ∧ l'.length = s.size ∧ wr.ownsRow (w.alloc (opObj kd t s y b0)).heap.size 34 2 (.slice aa s.size cc) s.size (l'.flatMap encVal) ∧ Touch (fun b => (Value.slice aa s.size cc).ownBlock = some b) w3 wr) (fun s12 _ => s.size - (intOf s12).toNat)
  case atStart => exact ⟨0, _, by omega, rfl, HDL.out, O3.out, Touch.refl _ _⟩
  case round =>
    obtain ⟨k, l', hk, rfl, hl', hO, hT⟩ := hrel
    by_cases hlt : k < s.size
    · obtain ⟨r0, c', hv, _, _, hge, hrs, hcell, hfz⟩ := own_form hO (by omega)
      simp only [Value.slice.injEq] at hv
      obtain ⟨rfl, -, rfl⟩ := hv
      have hxl := hO.1
      obtain ⟨q0, hq0⟩ : ∃ q, (l'.flatMap encVal)[k * 2]? = some q := ⟨_, List.getElem?_eq_getElem (by omega)⟩
      obtain ⟨q1, hq1⟩ : ∃ q, (l'.flatMap encVal)[k * 2 + 1]? = some q := ⟨_, List.getElem?_eq_getElem (by omega)⟩
      have z0 := hcell _ _ hq0
      have z1 := hcell _ _ hq1
      have f0 := hfz (k * 2)
      have f1 := hfz (k * 2 + 1)
      have HO := Lib.hid hO
      have HT := Lib.hid hT
      have HL := Lib.hid hl'
      clear hO hT hl' hcell hfz hxl hq0 hq1
      go_wp2_with fail
      go_roundw
      case rel =>
        refine ⟨k + 1, l'.set k ⟨false, -9⟩, by omega, by go_num, by simpa using HL.out, ?_, ?_⟩
        · have := own_store (own_store HO.out (k * 2) (.bool false)) (k * 2 + 1) (.int .i64 (-9))
          rw [vals_set l' ⟨false, -9⟩ k (by have := HL.out; omega)] at this
          exact this
        · exact (HT.out.setCell (p := ⟨r0, k * 2, none⟩) (.inl rfl) _).setCell (p := ⟨r0, k * 2 + 1, none⟩) (.inl rfl) _
      case measure => simp [intOf]; omega
    · obtain rfl : k = s.size := by omega
      have HO := Lib.hid hO
      have HT := Lib.hid hT
      clear hO hT hl'
      go_wp2_with fail
      go_ret
      have hfar : ∀ b, b < (w.alloc (opObj kd t s y b0)).heap.size → ¬ (Value.slice aa s.size cc).ownBlock = some b := fun b hb e => by have := (HO.out.lt b e).1; omega
      have hO3 := O3.out
      refine Called.mk (x' := ⟨x.l.take (x.l.length - s.size), x.most, x.loc⟩) (H3.out.apart HT.out (fun b hb => hfar b (HFL.out b (foot_less HK1.out b hb)).2) (fun b hb => hfar b (HRL.out b (foot_less HK2.out b hb)).2)) (out_trans T0.out (out_trans T1.out (out_trans T2.out (out_trans T3.out (HT.out.mono fun b hb => ?_))))) rfl ⟨HZ.out.m0, HZ.out.m1, ?_, HZ.out.o⟩
      · have h1 := hO3.lt b hb
        refine ⟨?_, fun hF => ?_⟩
        · have := HP.out.size; omega
        · have := HP.out.lt b hF; omega
      · have := HZ.out.l
        show ((x.l.take _).length : Int) ≤ x.most
        rw [List.length_take]
        omega

set_option maxHeartbeats 1000000 in
theorem call_clear (B : Nat) (F : Nat → Prop) (w : World) (x : FrV) (g r : Nat) (v u v' u' : Value) (kd t : Int) (s : ByteArray) (y : ValV) (b0 : Bool) (hP : Pair B F w x x g r v u v' u') (hz : FrSz x) (hs : s.size ≤ 300) (c0 : ¬ kd.tmod 5 = 0) (c1 : ¬ kd.tmod 5 = 1) (c2 : kd.tmod 5 = 2) :
    Calls Try.prog 7 #[.pointer (some ⟨g, 0, none⟩), .pointer (some ⟨r, 0, none⟩), .agg #[.int .i64 kd, .int .i64 t, .string s, .bool y.ref, .int .i64 y.n, .bool b0]] w (Called B F w x g r) := by
  have HZ := Lib.hid hz
  have k0 : Kept w (w.alloc (opObj kd t s y b0)) := ((Below.refl _ _).alloc (Nat.le_refl _) _)
  have HP := Lib.hid (hP.kept k0)
  have hbl : Blk (w.alloc (opObj kd t s y b0)) w.heap.size 36 #[.int .i64 kd, .int .i64 t, .string s, .bool y.ref, .int .i64 y.n, .bool b0] := Blk.new w _ _
  have HB := Lib.hid hbl
  have T0 := Lib.hid (Touch.of_kept (S := Out B F) k0)
  have hnf : ¬ footF g v u w.heap.size := fun h => by have := (hP.f.foot_lt _ h).2; omega
  have HNF := Lib.hid hnf
  have hnr : ¬ footF r v' u' w.heap.size := fun h => by have := (hP.d.foot_lt _ h).2; omega
  have HNR := Lib.hid hnr
  clear hP hz k0 hbl hnf hnr
  have C1 := Lib.hid (stack_Clear B _ _ x g v u y HP.out.f HP.out.size)
  go_enter Try.func7, Try.ntmps7
  go_wp2_with fail
  refine C1.out.mono ?_
  rintro e w1 ⟨rfl, v1, hP1, hT1, hk1⟩
  have bx := HB.out.touch hT1 HNF.out
  have x3 := bx.cell 3
  have x4 := bx.cell 4
  simp at x3 x4
  have Q1 := HP.out.f_to hP1 hT1 hk1
  have H1 := Lib.hid Q1.1
  have T1 := Lib.hid Q1.2
  clear hP1 hT1 hk1 Q1 bx
  have C2 := Lib.hid (ref_Clear B _ _ x r v' u' y H1.out.d H1.out.size)
  go_wp2_with fail
  refine C2.out.mono ?_
  rintro e w2 ⟨rfl, v2, hP2, hT2, hk2⟩
  have Q2 := H1.out.r_to hP2 hT2 hk2
  have H2 := Lib.hid Q2.1
  have T2 := Lib.hid Q2.2
  clear hP2 hT2 hk2 Q2
  go_wp2_with fail
  go_ret
  refine Called.mk H2.out (out_trans T0.out (out_trans T1.out T2.out)) rfl ⟨HZ.out.m0, HZ.out.m1, ?_, HZ.out.o⟩
  have := HZ.out.l
  show ((clearL x y).length : Int) ≤ x.most
  unfold clearL
  split
  · simp; omega
  · exact this

set_option maxHeartbeats 1000000 in
theorem call_load (B : Nat) (F : Nat → Prop) (w : World) (x : FrV) (g r : Nat) (v u v' u' : Value) (kd t : Int) (s : ByteArray) (y : ValV) (b0 : Bool) (hP : Pair B F w x x g r v u v' u') (hz : FrSz x) (hs : s.size ≤ 300) (c0 : ¬ kd.tmod 5 = 0) (c1 : ¬ kd.tmod 5 = 1) (c2 : ¬ kd.tmod 5 = 2) (c3 : kd.tmod 5 = 3) :
    Calls Try.prog 7 #[.pointer (some ⟨g, 0, none⟩), .pointer (some ⟨r, 0, none⟩), .agg #[.int .i64 kd, .int .i64 t, .string s, .bool y.ref, .int .i64 y.n, .bool b0]] w (Called B F w x g r) := by
  have HZ := Lib.hid hz
  have k0 : Kept w (w.alloc (opObj kd t s y b0)) := ((Below.refl _ _).alloc (Nat.le_refl _) _)
  have HP := Lib.hid (hP.kept k0)
  have hbl : Blk (w.alloc (opObj kd t s y b0)) w.heap.size 36 #[.int .i64 kd, .int .i64 t, .string s, .bool y.ref, .int .i64 y.n, .bool b0] := Blk.new w _ _
  have HB := Lib.hid hbl
  have T0 := Lib.hid (Touch.of_kept (S := Out B F) k0)
  have hnf : ¬ footF g v u w.heap.size := fun h => by have := (hP.f.foot_lt _ h).2; omega
  have HNF := Lib.hid hnf
  have hnr : ¬ footF r v' u' w.heap.size := fun h => by have := (hP.d.foot_lt _ h).2; omega
  have HNR := Lib.hid hnr
  clear hP hz k0 hbl hnf hnr
  have C1 := Lib.hid (stack_Load B _ _ x g v u t b0 HP.out.f HZ.out.o)
  have CR : ∀ W, PRf B W (.pointer (some ⟨r, 0, none⟩)) x r v' u' → Calls Try.prog 18 #[.pointer (some ⟨r, 0, none⟩), .int .i64 t, .bool b0] W fun e w' => e = .returned (.tuple #[.agg #[.bool (loadV x.loc t b0).ref, .int .i64 (loadV x.loc t b0).n], .bool (loadB x.loc t b0)]) ∧ Kept W w' := fun W h => ref_Load B W _ x r v' u' t b0 h HZ.out.o
  generalize loadV x.loc t b0 = lv at C1 CR
  generalize loadB x.loc t b0 = lb at C1 CR
  have CR' := Lib.hid CR
  clear CR
  go_enter Try.func7, Try.ntmps7
  go_wp2_with fail
  refine C1.out.mono ?_
  rintro e w1 ⟨rfl, k1⟩
  have bx := HB.out.kept k1
  have x1 := bx.cell 1
  have x5 := bx.cell 5
  simp at x1 x5
  have hlt := bx.lt
  have H1 := Lib.hid (HP.out.kept k1)
  have T1 := Lib.hid (Touch.of_kept (S := Out B F) k1)
  clear k1 bx
  go_wp2_with fail
  have k1a : Kept w1 (w1.alloc (.cells #[.bool lv.ref, .int .i64 lv.n] 34)) := (Below.refl _ _).alloc (Nat.le_refl _) _
  refine (CR'.out _ (H1.out.kept k1a).d).mono ?_
  rintro e w2 ⟨rfl, k2⟩
  have by_ : Blk w2 w1.heap.size 34 #[.bool lv.ref, .int .i64 lv.n] := (Blk.new w1 _ _).kept k2
  have y0 := by_.cell 0
  have y1 := by_.cell 1
  simp at y0 y1
  have hlt2 := by_.lt
  have H2 := Lib.hid ((H1.out.kept k1a).kept k2)
  have T2 := Lib.hid (out_trans (Touch.of_kept (S := Out B F) k1a) (Touch.of_kept (S := Out B F) k2))
  clear k2 k1a by_
  cases lb
  all_goals go_wp2_with fail
  all_goals go_ret
  all_goals
    refine Called.mk (H2.out.kept ?_) (out_trans T0.out (out_trans T1.out (out_trans T2.out (Touch.of_kept ?_)))) rfl HZ.out
    · exact (Below.refl _ _).alloc (Nat.le_refl _) _
    · exact (Below.refl _ _).alloc (Nat.le_refl _) _

set_option maxHeartbeats 1000000 in
theorem call_store (B : Nat) (F : Nat → Prop) (w : World) (x : FrV) (g r : Nat) (v u v' u' : Value) (kd t : Int) (s : ByteArray) (y : ValV) (b0 : Bool) (hP : Pair B F w x x g r v u v' u') (hz : FrSz x) (hs : s.size ≤ 300) (c0 : ¬ kd.tmod 5 = 0) (c1 : ¬ kd.tmod 5 = 1) (c2 : ¬ kd.tmod 5 = 2) (c3 : ¬ kd.tmod 5 = 3) (c4 : kd.tmod 5 = 4) :
    Calls Try.prog 7 #[.pointer (some ⟨g, 0, none⟩), .pointer (some ⟨r, 0, none⟩), .agg #[.int .i64 kd, .int .i64 t, .string s, .bool y.ref, .int .i64 y.n, .bool b0]] w (Called B F w x g r) := by
  have HZ := Lib.hid hz
  have k0 : Kept w ((w.alloc (opObj kd t s y b0)).drew) := ((Below.refl _ _).alloc (Nat.le_refl _) _).drew
  have HP := Lib.hid (hP.kept k0)
  have hbl : Blk ((w.alloc (opObj kd t s y b0)).drew) w.heap.size 36 #[.int .i64 kd, .int .i64 t, .string s, .bool y.ref, .int .i64 y.n, .bool b0] := Blk.new w _ _
  have HB := Lib.hid hbl
  have T0 := Lib.hid (Touch.of_kept (S := Out B F) k0)
  have hnf : ¬ footF g v u w.heap.size := fun h => by have := (hP.f.foot_lt _ h).2; omega
  have HNF := Lib.hid hnf
  have hnr : ¬ footF r v' u' w.heap.size := fun h => by have := (hP.d.foot_lt _ h).2; omega
  have HNR := Lib.hid hnr
  clear hP hz k0 hbl hnf hnr
  have C1 := Lib.hid (stack_Store B _ _ x g v u t y HP.out.f HZ.out.o)
  go_enter Try.func7, Try.ntmps7
  go_wp2_with fail
  go_region_held2 (fun w' => w'.cell? ⟨w.heap.size, 1, none⟩ = some (.int .i64 t) ∧ w'.cell? ⟨w.heap.size, 3, none⟩ = some (.bool y.ref) ∧ w'.cell? ⟨w.heap.size, 4, none⟩ = some (.int .i64 y.n)) (go_keep)
    (first
    | (go_at_call 19; refine C1.out.mono ?_; rintro e w1 ⟨rfl, hP1, hT1⟩; have bx := HB.out.touch hT1 HNF.out; have BX := Lib.hid bx; have x1 := bx.cell 1; have x3 := bx.cell 3; have x4 := bx.cell 4; simp at x1 x3 x4; have Q1 := HP.out.f_to hP1 hT1 (fun k hk => .inl hk); have H1 := Lib.hid Q1.1; have T1 := Lib.hid Q1.2; have C2 := Lib.hid (ref_Store B _ _ x r v' u' t y H1.out.d HZ.out.o); clear hP1 hT1 Q1 bx)
    | (go_at_call 20; refine C2.out.mono ?_; rintro e w2 ⟨rfl, hP2, hT2⟩; have by_ := BX.out.touch hT2 HNR.out; have y1 := by_.cell 1; have y3 := by_.cell 3; have y4 := by_.cell 4; simp at y1 y3 y4; have Q2 := H1.out.r_to hP2 hT2 (fun k hk => .inl hk); have H2 := Lib.hid Q2.1; have T2 := Lib.hid Q2.2; clear hP2 hT2 Q2 by_))
  all_goals go_wp2
  all_goals go_ret
  all_goals
    refine Called.mk H2.out (out_trans T0.out (out_trans T1.out T2.out)) rfl ⟨HZ.out.m0, HZ.out.m1, HZ.out.l, ?_⟩
    have := HZ.out.o
    show (storeL x.loc t y).length ≤ 64
    unfold storeL
    split
    · simpa using this
    · exact this

set_option maxHeartbeats 1000000 in
theorem call_none (B : Nat) (F : Nat → Prop) (w : World) (x : FrV) (g r : Nat) (v u v' u' : Value) (kd t : Int) (s : ByteArray) (y : ValV) (b0 : Bool) (hP : Pair B F w x x g r v u v' u') (hz : FrSz x) (hs : s.size ≤ 300) (c0 : ¬ kd.tmod 5 = 0) (c1 : ¬ kd.tmod 5 = 1) (c2 : ¬ kd.tmod 5 = 2) (c3 : ¬ kd.tmod 5 = 3) (c4 : ¬ kd.tmod 5 = 4) :
    Calls Try.prog 7 #[.pointer (some ⟨g, 0, none⟩), .pointer (some ⟨r, 0, none⟩), .agg #[.int .i64 kd, .int .i64 t, .string s, .bool y.ref, .int .i64 y.n, .bool b0]] w (Called B F w x g r) := by
  have HZ := Lib.hid hz
  have k0 : Kept w (w.alloc (opObj kd t s y b0)) := ((Below.refl _ _).alloc (Nat.le_refl _) _)
  have HP := Lib.hid (hP.kept k0)
  have hbl : Blk (w.alloc (opObj kd t s y b0)) w.heap.size 36 #[.int .i64 kd, .int .i64 t, .string s, .bool y.ref, .int .i64 y.n, .bool b0] := Blk.new w _ _
  have HB := Lib.hid hbl
  have T0 := Lib.hid (Touch.of_kept (S := Out B F) k0)
  have hnf : ¬ footF g v u w.heap.size := fun h => by have := (hP.f.foot_lt _ h).2; omega
  have HNF := Lib.hid hnf
  have hnr : ¬ footF r v' u' w.heap.size := fun h => by have := (hP.d.foot_lt _ h).2; omega
  have HNR := Lib.hid hnr
  clear hP hz k0 hbl hnf hnr
  go_enter Try.func7, Try.ntmps7
  go_wp2_with fail
  go_ret
  exact Called.mk HP.out T0.out rfl HZ.out

theorem law16_call (B : Nat) (F : Nat → Prop) (w : World) (x : FrV) (g r : Nat) (v u v' u' : Value) (kd t : Int) (s : ByteArray) (y : ValV) (b0 : Bool) (hP : Pair B F w x x g r v u v' u') (hz : FrSz x) (hs : s.size ≤ 300) :
    Calls Try.prog 7 #[.pointer (some ⟨g, 0, none⟩), .pointer (some ⟨r, 0, none⟩), .agg #[.int .i64 kd, .int .i64 t, .string s, .bool y.ref, .int .i64 y.n, .bool b0]] w (Called B F w x g r) := by
  by_cases c0 : kd.tmod 5 = 0
  · by_cases hlt : (x.l.length : Int) < x.most
    · exact call_push B F w x g r v u v' u' kd t s y b0 hP hz hs c0 hlt
    · exact call_push_no B F w x g r v u v' u' kd t s y b0 hP hz hs c0 (by omega)
  by_cases c1 : kd.tmod 5 = 1
  · by_cases hy : popOk s x.l
    · exact call_pop B F w x g r v u v' u' kd t s y b0 hP hz hs c0 c1 hy
    · exact call_pop_no B F w x g r v u v' u' kd t s y b0 hP hz hs c0 c1 hy
  by_cases c2 : kd.tmod 5 = 2
  · exact call_clear B F w x g r v u v' u' kd t s y b0 hP hz hs c0 c1 c2
  by_cases c3 : kd.tmod 5 = 3
  · exact call_load B F w x g r v u v' u' kd t s y b0 hP hz hs c0 c1 c2 c3
  by_cases c4 : kd.tmod 5 = 4
  · exact call_store B F w x g r v u v' u' kd t s y b0 hP hz hs c0 c1 c2 c3 c4
  exact call_none B F w x g r v u v' u' kd t s y b0 hP hz hs c0 c1 c2 c3 c4
end Go.Proofs.Ytfjkcokollkijaa
