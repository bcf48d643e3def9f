/-
  Package stack by contract.
-/
import Derived.Test.YtfjkcokollkijaaProg
import Derived.Test.YtfjkcokollkijaaTouch
import Derived.Lib.OthersKept
import Derived.Lib.RuneCount
import Derived.Deep.AppendLies
import Derived.Deep.RegionLaw
import Derived.BigRegion
namespace Go.Proofs.Ytfjkcokollkijaa
open Go.RowKit
set_option maxRecDepth 100000

/-- A value as data. -/
structure ValV where
  ref : Bool
  n : Int
def encVal (x : ValV) : List Value := [.bool x.ref, .int .i64 x.n]
theorem encVal_len (x : ValV) : (encVal x).length = 2 := rfl
theorem encVal_one (x : ValV) : ∀ u ∈ encVal x, u.oneCell' = true := by intro u hu; simp [encVal] at hu; rcases hu with rfl | rfl <;> rfl

/-- Is a value of the kind of a letter? -/
def fitsB (c : Int) (v : ValV) : Bool := c == 42 || (if v.ref then c == 76 else c == 73)

theorem num_is (n : Int) (w : World) : (Instr.typeAssert (.iface 57 (.int .i64 n)) 20 57 true).run Try.prog w = .ok (.tuple #[.int .i64 n, .bool true]) w := by kernel_rfl
theorem ref_is (n : Int) (w : World) : (Instr.typeAssert (.iface 58 (.int .i64 n)) 20 58 true).run Try.prog w = .ok (.tuple #[.int .i64 n, .bool true]) w := by kernel_rfl
theorem ref_no (n : Int) (w : World) : (Instr.typeAssert (.iface 58 (.int .i64 n)) 20 57 true).run Try.prog w = .ok (.tuple #[.int .i64 0, .bool false]) w := by kernel_rfl

theorem stack_fits (c : Int) (x : ValV) (w : World) : Calls Try.prog 22 #[.int .i32 c, .agg #[.bool x.ref, .int .i64 x.n]] w fun e w' => e = .returned (.bool (fitsB c x)) ∧ Kept w w' := by
  obtain ⟨r, n⟩ := x
  have h1 := num_is
  have h2 := ref_is
  have h3 := ref_no
  cases r
  all_goals
    go_enter Try.func22, Try.ntmps22
    go_wp2
    all_goals
      go_ret
      exact ⟨ret_bool (by first | (simp [fitsB]; done) | (simp [fitsB]; omega) | (simp [fitsB, Bool.or_comm]; done)), ((Below.refl _ _).alloc (Nat.le_refl _) _).alloc (by simp) _⟩

/-- A frame as data. -/
structure FrV where
  l : List ValV
  most : Int
  loc : List ValV

/-- A frame behind a pointer: its block g, its slices v, u. T, E: the types. -/
structure IsFr (T E B : Nat) (w : World) (p : Value) (x : FrV) (g : Nat) (v u : Value) : Prop where
  ptr : p = .pointer (some ⟨g, 0, none⟩)
  blk : Blk w g T #[v, .int .i64 x.most, u]
  own : w.ownsRow B E 2 v x.l.length (x.l.flatMap encVal)
  owl : w.ownsRow B E 2 u x.loc.length (x.loc.flatMap encVal)
  ge : B ≤ g
  apart : ∀ k, v.ownBlock = some k → u.ownBlock = some k → False
def footF (g : Nat) (v u : Value) (b : Nat) : Prop := b = g ∨ v.ownBlock = some b ∨ u.ownBlock = some b

section
variable {T E B : Nat} {w w' : World} {p : Value} {x : FrV} {g : Nat} {v u : Value}
theorem IsFr.apart_ {S : Nat → Prop} (h : IsFr T E B w p x g v u) (ht : Touch S w w') (hn : ∀ b, footF g v u b → ¬ S b) : IsFr T E B w' p x g v u :=
  ⟨h.ptr, h.blk.touch ht (hn g (.inl rfl)), ht.own h.own (fun k hk => hn k (.inr (.inl hk))), ht.own h.owl (fun k hk => hn k (.inr (.inr hk))), h.ge, h.apart⟩
theorem IsFr.still (h : IsFr T E B w p x g v u) (ht : Touch (fun _ => False) w w') : IsFr T E B w' p x g v u := h.apart_ ht (fun _ _ => id)
theorem IsFr.kept (h : IsFr T E B w p x g v u) (ht : Kept w w') : IsFr T E B w' p x g v u := h.still (Touch.of_kept ht)
end

theorem elem_val : ElemTy Try.prog 30 34 (.agg #[.bool false, .int .i64 0]) 2 16 := ⟨Try.underlying30, by kernel_rfl, rfl, by decide⟩
abbrev PFr := IsFr 48 34

def zeroV : ValV := ⟨false, 0⟩
theorem made_vals (n : Nat) : (madeCells (Value.agg #[.bool false, .int .i64 0]).cells (n * 2)).toList = (List.replicate n zeroV).flatMap encVal := by
  have hc : (Value.agg #[.bool false, .int .i64 0]).cells = #[.bool false, .int .i64 0] := by simp [Value.cells]
  rw [hc]
  apply List.ext_getElem?
  intro j
  by_cases hj : j < n * 2
  · have h1 : (List.replicate n zeroV)[j / 2]? = some zeroV := by rw [List.getElem?_replicate, if_pos (by omega)]
    have h2 := flat_get encVal 2 encVal_len (List.replicate n zeroV) (j / 2) (j % 2) zeroV h1 (by omega)
    rw [show j / 2 * 2 + j % 2 = j by omega] at h2
    rw [h2]
    have h3 : (madeCells #[.bool false, .int .i64 0] (n * 2))[j]? = some (#[Value.bool false, .int .i64 0][j % 2]!) := by
      simp [madeCells, hj]
    rw [Array.getElem?_toList, h3]
    rcases (by omega : j % 2 = 0 ∨ j % 2 = 1) with e | e <;> rw [e] <;> rfl
  · rw [List.getElem?_eq_none (by simp [size_madeCells]; omega), List.getElem?_eq_none (by rw [flat_length encVal 2 encVal_len]; simp; omega)]

/-- Sizes that a frame may have. -/
def Sizes (a b : Int) : Prop := 0 ≤ a ∧ a ≤ 64 ∧ 0 ≤ b ∧ b ≤ 64

theorem stack_New (most locals : Int) (w : World) :
    Calls Try.prog 5 #[.int .i64 most, .int .i64 locals] w fun e w' =>
      (¬ Sizes most locals ∧ e = .returned (.tuple #[.pointer none, .int .i64 2]) ∧ w = w') ∨
      (Sizes most locals ∧ ∃ g u, e = .returned (.tuple #[.pointer (some ⟨g, 0, none⟩), .int .i64 0]) ∧
        PFr w.heap.size w' (.pointer (some ⟨g, 0, none⟩)) ⟨[], most, List.replicate locals.toNat zeroV⟩ g (.slice none 0 0) u ∧ Kept w w') := by
  by_cases h : 0 ≤ most ∧ most ≤ 64 ∧ 0 ≤ locals ∧ locals ≤ 64
  · obtain ⟨a1, a2, a3, a4⟩ := h
    obtain ⟨n, rfl⟩ : ∃ n : Nat, locals = n := ⟨locals.toNat, by omega⟩
    obtain ⟨i0, hi, hz0, hz1, hz2⟩ := info_parts elem_val.hi
    go_enter Try.func5, Try.ntmps5
    have hmk : i0.bytes * n ≤ 281474976710656 := by rw [hz2]; omega
    go_wp2_with (at_make; refine wpList_make_full _ rfl _ _ 30 rfl w.heap.size 34 i0 (.agg #[.bool false, .int .i64 0]) 2 Try.underlying30 hi hz0 hz1 .i64 .i64 n n n rfl rfl rfl rfl hmk (by unfold maxLen; omega) (Nat.le_refl _) ?_; intro w1 ho1 hg1)
    go_ret2
    have hs := (ho1.lt w.heap.size rfl).2
    refine .inr ⟨⟨a1, a2, a3, a4⟩, w1.heap.size, _, rfl, ⟨rfl, Blk.new _ _ _, World.ownsRow_nil _ _ _ _, ?_, Nat.le_of_lt hs, fun k hk => by cases hk⟩, ?_⟩
    · have := ho1.alloc (.cells #[.slice none 0 0, .int .i64 most, .slice (some ⟨w.heap.size, 0, none⟩) n n] 48)
      rw [made_vals] at this
      simpa using this
    · exact ((Below.refl _ _).grown hg1 (Nat.le_refl _) (fun k hk => by cases hk)).alloc (Nat.le_of_lt hs) _
  · rcases (by omega : most < 0 ∨ (¬ most < 0 ∧ 64 < most) ∨ (¬ most < 0 ∧ ¬ 64 < most ∧ locals < 0) ∨ (¬ most < 0 ∧ ¬ 64 < most ∧ ¬ locals < 0 ∧ 64 < locals)) with hh | hh | hh | hh
    all_goals
      have H := Lib.hid (show ¬ Sizes most locals from h)
      clear h
      go_enter Try.func5, Try.ntmps5
      go_wp2
      go_ret2
      exact .inl ⟨H.out, rfl, rfl⟩


theorem blk_grown3 {w w' : World} {g : Nat} {t : TypeId} {cs : Array Value} {row : Option Nat} (h : Blk w g t cs) (hg : w.grownBy w' row) (hn : ∀ k, row = some k → k ≠ g) : Blk w' g t cs :=
  (hg.block g h.lt (fun e => hn g e.symm rfl)).trans h

/-- A store of an owned row's new slice into a frame's first cell. -/
theorem IsFr.hold {T E B : Nat} {w : World} {x : FrV} {g : Nat} {v0 v u : Value} {l : List ValV} (hb : Blk w g T #[v0, .int .i64 x.most, u]) (ho : w.ownsRow B E 2 v l.length (l.flatMap encVal)) (hu : w.ownsRow B E 2 u x.loc.length (x.loc.flatMap encVal))
    (hge : B ≤ g) (hap : ∀ k, v.ownBlock = some k → u.ownBlock = some k → False) (hne : E ≠ T) :
    IsFr T E B (w.setCell ⟨g, 0, none⟩ v) (.pointer (some ⟨g, 0, none⟩)) ⟨l, x.most, x.loc⟩ g v u :=
  ⟨rfl, by simpa using hb.set_ 0 v, Touch.own (S := fun b => b = g) ((Touch.refl (fun b => b = g) w).setCell (p := ⟨g, 0, none⟩) (.inl rfl) v) ho (own_ne ho hb hne),
    Touch.own (S := fun b => b = g) ((Touch.refl (fun b => b = g) w).setCell (p := ⟨g, 0, none⟩) (.inl rfl) v) hu (own_ne hu hb hne), hge, hap⟩

/-- Behind an append and the store of its slice: the frame. -/
theorem IsFr.pushed {T E B : Nat} {W W1 : World} {x : FrV} {g : Nat} {v0 v u : Value} {y : ValV} {g1 cp : Nat} {o : Obj} (hb : Blk W g T #[v0, .int .i64 x.most, u]) (ho : W.ownsRow B E 2 v x.l.length (x.l.flatMap encVal)) (hu : W.ownsRow B E 2 u x.loc.length (x.loc.flatMap encVal))
    (hap : ∀ k, v.ownBlock = some k → u.ownBlock = some k → False) (hne : E ≠ T) (hge : B ≤ g)
    (hown : W1.ownsRow B E 2 (.slice (some ⟨g1, 0, none⟩) (x.l.length + 1) cp) (x.l.length + 1) (x.l.flatMap encVal ++ encVal y)) (hg : (W.alloc o).drew.grownBy W1 v.ownBlock) (hat : v.ownBlock = some g1 ∨ g1 = W.heap.size + 1) :
    IsFr T E B (W1.setCell ⟨g, 0, none⟩ (.slice (some ⟨g1, 0, none⟩) (x.l.length + 1) cp)) (.pointer (some ⟨g, 0, none⟩)) ⟨x.l ++ [y], x.most, x.loc⟩ g (.slice (some ⟨g1, 0, none⟩) (x.l.length + 1) cp) u ∧
      Touch (footF g v u) W (W1.setCell ⟨g, 0, none⟩ (.slice (some ⟨g1, 0, none⟩) (x.l.length + 1) cp)) ∧ ∀ k, (Value.slice (some ⟨g1, 0, none⟩) (x.l.length + 1) cp).ownBlock = some k → v.ownBlock = some k ∨ W.heap.size ≤ k := by
  have hT : Touch (fun b => v.ownBlock = some b) (W.alloc o).drew W1 := Touch.of_grown hg fun k hk => hk
  have hT0 : Touch (fun b => v.ownBlock = some b) W W1 := (((Touch.refl (fun _ => False) W).alloc o).drew.mono (fun _ h => h.elim)).trans hT fun b hb => .inl hb
  have hb1 : Blk W1 g T #[v0, .int .i64 x.most, u] := hb.touch hT0 fun e => own_ne ho hb hne g e rfl
  have hu1 := hT0.own hu fun k hk hk' => hap k hk' hk
  refine ⟨IsFr.hold (v0 := v0) hb1 (by simpa using hown) hu1 hge ?_ hne, (hT0.mono fun b hb => .inr (.inl hb)).setCell (.inl (.inl rfl)) _, ?_⟩
  · intro k hk hk'
    have hk1 : g1 = k := by simpa [Value.ownBlock] using hk
    subst hk1
    rcases hat with h | h
    · exact hap _ h hk'
    · have := (hu.lt _ hk').2
      omega
  · intro k hk
    have hk1 : g1 = k := by simpa [Value.ownBlock] using hk
    subst hk1
    rcases hat with h | h
    · exact .inl h
    · exact .inr (by omega)

theorem stack_push_no (w : World) (g : Nat) (v u : Value) (n : Nat) (m : Int) (y : ValV) (hb : Blk w g 48 #[v, .int .i64 m, u]) (ho : ∃ a c, v = .slice a n c) (hl : m ≤ n) :
    Calls Try.prog 21 #[.pointer (some ⟨g, 0, none⟩), .agg #[.bool y.ref, .int .i64 y.n]] w fun e w' => e = .returned (.bool false) ∧ Kept w w' := by
  obtain ⟨a, c, rfl⟩ := ho
  have c0 := hb.cell 0
  have c1 := hb.cell 1
  simp at c0 c1
  have hbl := hb.lt
  clear hb
  go_enter Try.func21, Try.ntmps21
  go_wp2
  go_quiet (fail)
  go_wp2
  go_ret
  exact ⟨rfl, kept_drewN ((Below.refl _ _).alloc (Nat.le_refl _) _) _⟩

set_option maxHeartbeats 1000000 in
theorem stack_push (B : Nat) (w : World) (x : FrV) (g : Nat) (v u : Value) (y : ValV) (h : PFr B w (.pointer (some ⟨g, 0, none⟩)) x g v u) (hBw : B ≤ w.heap.size) (hl : x.l.length ≤ 64) (hm : x.l.length < x.most) :
    Calls Try.prog 21 #[.pointer (some ⟨g, 0, none⟩), .agg #[.bool y.ref, .int .i64 y.n]] w fun e w' =>
      e = .returned (.bool true) ∧ ∃ v', PFr B w' (.pointer (some ⟨g, 0, none⟩)) ⟨x.l ++ [y], x.most, x.loc⟩ g v' u ∧ Touch (footF g v u) w w' ∧ ∀ k, v'.ownBlock = some k → v.ownBlock = some k ∨ w.heap.size ≤ k := by
  obtain ⟨-, hb, ho, hu, hB, hap⟩ := h
  obtain ⟨a, c, rfl, hlc, hc⟩ := own_slice ho
  have c0 := hb.cell 0
  have c1 := hb.cell 1
  have f0 := hb.frozen 0
  simp at c0 c1
  have hbl := hb.lt
  have HB := Lib.hid hb
  have HO := Lib.hid ho
  have HU := Lib.hid hu
  have HA := Lib.hid hap
  obtain ⟨i0, hi, hz0, hz1, hz2⟩ := info_parts elem_val.hi
  have HI := Lib.hid hi
  have HZ0 := Lib.hid hz0
  have HZ1 := Lib.hid hz1
  have HZ2 := Lib.hid hz2
  clear hb ho hu hap hi hz0 hz1 hz2
  go_enter Try.func21, Try.ntmps21
  go_wp2_with (fail)
  go_quiet (fail)
  go_wp2_with fail
  obtain ⟨W, hW⟩ : ∃ W, W = (w.alloc (.cells #[.bool y.ref, .int .i64 y.n] 34)).drewN nq := ⟨_, rfl⟩
  have kW : Kept w W := by rw [hW]; exact kept_drewN ((Below.refl _ _).alloc (Nat.le_refl _) _) nq
  have bW : Blk W w.heap.size 34 #[.bool y.ref, .int .i64 y.n] := by rw [hW]; exact (Blk.new w _ _).drewN nq
  have sW : W.heap.size = w.heap.size + 1 := by rw [hW]; simp [World.drewN]
  rw [← hW]
  clear hW
  have BW := Lib.hid (HB.out.kept kW)
  have OW := Lib.hid (Touch.own (S := fun _ => False) (Touch.of_kept kW) HO.out (fun _ _ => id))
  have UW := Lib.hid (Touch.own (S := fun _ => False) (Touch.of_kept kW) HU.out (fun _ _ => id))
  have SW := Lib.hid sW
  have w0 := kW.cell c0
  have w1 := kW.cell c1
  have wf0 := BW.out.frozen 0
  have y0 := bW.cell 0
  have y1 := bW.cell 1
  simp at y0 y1
  have hlt : w.heap.size < W.heap.size := by omega
  have hgW : g < W.heap.size := by omega
  have hne : ¬ g = w.heap.size := by omega
  have KW := Lib.hid (Touch.of_kept (S := footF g (.slice a x.l.length c) u) kW)
  clear sW kW bW c0 c1 f0
  go_region_law (refine step_append_lies _ rfl (.tmp 19) (.tmp 21) 30 rfl B 34 i0 (.agg #[.bool false, .int .i64 0]) 2 16 Try.underlying30 HI.out HZ0.out HZ1.out HZ2.out rfl (by decide) (.slice a x.l.length c) x.l.length (x.l.flatMap encVal) (by simp [Act.eval, Act.put]) (OW.out.alloc _) ⟨W.heap.size, 0, none⟩ 1 1 (encVal y) (by simp [Act.eval, Act.put]) rfl (World.news_of_block (Blk.new W _ _)) (encVal_one y) (by omega) (by unfold maxLen; omega) (by omega) (by simp; omega) (W.heap.size + 1) (by simp) ?_; intro g1 cp W1 ho1 hg1 hat1 hlt1; have qb := Lib.hid (blk_grown3 (w := (W.alloc (.cells #[.bool y.ref, .int .i64 y.n] 34)).drew) (BW.out.alloc _) hg1 (own_ne OW.out BW.out (by decide))); have qf := qb.out.frozen 0; have q0 := qb.out.cell 0; simp at q0; have QO := Lib.hid ho1; have QG := Lib.hid hg1; have QA := Lib.hid hat1; clear ho1 hg1 hat1)
  all_goals go_wp2
  all_goals go_ret
  all_goals have hp := IsFr.pushed (x := x) BW.out OW.out UW.out HA.out (by decide) hB QO.out QG.out QA.out
  all_goals exact ⟨rfl, _, hp.1, (KW.out.trans hp.2.1 fun b hb => .inl hb), fun k hk => (hp.2.2 k hk).imp id fun h => by have := SW.out; omega⟩
end Go.Proofs.Ytfjkcokollkijaa
