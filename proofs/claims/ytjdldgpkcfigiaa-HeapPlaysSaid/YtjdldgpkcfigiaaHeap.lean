/-
  Package heap by contract: the store behind the interface.
-/
import Derived.Test.YtjdldgpkcfigiaaVal
import Derived.Deep.RegionWith
namespace Go.Proofs.Ytjdldgpkcfigiaa
open Go.RowKit
set_option maxRecDepth 100000

/-- An object as data, and where it stands: its block, its slots' slice. -/
structure It where
  b : Nat
  s : Value
  cls : ByteArray
  sl : List ValV

def Far (x y : It) : Prop := x.b ≠ y.b ∧ (∀ k, x.s.ownBlock = some k → y.s.ownBlock = some k → False)

/-- The objects of a heap in memory. B: nothing of it lies below. -/
structure Objs (B : Nat) (w : World) (its : List It) : Prop where
  blk : ∀ x ∈ its, Blk w x.b 95 #[.string x.cls, x.s] ∧ B ≤ x.b
  row : ∀ x ∈ its, Row w B 57 2 x.s x.sl.length (x.sl.flatMap encVal)
  far : its.Pairwise Far

/-- A heap behind a pointer: its block g, its row's block r, the row's slice v. -/
structure IsHp (B : Nat) (w : World) (p : Value) (most : Int) (its : List It) (g r : Nat) (v : Value) : Prop where
  ptr : p = .pointer (some ⟨g, 0, none⟩)
  blk : Blk w g 89 #[.int .i64 most, .iface 82 (.pointer (some ⟨r, 0, none⟩))]
  row : Blk w r 85 #[v]
  own : w.ownsRow B 91 1 v its.length (its.map fun x => .pointer (some ⟨x.b, 0, none⟩))
  objs : Objs B w its
  ge : B ≤ g ∧ B ≤ r

def footH (g r : Nat) (v : Value) (its : List It) (b : Nat) : Prop := b = g ∨ b = r ∨ v.ownBlock = some b ∨ ∃ x ∈ its, b = x.b ∨ x.s.ownBlock = some b

section
variable {B : Nat} {w w' : World} {p : Value} {most : Int} {its : List It} {g r : Nat} {v : Value} {S : Nat → Prop}
theorem Objs.apart (h : Objs B w its) (ht : Touch S w w') (hn : ∀ x ∈ its, ∀ b, b = x.b ∨ x.s.ownBlock = some b → ¬ S b) : Objs B w' its :=
  ⟨fun x hx => ⟨(h.blk x hx).1.touch ht (hn x hx x.b (.inl rfl)), (h.blk x hx).2⟩, fun x hx => (h.row x hx).touch ht fun k hk => hn x hx k (.inr hk), h.far⟩
theorem IsHp.apart (h : IsHp B w p most its g r v) (ht : Touch S w w') (hn : ∀ b, footH g r v its b → ¬ S b) : IsHp B w' p most its g r v :=
  ⟨h.ptr, h.blk.touch ht (hn g (.inl rfl)), h.row.touch ht (hn r (.inr (.inl rfl))), ht.own h.own (fun k hk => hn k (.inr (.inr (.inl hk)))), h.objs.apart ht fun x hx b hb => hn b (.inr (.inr (.inr ⟨x, hx, hb⟩))), h.ge⟩
theorem IsHp.still (h : IsHp B w p most its g r v) (ht : Touch (fun _ => False) w w') : IsHp B w' p most its g r v := h.apart ht fun _ _ => id
theorem IsHp.kept (h : IsHp B w p most its g r v) (hk : Kept w w') : IsHp B w' p most its g r v := h.still (Touch.of_kept hk)
theorem IsHp.foot_ge (h : IsHp B w p most its g r v) : ∀ b, footH g r v its b → B ≤ b ∧ b < w.heap.size := by
  rintro b (rfl | rfl | hb | ⟨x, hx, rfl | hb⟩)
  · exact ⟨h.ge.1, h.blk.lt⟩
  · exact ⟨h.ge.2, h.row.lt⟩
  · exact h.own.lt b hb
  · exact ⟨(h.objs.blk x hx).2, (h.objs.blk x hx).1.lt⟩
  · exact (h.objs.row x hx).lt b hb
theorem IsHp.below (h : IsHp B w p most its g r v) (ht : Touch (footH g r v its) w w') (hBw : B ≤ w.heap.size) : Below B w w' := ht.below (fun b hb => (h.foot_ge b hb).1) hBw
end

theorem row_count (w : World) (r : Nat) (v : Value) (n : Nat) (hr : Blk w r 85 #[v]) (hv : ∃ a c, v = .slice a n c) (hn : 1 ≤ n) (hn2 : n ≤ 10000) :
    Calls Try.prog 49 #[.pointer (some ⟨r, 0, none⟩)] w fun e w' => e = .returned (.int .i64 ((n : Int) - 1)) ∧ w = w' := by
  obtain ⟨a, c, rfl⟩ := hv
  have c0 := hr.cell 0
  simp at c0
  clear hr
  go_enter Try.func49, Try.ntmps49
  go_wp2
  go_ret
  exact ⟨rfl, rfl⟩

theorem heap_Count (B : Nat) (w : World) (p : Value) (most : Int) (its : List It) (g r : Nat) (v : Value) (h : IsHp B w p most its g r v) (hn : 1 ≤ its.length) (hn2 : its.length ≤ 10000) :
    Calls Try.prog 20 #[p] w fun e w' => e = .returned (.int .i64 ((its.length : Int) - 1)) ∧ ∃ m, w' = w.drewN m := by
  obtain ⟨rfl, hb, hr, ho, hj, hB⟩ := h
  obtain ⟨a, c, rfl, hlc, hc⟩ := own_slice ho
  have c1 := hb.cell 1
  simp at c1
  have C := row_count w r _ its.length hr ⟨a, c, rfl⟩ hn hn2
  clear hb hr ho hj
  go_enter Try.func20, Try.ntmps20
  go_wp2_with fail
  refine C.mono ?_
  rintro e w' ⟨rfl, rfl⟩
  go_wp2
  go_ret
  exact ⟨rfl, 0, rfl⟩

theorem row_at_no (w : World) (r : Nat) (v : Value) (n : Nat) (t : Int) (hr : Blk w r 85 #[v]) (hv : ∃ a c, v = .slice a n c) (ht : ¬ (1 ≤ t ∧ t ≤ n)) :
    Calls Try.prog 48 #[.pointer (some ⟨r, 0, none⟩), .int .i64 t] w fun e w' => e = .returned (.pointer none) ∧ w = w' := by
  obtain ⟨a, c, rfl⟩ := hv
  have c0 := hr.cell 0
  simp at c0
  clear hr
  rcases (by omega : t < 1 ∨ (1 ≤ t ∧ (n : Int) < t)) with h | ⟨h0, h⟩
  all_goals
    clear ht
    go_enter Try.func48, Try.ntmps48
    go_wp2
    go_ret
    exact ⟨rfl, rfl⟩

theorem row_at (B : Nat) (w : World) (r : Nat) (v : Value) (its : List It) (k : Nat) (x : It) (hr : Blk w r 85 #[v]) (ho : w.ownsRow B 91 1 v its.length (its.map fun x => .pointer (some ⟨x.b, 0, none⟩))) (hx : its[k]? = some x) (hn2 : its.length ≤ 10000) :
    Calls Try.prog 48 #[.pointer (some ⟨r, 0, none⟩), .int .i64 ((k : Int) + 1)] w fun e w' => e = .returned (.pointer (some ⟨x.b, 0, none⟩)) ∧ ∃ m, w' = w.drewN m := by
  have hk := (List.getElem?_eq_some_iff.1 hx).1
  obtain ⟨q, c, rfl, _, _, _, _, hcell, _⟩ := own_form ho (by omega)
  have x0 := hcell k (.pointer (some ⟨x.b, 0, none⟩)) (by rw [List.getElem?_map, hx]; rfl)
  have c0 := hr.cell 0
  simp at c0
  have h1 : (1 : Int) ≤ (k : Int) + 1 := by omega
  have h2 : (k : Int) + 1 ≤ (its.length : Int) := by omega
  clear hr ho hcell hx
  go_enter Try.func48, Try.ntmps48
  go_wp2_with fail
  go_ret
  exact ⟨rfl, 0, rfl⟩

theorem blk_at {w : World} {g : Nat} {t : TypeId} {cs : Array Value} (h : w.heap.size = g) : Blk (w.alloc (.cells cs t)) g t cs := h ▸ Blk.new w t cs
theorem blk_grownH {w w' : World} {g : Nat} {t : TypeId} {cs : Array Value} {row : Option Nat} (h : Blk w g t cs) (hg : w.grownBy w' row) (hn : ∀ k, row = some k → k ≠ g) : Blk w' g t cs :=
  (hg.block g h.lt (fun e => hn g e.symm rfl)).trans h

theorem elem_obj : ElemTy Try.prog 83 91 (.pointer none) 1 8 := ⟨Try.underlying83, by kernel_rfl, rfl, by decide⟩

theorem row_add (B : Nat) (w : World) (r : Nat) (v : Value) (bs : List Value) (n b : Nat) (hr : Blk w r 85 #[v]) (ho : w.ownsRow B 91 1 v n bs) (hn2 : n ≤ 10000) (hBw : B ≤ w.heap.size) :
    Calls Try.prog 47 #[.pointer (some ⟨r, 0, none⟩), .pointer (some ⟨b, 0, none⟩)] w fun e w' => e = .returned (.int .i64 ((n : Int) + 1)) ∧ ∃ v', Blk w' r 85 #[v'] ∧ w'.ownsRow B 91 1 v' (n + 1) (bs ++ [.pointer (some ⟨b, 0, none⟩)]) ∧
      Touch (fun k => k = r ∨ v.ownBlock = some k) w w' ∧ ∀ k, v'.ownBlock = some k → v.ownBlock = some k ∨ w.heap.size ≤ k := by
  obtain ⟨a, c, rfl, hlc, hc⟩ := own_slice ho
  have c0 := hr.cell 0
  have f0 := hr.frozen 0
  simp at c0
  go_enter Try.func47, Try.ntmps47
  go_wp2_with (at_builtin; refine wpl_push_at _ elem_obj rfl _ _ rfl B _ _ _ rfl ho [.pointer (some ⟨b, 0, none⟩)] _ rfl rfl (fun u hu => by simp at hu; rw [hu]; rfl) (by omega) (by omega) hBw ?_; intro v1 w1 ho1 hg1 hk1; obtain ⟨a1, c1, rfl, hl1, hc1⟩ := own_slice ho1; have hT := Touch.of_grown (S := fun k => k = r ∨ (Value.slice a n c).ownBlock = some k) hg1 (fun k hk => .inr hk); have hb1 := blk_grownH hr hg1 (own_ne ho hr (by decide)); have d0 := hb1.cell 0; have f1 := hb1.frozen 0; simp at d0)
  go_ret
  have hh := hb1.hold ho1 (by decide)
  exact ⟨rfl, _, hh.1, hh.2, hT.setCell (.inl (.inl rfl)) _, hk1⟩

/-- A new object beside the others. -/
theorem Objs.snoc {B : Nat} {w : World} {its : List It} {x : It} (h : Objs B w its) (hb : Blk w x.b 95 #[.string x.cls, x.s] ∧ B ≤ x.b) (hr : Row w B 57 2 x.s x.sl.length (x.sl.flatMap encVal)) (hf : ∀ y ∈ its, Far y x) : Objs B w (its ++ [x]) :=
  ⟨fun y hy => by rcases List.mem_append.1 hy with hy | hy; exact h.blk y hy; (obtain rfl : y = x := by simpa using hy); exact hb,
   fun y hy => by rcases List.mem_append.1 hy with hy | hy; exact h.row y hy; (obtain rfl : y = x := by simpa using hy); exact hr,
   List.pairwise_append.2 ⟨h.far, List.pairwise_singleton _ _, fun a ha b hb => by (obtain rfl : b = x := by simpa using hb); exact hf a ha⟩⟩

theorem heap_New_no (most : Int) (w : World) (h : ¬ (0 ≤ most ∧ most ≤ 1000)) :
    Calls Try.prog 17 #[.int .i64 most] w fun e w' => e = .returned (.tuple #[.pointer none, .int .i64 1]) ∧ w = w' := by
  rcases (by omega : most < 0 ∨ (0 ≤ most ∧ 1000 < most)) with hh | ⟨h0, hh⟩
  all_goals
    clear h
    go_enter Try.func17, Try.ntmps17
    go_wp2
    go_ret2
    exact ⟨rfl, rfl⟩

def memErr : ByteArray := ⟨#[106, 97, 118, 97, 47, 108, 97, 110, 103, 47, 79, 117, 116, 79, 102, 77, 101, 109, 111, 114, 121, 69, 114, 114, 111, 114]⟩

theorem heap_New (most : Int) (w : World) (h0 : 0 ≤ most) (h1 : most ≤ 1000) :
    Calls Try.prog 17 #[.int .i64 most] w fun e w' => ∃ g r v b, e = .returned (.tuple #[.pointer (some ⟨g, 0, none⟩), .int .i64 0]) ∧ IsHp w.heap.size w' (.pointer (some ⟨g, 0, none⟩)) most [⟨b, .slice none 0 0, memErr, []⟩] g r v ∧ Kept w w' := by
  go_enter Try.func17, Try.ntmps17
  go_wp2_with fail
  obtain ⟨W, hW⟩ : ∃ W, W = ((w.alloc (.cells #[.slice none 0 0] 85)).alloc (.cells #[.int .i64 most, .iface 82 (.pointer (some ⟨w.heap.size, 0, none⟩))] 89)).alloc (.cells #[.string memErr, .slice none 0 0] 95) := ⟨_, rfl⟩
  have k0 : Kept w W := by rw [hW]; exact (((Below.refl _ _).alloc (Nat.le_refl _) _).alloc (by simp) _).alloc (by simp; omega) _
  have br : Blk W w.heap.size 85 #[.slice none 0 0] := by rw [hW]; exact ((Blk.new _ _ _).alloc _).alloc _
  have bg : Blk W (w.heap.size + 1) 89 #[.int .i64 most, .iface 82 (.pointer (some ⟨w.heap.size, 0, none⟩))] := by rw [hW]; exact (blk_at (by simp)).alloc _
  have bb : Blk W (w.heap.size + 1 + 1) 95 #[.string memErr, .slice none 0 0] := by rw [hW]; exact blk_at (by simp)
  have sW : w.heap.size + 1 + 1 < W.heap.size := bb.lt
  have C := row_add w.heap.size W w.heap.size _ [] 0 (w.heap.size + 1 + 1) br (World.ownsRow_nil _ _ _ _) (by omega) (by omega)
  unfold memErr at hW
  rw [← hW]
  refine C.mono ?_
  rintro e W1 ⟨rfl, v1, b1, o1, t1, -⟩
  have ht : Touch (fun b => b = w.heap.size) W W1 := t1.mono fun b hb => by rcases hb with h | h; exact h; cases h
  have bg1 := bg.touch ht (by omega)
  have bb1 := bb.touch ht (by omega)
  have k1 : Kept w W1 := Below.trans k0 (ht.below (fun b hb => by omega) k0.size)
  have fin : IsHp w.heap.size W1 (.pointer (some ⟨w.heap.size + 1, 0, none⟩)) most [⟨w.heap.size + 1 + 1, .slice none 0 0, memErr, []⟩] (w.heap.size + 1) w.heap.size v1 :=
    ⟨rfl, bg1, b1, by simpa using o1, ⟨fun x hx => by (obtain rfl : x = _ := by simpa using hx); exact ⟨bb1, by show w.heap.size ≤ w.heap.size + 1 + 1; omega⟩, fun x hx => by (obtain rfl : x = _ := by simpa using hx); exact Row.nil _ _ _ _, List.pairwise_singleton _ _⟩, by omega, by omega⟩
  have F := Lib.hid fin
  have K := Lib.hid k1
  clear C hW k0 br bg bb b1 o1 t1 ht bg1 bb1 k1 fin
  go_wp2
  go_ret2
  exact ⟨_, _, _, _, rfl, F.out, K.out⟩
end Go.Proofs.Ytjdldgpkcfigiaa
