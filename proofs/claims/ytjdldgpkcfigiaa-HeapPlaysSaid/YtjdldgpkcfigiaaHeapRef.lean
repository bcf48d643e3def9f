/-
  The document's own heap (turnstileref15.Heap) by contract: the words, Class.
-/
import Derived.Test.YtjdldgpkcfigiaaHeap3
namespace Go.Proofs.Ytjdldgpkcfigiaa
open Go.RowKit
set_option maxRecDepth 100000

/-- An object of the document's heap as data: its class and slots, and its slots' slice. -/
structure Ob where
  cls : ByteArray
  s : Value
  sl : List ValV
def encOb (x : Ob) : List Value := [.string x.cls, x.s]
theorem encOb_len (x : Ob) : (encOb x).length = 2 := rfl

/-- The document's heap behind a pointer: its block g, its row's slice v. -/
structure IsRh (B : Nat) (w : World) (p : Value) (most : Int) (obs : List Ob) (g : Nat) (v : Value) : Prop where
  ptr : p = .pointer (some ⟨g, 0, none⟩)
  blk : Blk w g 72 #[.int .i64 most, v]
  own : w.ownsRow B 98 2 v obs.length (obs.flatMap encOb)
  row : ∀ x ∈ obs, Row w B 57 2 x.s x.sl.length (x.sl.flatMap encVal)
  far : obs.Pairwise fun x y => ∀ k, x.s.ownBlock = some k → y.s.ownBlock = some k → False
  ge : B ≤ g

def footR (g : Nat) (v : Value) (obs : List Ob) (b : Nat) : Prop := b = g ∨ v.ownBlock = some b ∨ ∃ x ∈ obs, x.s.ownBlock = some b

section
variable {B : Nat} {w w' : World} {p : Value} {most : Int} {obs : List Ob} {g : Nat} {v : Value} {S : Nat → Prop}
theorem IsRh.apart (h : IsRh B w p most obs g v) (ht : Touch S w w') (hn : ∀ b, footR g v obs b → ¬ S b) : IsRh B w' p most obs g v :=
  ⟨h.ptr, h.blk.touch ht (hn g (.inl rfl)), ht.own h.own (fun k hk => hn k (.inr (.inl hk))), fun x hx => (h.row x hx).touch ht fun k hk => hn k (.inr (.inr ⟨x, hx, hk⟩)), h.far, h.ge⟩
theorem IsRh.still (h : IsRh B w p most obs g v) (ht : Touch (fun _ => False) w w') : IsRh B w' p most obs g v := h.apart ht fun _ _ => id
theorem IsRh.kept (h : IsRh B w p most obs g v) (hk : Kept w w') : IsRh B w' p most obs g v := h.still (Touch.of_kept hk)
theorem IsRh.foot_lt (h : IsRh B w p most obs g v) : ∀ b, footR g v obs b → B ≤ b ∧ b < w.heap.size := by
  rintro b (rfl | hb | ⟨x, hx, hb⟩)
  · exact ⟨h.ge, h.blk.lt⟩
  · exact h.own.lt b hb
  · exact (h.row x hx).lt b hb
end

theorem ref_Class_no (B : Nat) (w : World) (p : Value) (most : Int) (obs : List Ob) (g : Nat) (v : Value) (t : Int) (h : IsRh B w p most obs g v) (hi2 : obs.length ≤ 1001) (ht : ¬ (1 ≤ t ∧ t ≤ obs.length)) :
    Calls Try.prog 25 #[p, .int .i64 t] w fun e w' => e = .returned (.string ⟨#[]⟩) ∧ ∃ m, w' = w.drewN m := by
  obtain ⟨rfl, hb, ho, hr, hf, hB⟩ := h
  obtain ⟨a, c, rfl, hlc, hc⟩ := own_slice ho
  have c1 := hb.cell 1
  simp at c1
  clear hb ho hr hf
  rcases (by omega : t < 1 ∨ (¬ t < 1 ∧ (obs.length : Int) < t)) with h | ⟨h0, h⟩
  all_goals
    clear ht
    go_enter Try.func25, Try.ntmps25
    go_wp2
    go_ret
    exact ⟨rfl, 0, rfl⟩

theorem ob_cell {w : World} {B n : Nat} {v : Value} {obs : List Ob} {k : Nat} {x : Ob} (ho : w.ownsRow B 98 2 v n (obs.flatMap encOb)) (hn : n = obs.length) (hx : obs[k]? = some x) :
    ∃ r c, v = .slice (some ⟨r, 0, none⟩) n c ∧ w.cell? ⟨r, k * 2, none⟩ = some (.string x.cls) ∧ w.cell? ⟨r, k * 2 + 1, none⟩ = some x.s ∧ c ≤ 9223372036854775807 := by
  have hk := (List.getElem?_eq_some_iff.1 hx).1
  obtain ⟨_, _, hv0, _, hc0⟩ := own_slice ho
  obtain ⟨r, c, hv, _, _, _, _, hcell, _⟩ := own_form ho (by omega)
  rw [hv0] at hv
  simp only [Value.slice.injEq] at hv
  obtain ⟨rfl, -, rfl⟩ := hv
  refine ⟨r, _, hv0, hcell _ _ ?_, hcell _ _ ?_, hc0⟩
  · have := flat_get encOb 2 encOb_len obs k 0 x hx (by omega)
    simpa [encOb] using this
  · have := flat_get encOb 2 encOb_len obs k 1 x hx (by omega)
    simpa [encOb] using this

theorem ref_Class (B : Nat) (w : World) (p : Value) (most : Int) (obs : List Ob) (g : Nat) (v : Value) (k : Nat) (x : Ob) (h : IsRh B w p most obs g v) (hi2 : obs.length ≤ 1001) (hx : obs[k]? = some x) :
    Calls Try.prog 25 #[p, .int .i64 ((k : Int) + 1)] w fun e w' => e = .returned (.string x.cls) ∧ ∃ m, w' = w.drewN m := by
  have hk := (List.getElem?_eq_some_iff.1 hx).1
  obtain ⟨rfl, hb, ho, hr, hf, hB⟩ := h
  obtain ⟨n, hn⟩ : ∃ n, n = obs.length := ⟨_, rfl⟩
  rw [← hn] at ho hi2 hk
  obtain ⟨r, c, rfl, z0, z1, hc⟩ := ob_cell ho hn hx
  have c1 := hb.cell 1
  simp at c1
  have h1 : ¬ (k : Int) + 1 < 1 := by omega
  have h2 : ¬ (n : Int) < (k : Int) + 1 := by omega
  clear hb ho hr hf hn hx
  go_enter Try.func25, Try.ntmps25
  go_wp2_with fail
  go_ret
  exact ⟨rfl, 0, rfl⟩

/-- What the document's slot answers. -/
def slotR (obs : List Ob) (t u : Int) : Int := if 1 ≤ t ∧ t ≤ obs.length then (if 0 ≤ u ∧ u < ((obs[(t - 1).toNat]?.map (·.sl)).getD []).length then 0 else 1) else 40

theorem ref_slot_no (B : Nat) (w : World) (p : Value) (most : Int) (obs : List Ob) (g : Nat) (v : Value) (t u : Int) (h : IsRh B w p most obs g v) (hi2 : obs.length ≤ 1001) (ht : ¬ (1 ≤ t ∧ t ≤ obs.length)) :
    Calls Try.prog 31 #[p, .int .i64 t, .int .i64 u] w fun e w' => e = .returned (.int .i64 40) ∧ ∃ m, w' = w.drewN m := by
  obtain ⟨rfl, hb, ho, hr, hf, hB⟩ := h
  obtain ⟨a, c, rfl, hlc, hc⟩ := own_slice ho
  have c1 := hb.cell 1
  simp at c1
  clear hb ho hr hf
  rcases (by omega : t < 1 ∨ (¬ t < 1 ∧ (obs.length : Int) < t)) with h | ⟨h0, h⟩
  all_goals
    clear ht
    go_enter Try.func31, Try.ntmps31
    go_wp2
    go_ret
    exact ⟨rfl, 0, rfl⟩

theorem ref_slot (B : Nat) (w : World) (p : Value) (most : Int) (obs : List Ob) (g : Nat) (v : Value) (k : Nat) (x : Ob) (u : Int) (h : IsRh B w p most obs g v) (hi2 : obs.length ≤ 1001) (hx : obs[k]? = some x) :
    Calls Try.prog 31 #[p, .int .i64 ((k : Int) + 1), .int .i64 u] w fun e w' => e = .returned (.int .i64 (if 0 ≤ u ∧ u < x.sl.length then 0 else 1)) ∧ ∃ m, w' = w.drewN m := by
  have hk := (List.getElem?_eq_some_iff.1 hx).1
  have hrow := h.row x (List.mem_of_getElem? hx)
  obtain ⟨rfl, hb, ho, hr, hf, hB⟩ := h
  obtain ⟨n, hn⟩ : ∃ n, n = obs.length := ⟨_, rfl⟩
  rw [← hn] at ho hi2 hk
  obtain ⟨r, c, rfl, z0, z1, hc⟩ := ob_cell ho hn hx
  have c1 := hb.cell 1
  simp at c1
  obtain ⟨_, sa, cs, hs, s1, s2, _⟩ := hrow.rd
  rw [hs] at z1
  have h1 : ¬ (k : Int) + 1 < 1 := by omega
  have h2 : ¬ (n : Int) < (k : Int) + 1 := by omega
  clear hb ho hr hf hn hx hrow hs
  rcases (by omega : u < 0 ∨ (¬ u < 0 ∧ (x.sl.length : Int) ≤ u) ∨ (0 ≤ u ∧ u < (x.sl.length : Int))) with h | ⟨h0, h⟩ | ⟨h0, h⟩
  · have he : (if 0 ≤ u ∧ u < x.sl.length then (0 : Int) else 1) = 1 := if_neg (by omega)
    rw [he]
    clear he
    go_enter Try.func31, Try.ntmps31
    go_wp2_with fail
    go_ret
    exact ⟨rfl, 0, rfl⟩
  · have he : (if 0 ≤ u ∧ u < x.sl.length then (0 : Int) else 1) = 1 := if_neg (by omega)
    rw [he]
    clear he
    go_enter Try.func31, Try.ntmps31
    go_wp2_with fail
    go_ret
    exact ⟨rfl, 0, rfl⟩
  · have he : (if 0 ≤ u ∧ u < x.sl.length then (0 : Int) else 1) = 0 := if_pos ⟨h0, h⟩
    rw [he]
    clear he
    go_enter Try.func31, Try.ntmps31
    go_wp2_with fail
    go_ret
    exact ⟨rfl, 0, rfl⟩

theorem ref_Get_err (B : Nat) (w : World) (p : Value) (most : Int) (obs : List Ob) (g : Nat) (v : Value) (t u e : Int) (h : IsRh B w p most obs g v) (he : ¬ e = 0)
    (C : Calls Try.prog 31 #[p, .int .i64 t, .int .i64 u] (w.alloc (.cells #[.bool false, .int .i64 0] 57)) fun e' w' => e' = .returned (.int .i64 e) ∧ ∃ m, w' = (w.alloc (.cells #[.bool false, .int .i64 0] 57)).drewN m) :
    Calls Try.prog 24 #[p, .int .i64 t, .int .i64 u] w fun e' w' => e' = .returned (.tuple #[.agg #[.bool false, .int .i64 0], .int .i64 e]) ∧ Kept w w' := by
  clear h
  go_enter Try.func24, Try.ntmps24
  go_wp2_with fail
  refine C.mono ?_
  rintro e' w' ⟨rfl, m, rfl⟩
  clear C
  go_wp2_with fail
  go_returns
  exact ⟨rfl, by exact ((kept_drewN ((Below.refl _ _).alloc (Nat.le_refl _) _) _).setCell (p := ⟨w.heap.size, 0, none⟩) (Nat.le_refl _) _).setCell (p := ⟨w.heap.size, 1, none⟩) (Nat.le_refl _) _⟩

theorem ref_Get (B : Nat) (w : World) (p : Value) (most : Int) (obs : List Ob) (g : Nat) (v : Value) (k j : Nat) (x : Ob) (y : ValV) (h : IsRh B w p most obs g v) (hi2 : obs.length ≤ 1001) (hx : obs[k]? = some x) (hy : x.sl[j]? = some y) :
    Calls Try.prog 24 #[p, .int .i64 ((k : Int) + 1), .int .i64 j] w fun e' w' => e' = .returned (.tuple #[.agg #[.bool y.ref, .int .i64 y.n], .int .i64 0]) ∧ Kept w w' := by
  have hk := (List.getElem?_eq_some_iff.1 hx).1
  have hj := (List.getElem?_eq_some_iff.1 hy).1
  have C := ref_slot B (w.alloc (.cells #[.bool false, .int .i64 0] 57)) p most obs g v k x j (h.kept ((Below.refl _ _).alloc (Nat.le_refl _) _)) hi2 hx
  rw [if_pos ⟨by omega, by omega⟩] at C
  have C' := Lib.hid C
  have hrow := h.row x (List.mem_of_getElem? hx)
  obtain ⟨rfl, hb, ho, hr, hf, hB⟩ := h
  obtain ⟨n, hn⟩ : ∃ n, n = obs.length := ⟨_, rfl⟩
  rw [← hn] at ho hi2 hk
  obtain ⟨r, c, rfl, z0, z1, hc⟩ := ob_cell ho hn hx
  have c1 := hb.cell 1
  simp at c1
  obtain ⟨bb, off, cs, hs, hcs, s0, s1⟩ := val_rd rfl hrow.rd hy
  rw [hs] at z1
  have h1 : ¬ (k : Int) + 1 < 1 := by omega
  have h2 : ¬ (n : Int) < (k : Int) + 1 := by omega
  have hbb : bb < w.heap.size := World.block_lt_of_cell? w _ s0
  have hrr : r < w.heap.size := World.block_lt_of_cell? w _ z0
  have hgg := hb.lt
  have hw : IntKind.i64.wrap ((k : Int) + 1 - 1) = (k : Int) := by rw [IntWalk.i64_in _ (by omega)]; omega
  clear hb ho hr hf hn hx hy hrow hs C
  go_enter Try.func24, Try.ntmps24
  go_wp2_with fail
  refine C'.out.mono ?_
  rintro e' w' ⟨rfl, m, rfl⟩
  go_wp2_with fail
  go_returns
  exact ⟨rfl, by exact ((kept_drewN ((Below.refl _ _).alloc (Nat.le_refl _) _) _).setCell (p := ⟨w.heap.size, 0, none⟩) (Nat.le_refl _) _).setCell (p := ⟨w.heap.size, 1, none⟩) (Nat.le_refl _) _⟩
end Go.Proofs.Ytjdldgpkcfigiaa
