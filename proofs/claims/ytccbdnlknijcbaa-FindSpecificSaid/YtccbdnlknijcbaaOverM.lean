/-
  Package kin: the iterator over a type's superinterfaces: its memory, and what its steps leave of it.
-/
import Derived.Test.YtccbdnlknijcbaaKin2
import Derived.Test.YtccbdnlknijcbaaRangeX
namespace Go.Proofs.Ytccbdnlknijcbaa
open Go.RowKit Go.Maps Go.WideMaps
set_option maxRecDepth 100000

theorem own_front_ {w : World} {B : Nat} {e : TypeId} {sz n c g k : Nat} {xs : List Value} (h : w.ownsRow B e sz (.slice (some ⟨g, 0, none⟩) n c) n xs) (hk : k ≤ n) : w.ownsRow B e sz (.slice (some ⟨g, 0, none⟩) k c) k (xs.take (k * sz)) := by
  obtain ⟨hl, h⟩ := h
  rcases h with ⟨h0, _⟩ | ⟨g', cap, cur, hv, hg, hh, hn, hc, hs, ht⟩
  · cases h0
  · simp only [Value.slice.injEq, Option.some.injEq, Addr.mk.injEq] at hv
    obtain ⟨⟨rfl, -, -⟩, -, rfl⟩ := hv
    have hle : k * sz ≤ n * sz := Nat.mul_le_mul_right sz hk
    refine ⟨by rw [List.length_take, hl]; omega, .inr ⟨g, c, cur, rfl, hg, hh, Nat.le_trans hk hn, hc, hs, ?_⟩⟩
    rw [← ht, List.take_take, Nat.min_eq_left (by omega)]

theorem wpl_insert {α : Type} {P : Program} (w : World) {ops : Array Oper} {rest : List Oper} {o : Oper} {a : Act} {Q : Exit → Act → World → Prop} [DecidableEq α] (hg : o.guard = none) (m x v : Operand) (t : TypeId) (hop : o.op = Op.insert t m x v) {k e : TypeId} {enc : α → Value} {b n : Nat} {f : α → Option Value} (h : Dict P k enc w b n f) (K : Keyed P k) (ht : P.underlying t = some (.map k e))
    (hn : n < maxLen) (hm : a.eval m = .map (some b)) (y : α) (hx : a.eval x = enc y) (u : Value) (hv : a.eval v = u) {l : Lit} (hkey : keyOf P k (enc y) = some l) (hinj : ∀ a', enc a' = enc y → a' = y)
    (hK : ∀ w', Dict P k enc w' b (n + 1) (fun x => if x = y then some u else f x) → w.grownBy w' (some b) → wpList P ops Q rest (a.put o.dst undef) w') : wpList P ops Q (o :: rest) a w := by
  refine wpList_plain hg fun K' hK' => ?_
  obtain ⟨w', hrun, r1, r2⟩ := h.store K ht hn hkey hinj u
  unfold Oper.wp
  simp [execOp, hop, hm, hx, hv, hrun, Result.andThen]
  exact hK' _ _ (hK w' r1 r2)

def encFr (f : Fr) : List Value := [.string f.name, .int .i64 f.at_, .int .i64 f.next]
theorem elem_fr : ElemTy Try.prog 64 63 (.agg #[.string ⟨#[]⟩, .int .i64 0, .int .i64 0]) 3 32 := ⟨Try.underlying64, by kernel_rfl, rfl, by decide⟩

/-- The iterator's memory. -/
structure OvM (w : World) (v : Value) (s : ByteArray) (b1 b2 cm n : Nat) (td : Value) (st : List Fr) (p : ByteArray → Bool) (X : Nat → Prop) (W : World) : Prop where
  kept : Kept w W
  bl : Blk W b1 28 #[v]
  bn : Blk W b2 9 #[.string s]
  x1 : X b1
  x2 : X b2
  xc : X cm
  came : SetM W cm n p
  row : W.ownsRow w.heap.size 63 3 td st.length (st.flatMap encFr)
  xr : ∀ k, td.ownBlock = some k → X k
  lt : ∀ k, X k → w.heap.size ≤ k ∧ k < W.heap.size

section
variable {w : World} {v : Value} {s : ByteArray} {b1 b2 cm n : Nat} {td : Value} {st : List Fr} {p : ByteArray → Bool} {X : Nat → Prop} {W W' : World}
theorem OvM.far (h : OvM w v s b1 b2 cm n td st p X W) {S : Nat → Prop} (ht : Touch S W W') (hn : ∀ k, X k → ¬ S k) (hB : Below w.heap.size W W') : OvM w v s b1 b2 cm n td st p X W' :=
  ⟨Below.trans h.kept hB, h.bl.touch ht (hn _ h.x1), h.bn.touch ht (hn _ h.x2), h.x1, h.x2, h.xc, h.came.touch ht (hn _ h.xc), ht.own h.row (fun k hk => hn k (h.xr k hk)), h.xr, fun k hk => ⟨(h.lt k hk).1, Nat.lt_of_lt_of_le (h.lt k hk).2 ht.size⟩⟩
theorem OvM.drewN (h : OvM w v s b1 b2 cm n td st p X W) (m : Nat) : OvM w v s b1 b2 cm n td st p X (W.drewN m) :=
  h.far (S := fun _ => False) ((Touch.refl _ W).drewN m) (fun _ _ => id) (kept_drewN (Below.refl _ _) m)
/-- A round of the caller's. -/
theorem OvM.round (h : OvM w v s b1 b2 cm n td st p X W) (ha : Apart X W W') (hB : Below w.heap.size W W') : OvM w v s b1 b2 cm n td st p X W' :=
  h.far (S := fun k => ¬ X k) ⟨hB.os, hB.tape, hB.output, ha.size, fun k hk hn => ha.same k (Classical.byContradiction hn) hk⟩ (fun k hk hn => hn hk) hB
theorem OvM.below {B : Nat} (_ : OvM w v s b1 b2 cm n td st p X W) (hX : ∀ k, X k → B ≤ k) (ht : Touch X W W') (hB : B ≤ W.heap.size) : Below B W W' := ht.below hX hB
/-- A store into the map. -/
theorem OvM.put (h : OvM w v s b1 b2 cm n td st p X W) {q : ByteArray → Bool} {m : Nat} (hd : SetM W' cm m q) (hg : W.grownBy W' (some cm)) : OvM w v s b1 b2 cm m td st q X W' ∧ Step1 X W X W' := by
  have ht : Touch (fun k => k = cm) W W' := Touch.of_grown hg (fun k hk => by simpa using hk.symm)
  have hB : Below w.heap.size W W' := ht.below (fun b hb => by have := (h.lt cm h.xc).1; omega) h.kept.size
  refine ⟨⟨Below.trans h.kept hB, h.bl.touch ht (fun e => h.came.blk h.bl e.symm), h.bn.touch ht (fun e => h.came.blk h.bn e.symm), h.x1, h.x2, h.xc, hd, ht.own h.row (fun k hk e => h.came.own h.row k hk e), h.xr, fun k hk => ⟨(h.lt k hk).1, Nat.lt_of_lt_of_le (h.lt k hk).2 ht.size⟩⟩, ⟨ht.mono fun k hk => hk ▸ h.xc, fun _ => id, fun _ => .inl⟩⟩
/-- A store of one cell into the row. -/
theorem OvM.store {g c : Nat} (h : OvM w v s b1 b2 cm n (.slice (some ⟨g, 0, none⟩) st.length c) st p X W) {st' : List Fr} (j : Nat) (u : Value) (hl : st'.length = st.length) (he : (st.flatMap encFr).set j u = st'.flatMap encFr) :
    OvM w v s b1 b2 cm n (.slice (some ⟨g, 0, none⟩) st'.length c) st' p X (W.setCell ⟨g, j, none⟩ u) ∧ Step1 X W X (W.setCell ⟨g, j, none⟩ u) := by
  have hx : X g := h.xr g rfl
  have ht : Touch (fun k => k = g) W (W.setCell ⟨g, j, none⟩ u) := (Touch.refl (fun k => k = g) W).setCell (p := ⟨g, j, none⟩) (.inl rfl) u
  have hB : Below w.heap.size W (W.setCell ⟨g, j, none⟩ u) := ht.below (fun b hb => by have := (h.lt g hx).1; omega) h.kept.size
  have hrow := own_store h.row j u
  rw [he] at hrow
  refine ⟨⟨Below.trans h.kept hB, h.bl.touch ht (fun e => own_ne h.row h.bl (by decide) g rfl e.symm), h.bn.touch ht (fun e => own_ne h.row h.bn (by decide) g rfl e.symm), h.x1, h.x2, h.xc, h.came.touch ht (fun e => h.came.own h.row g rfl e.symm), by rw [hl]; exact hrow, fun k hk => h.xr k hk, fun k hk => ⟨(h.lt k hk).1, Nat.lt_of_lt_of_le (h.lt k hk).2 ht.size⟩⟩, ⟨ht.mono fun k hk => hk ▸ hx, fun _ => id, fun _ => .inl⟩⟩
/-- One more frame. -/
theorem OvM.push (h : OvM w v s b1 b2 cm n td st p X W) {v3 : Value} {f : Fr} (ho : W'.ownsRow w.heap.size 63 3 v3 (st.length + 1) (st.flatMap encFr ++ encFr f)) (hg : W.grownBy W' td.ownBlock) (hk : ∀ k, v3.ownBlock = some k → td.ownBlock = some k ∨ W.heap.size ≤ k) :
    OvM w v s b1 b2 cm n v3 (st ++ [f]) p (fun k => X k ∨ v3.ownBlock = some k) W' ∧ Step1 X W (fun k => X k ∨ v3.ownBlock = some k) W' := by
  have ht : Touch (fun k => td.ownBlock = some k) W W' := Touch.of_grown hg (fun k hk => hk)
  have hB : Below w.heap.size W W' := ht.below (fun b hb => (h.row.lt b hb).1) h.kept.size
  refine ⟨⟨Below.trans h.kept hB, h.bl.touch ht (fun e => own_ne h.row h.bl (by decide) _ e rfl), h.bn.touch ht (fun e => own_ne h.row h.bn (by decide) _ e rfl), .inl h.x1, .inl h.x2, .inl h.xc, h.came.touch ht (fun e => h.came.own h.row _ e rfl), by simpa using ho, fun k => .inr, fun k hk' => ?_⟩, ⟨ht.mono fun k hk' => h.xr k hk', fun _ => .inl, fun k hk' => ?_⟩⟩
  · rcases hk' with hk' | hk'
    · exact ⟨(h.lt k hk').1, Nat.lt_of_lt_of_le (h.lt k hk').2 ht.size⟩
    · exact ho.lt k hk'
  · rcases hk' with hk' | hk'
    · exact .inl hk'
    · rcases hk k hk' with h1 | h1
      · exact .inl (h.xr k h1)
      · exact .inr ⟨h1, (ho.lt k hk').2⟩
/-- One frame less. -/
theorem OvM.pop {g c : Nat} {f : Fr} (h : OvM w v s b1 b2 cm n (.slice (some ⟨g, 0, none⟩) (st.length + 1) c) (st ++ [f]) p X W) : OvM w v s b1 b2 cm n (.slice (some ⟨g, 0, none⟩) st.length c) st p X W := by
  have hr := h.row
  simp only [List.length_append, List.length_singleton] at hr
  have := own_front_ hr (Nat.le_succ st.length)
  rw [List.flatMap_append, List.take_left' (by rw [flat_length encFr 3 (fun _ => rfl)])] at this
  exact ⟨h.kept, h.bl, h.bn, h.x1, h.x2, h.xc, h.came, this, fun k hk => h.xr k hk, h.lt⟩
theorem OvM.congr {q : ByteArray → Bool} (h : OvM w v s b1 b2 cm n td st p X W) (hq : ∀ x, p x = q x) : OvM w v s b1 b2 cm n td st q X W :=
  ⟨h.kept, h.bl, h.bn, h.x1, h.x2, h.xc, h.came.congr hq, h.row, h.xr, h.lt⟩
end

/-- The iterator's frames, and what has been told, as plain data. -/
structure OvL (D : List TD) (s : ByteArray) (st : List Fr) (pre : List ByteArray) : Prop where
  good : Good D (st.map (·.name)) pre
  ats : ∀ f ∈ st, atO D f.name = some f.at_
  nxt : ∀ f ∈ st, f.next ≤ (ifs D f.name).length
  fin_ : fin D st.reverse pre = aboveL D s

def cameP (st : List Fr) (pre : List ByteArray) (x : ByteArray) : Bool := decide (x ∈ st.map (·.name)) || decide (x ∈ pre)

section
variable {D : List TD} {s : ByteArray} {st : List Fr} {pre : List ByteArray}
theorem OvL.start {k : Nat} (h : atO D s = some k) : OvL D s [⟨s, k, 0⟩] [] := by
  obtain ⟨t, _, _, hk⟩ := atO_some h
  refine ⟨good_root (by unfold there; rw [h]; rfl), fun f hf => ?_, fun f hf => ?_, fin_start (by omega)⟩
  · obtain rfl : f = _ := by simpa using hf
    exact h
  · obtain rfl : f = _ := by simpa using hf
    exact Nat.zero_le _
theorem busy_rev (f : Fr) : busyOf (f :: st.reverse) = (st ++ [f]).map (·.name) := by simp [busyOf]
theorem OvL.skip {f : Fr} {x : ByteArray} (h : OvL D s (st ++ [f]) pre) (hx : (ifs D f.name)[f.next]? = some x) (hs : ¬ there D x ∨ cameP (st ++ [f]) pre x = true) : OvL D s (st ++ [{ f with next := f.next + 1 }]) pre := by
  have hs' : ¬ there D x ∨ x ∈ busyOf (f :: st.reverse) ∨ x ∈ pre := by
    rw [busy_rev]
    rcases hs with h1 | h1
    · exact .inl h1
    · right
      unfold cameP at h1
      simpa using h1
  have hf := h.fin_
  rw [List.reverse_append, List.reverse_singleton, List.singleton_append, going_skip hx hs'] at hf
  refine ⟨by simpa using h.good, fun g hg => ?_, fun g hg => ?_, by simpa using hf⟩
  · rcases List.mem_append.1 hg with hg | hg
    · exact h.ats g (by simp [hg])
    · obtain rfl : g = _ := by simpa using hg
      exact h.ats f (by simp)
  · rcases List.mem_append.1 hg with hg | hg
    · exact h.nxt g (by simp [hg])
    · obtain rfl : g = _ := by simpa using hg
      exact (List.getElem?_eq_some_iff.1 hx).1
theorem OvL.depth (h : OvL D s st pre) : st.length + pre.length ≤ D.length := by simpa using h.good.both
theorem OvL.push {f : Fr} {x : ByteArray} {k : Nat} (h : OvL D s (st ++ [f]) pre) (hx : (ifs D f.name)[f.next]? = some x) (hk : atO D x = some k) (hc : cameP (st ++ [f]) pre x = false) : OvL D s ((st ++ [{ f with next := f.next + 1 }]) ++ [⟨x, k, 0⟩]) pre := by
  have h1 : there D x := by unfold there; rw [hk]; rfl
  unfold cameP at hc
  simp only [Bool.or_eq_false_iff, decide_eq_false_iff_not] at hc
  have hg := h.good.push h1 hc.1 hc.2
  have hl : st.reverse.length + 2 ≤ D.length := by
    have := hg.both
    simp at this ⊢
    omega
  have hf := h.fin_
  rw [List.reverse_append, List.reverse_singleton, List.singleton_append, going_push (k := k) hx h1 (by rw [busy_rev]; exact hc.1) hc.2 hl] at hf
  refine ⟨by simpa using hg, fun g hg' => ?_, fun g hg' => ?_, by simpa using hf⟩
  · rcases List.mem_append.1 hg' with hg' | hg'
    · rcases List.mem_append.1 hg' with hg' | hg'
      · exact h.ats g (by simp [hg'])
      · obtain rfl : g = _ := by simpa using hg'
        exact h.ats f (by simp)
    · obtain rfl : g = _ := by simpa using hg'
      exact hk
  · rcases List.mem_append.1 hg' with hg' | hg'
    · rcases List.mem_append.1 hg' with hg' | hg'
      · exact h.nxt g (by simp [hg'])
      · obtain rfl : g = _ := by simpa using hg'
        exact (List.getElem?_eq_some_iff.1 hx).1
    · obtain rfl : g = _ := by simpa using hg'
      exact Nat.zero_le _
/-- A type that is not the first one has been gone over: it is told. -/
theorem OvL.pop {f : Fr} (h : OvL D s (st ++ [f]) pre) (hst : st ≠ []) (hn : (ifs D f.name).length ≤ f.next) : OvL D s st (pre ++ [f.name]) := by
  have hf := h.fin_
  obtain ⟨f', fs, hr⟩ : ∃ f' fs, st.reverse = f' :: fs := by
    cases hr : st.reverse with
    | nil => exact absurd (by simpa using hr) hst
    | cons a l => exact ⟨a, l, rfl⟩
  rw [List.reverse_append, List.reverse_singleton, List.singleton_append, hr, fin_pop hn, ← hr] at hf
  have hg := h.good
  rw [List.map_append] at hg
  exact ⟨hg.pop, fun g hg' => h.ats g (by simp [hg']), fun g hg' => h.nxt g (by simp [hg']), hf⟩
theorem OvL.done {f : Fr} (h : OvL D s [f] pre) (hn : (ifs D f.name).length ≤ f.next) : pre = aboveL D s := by
  have hf := h.fin_
  rw [List.reverse_singleton, fin_end hn] at hf
  exact hf
theorem OvL.told (h : OvL D s st pre) : pre <+: aboveL D s := by rw [← h.fin_]; exact fin_pre
end
end Go.Proofs.Ytccbdnlknijcbaa
