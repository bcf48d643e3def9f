/-
  The law's Spoil by contract: it writes into the class's own rows alone.
-/
import Derived.Test.YtlipdifhdaaknaaFileF
namespace Go.Proofs.Ytlipdifhdaaknaa
open Go.RowKit
set_option maxRecDepth 100000

theorem own_any {w : World} {base : Nat} {e : TypeId} {sz n : Nat} {v : Value} {xs : List Value} (ho : w.ownsRow base e sz v n xs) (g j : Nat) (u : Value) : ∃ xs', (w.setCell ⟨g, j, none⟩ u).ownsRow base e sz v n xs' ∧ ∀ x ∈ xs', x = u ∨ x ∈ xs := by
  rcases ho.2 with ⟨rfl, rfl⟩ | ⟨g', cap, cur, rfl, h1, h2, h3⟩
  · exact ⟨xs, ⟨ho.1, .inl ⟨rfl, rfl⟩⟩, fun x hx => .inr hx⟩
  · by_cases hg : g = g'
    · subst hg
      refine ⟨xs.set j u, own_store ho j u, fun x hx => ?_⟩
      rcases List.mem_or_eq_of_mem_set hx with h | h
      · exact .inr h
      · exact .inl h
    · refine ⟨xs, Touch.own (S := fun b => b = g) ((Touch.refl _ w).one j u) ho fun k hk e => ?_, fun x hx => .inr hx⟩
      simp only [Value.ownBlock, Option.some.injEq] at hk
      omega
theorem own_far {w : World} {base : Nat} {e t : TypeId} {sz n g : Nat} {v : Value} {xs : List Value} {cs : Array Value} (ho : w.ownsRow base e sz v n xs) (hb : Blk w g t cs) (hne : e ≠ t) (j : Nat) (u : Value) : (w.setCell ⟨g, j, none⟩ u).ownsRow base e sz v n xs :=
  Touch.own (S := fun b => b = g) ((Touch.refl _ w).one j u) ho fun k hk e => own_ne ho hb hne k hk e
theorem blk_lt {w : World} {g : Nat} {t : TypeId} (h : ∃ cs, Blk w g t cs) : g < w.heap.size := by
  obtain ⟨cs, h⟩ := h
  exact h.lt
theorem blk_set {w : World} {g : Nat} {t : TypeId} (h : ∃ cs, Blk w g t cs) (j : Nat) (u : Value) : ∃ cs, Blk (w.setCell ⟨g, j, none⟩ u) g t cs := by
  obtain ⟨cs, h⟩ := h
  exact ⟨_, h.set_ j u⟩
theorem flat_set1 {α : Type} (enc : α → List Value) (sz : Nat) (h : ∀ x, (enc x).length = sz) (f : Nat) (hf : f < sz) (u : Value) (y : α) : ∀ (l : List α) (i : Nat) (x : α), l[i]? = some x → enc y = (enc x).set f u → (l.flatMap enc).set (i * sz + f) u = (l.set i y).flatMap enc
  | [], i, x, hx, _ => by simp at hx
  | z :: l, 0, x, hx, hy => by
    simp only [List.getElem?_cons_zero, Option.some.injEq] at hx
    subst hx
    simp only [List.flatMap_cons, List.set_cons_zero, Nat.zero_mul, Nat.zero_add]
    rw [List.set_append_left _ _ (by rw [h]; exact hf), hy]
  | z :: l, i + 1, x, hx, hy => by
    simp only [List.getElem?_cons_succ] at hx
    have ih := flat_set1 enc sz h f hf u y l i x hx hy
    simp only [List.flatMap_cons, List.set_cons_succ]
    rw [List.set_append_right _ _ (by rw [h, Nat.add_mul]; omega), h, ← ih]
    congr 2
    rw [Nat.add_mul]; omega
/-- A row of whole numbers of a kind. -/
def KRow (k : IntKind) (w : World) (base : Nat) (e : TypeId) (sz : Nat) (v : Value) (n : Nat) : Prop := ∃ xs, w.ownsRow base e sz v n xs ∧ ∀ u ∈ xs, ∃ i : Int, u = .int k i
theorem KRow.store {k : IntKind} {w : World} {base : Nat} {e : TypeId} {sz : Nat} {v : Value} {n : Nat} (h : KRow k w base e sz v n) (g j : Nat) (i : Int) : KRow k (w.setCell ⟨g, j, none⟩ (.int k i)) base e sz v n := by
  obtain ⟨xs, ho, hx⟩ := h
  obtain ⟨xs', ho', hx'⟩ := own_any ho g j (.int k i)
  refine ⟨xs', ho', fun u hu => ?_⟩
  rcases hx' u hu with rfl | h
  · exact ⟨i, rfl⟩
  · exact hx u h
theorem KRow.far {k : IntKind} {w : World} {base : Nat} {e t : TypeId} {sz : Nat} {v : Value} {n g : Nat} {cs : Array Value} (h : KRow k w base e sz v n) (hb : Blk w g t cs) (hne : e ≠ t) (j : Nat) (u : Value) : KRow k (w.setCell ⟨g, j, none⟩ u) base e sz v n := by
  obtain ⟨xs, ho, hx⟩ := h
  exact ⟨xs, own_far ho hb hne j u, hx⟩
/-- A class's rows while they are written over. -/
structure SP (base : Nat) (c : ClassC) (mv : List (MethC × Value × Value)) (vP vI vF vM : Value) (w : World) : Prop where
  p : ∃ xs, w.ownsRow base 58 5 vP c.pool.length xs
  i : ∃ xs, w.ownsRow base 3 1 vI c.ifaces.length xs
  f : ∃ xs, w.ownsRow base 60 4 vF c.fields.length xs
  m : ∃ mv' : List (MethC × Value × Value), mv'.length = mv.length ∧ w.ownsRow base 64 8 vM mv.length (mv'.flatMap encM) ∧ ∀ (i : Nat) (x : MethC × Value × Value), mv[i]? = some x → ∃ a : Int, mv'[i]? = some ({ x.1 with access := a }, x.2)
  r : ∀ x ∈ mv, KRow .u8 w base 5 1 x.2.1 x.1.code.length ∧ KRow .i64 w base 66 4 x.2.2 x.1.traps.length
section
variable {base : Nat} {c : ClassC} {mv : List (MethC × Value × Value)} {vP vI vF vM : Value} {w : World} {g : Nat}
theorem CR.sp (h : CR base c mv vP vI vF vM w) : SP base c mv vP vI vF vM w :=
  ⟨⟨_, h.p⟩, ⟨_, h.i⟩, ⟨_, h.f⟩, ⟨mv, rfl, h.m, fun i x hx => ⟨x.1.access, hx⟩⟩, fun x hx => ⟨⟨_, (h.r x hx).code, fun u hu => by obtain ⟨y, _, rfl⟩ := List.mem_map.1 hu; exact ⟨_, rfl⟩⟩,
    ⟨_, (h.r x hx).traps, fun u hu => by
      obtain ⟨t, _, hu⟩ := List.mem_flatMap.1 hu
      simp only [encT, List.mem_cons, List.not_mem_nil, or_false] at hu
      rcases hu with rfl | rfl | rfl | rfl <;> exact ⟨_, rfl⟩⟩⟩⟩
theorem SP.storeP (h : SP base c mv vP vI vF vM w) (hb : ∃ cs, Blk w g 58 cs) (j : Nat) (u : Value) : SP base c mv vP vI vF vM (w.setCell ⟨g, j, none⟩ u) :=
  ⟨(by obtain ⟨xs, ho⟩ := h.p; obtain ⟨xs', ho', _⟩ := own_any ho g j u; exact ⟨xs', ho'⟩), (by obtain ⟨xs, ho⟩ := h.i; obtain ⟨cs, hb⟩ := hb; exact ⟨xs, own_far ho hb (by decide) j u⟩), (by obtain ⟨xs, ho⟩ := h.f; obtain ⟨cs, hb⟩ := hb; exact ⟨xs, own_far ho hb (by decide) j u⟩), (by obtain ⟨mv', h1, ho, h2⟩ := h.m; obtain ⟨cs, hb⟩ := hb; exact ⟨mv', h1, own_far ho hb (by decide) j u, h2⟩), (fun x hx => by obtain ⟨cs, hb⟩ := hb; exact ⟨(h.r x hx).1.far hb (by decide) j u, (h.r x hx).2.far hb (by decide) j u⟩)⟩
theorem SP.storeI (h : SP base c mv vP vI vF vM w) (hb : ∃ cs, Blk w g 3 cs) (j : Nat) (u : Value) : SP base c mv vP vI vF vM (w.setCell ⟨g, j, none⟩ u) :=
  ⟨(by obtain ⟨xs, ho⟩ := h.p; obtain ⟨cs, hb⟩ := hb; exact ⟨xs, own_far ho hb (by decide) j u⟩), (by obtain ⟨xs, ho⟩ := h.i; obtain ⟨xs', ho', _⟩ := own_any ho g j u; exact ⟨xs', ho'⟩), (by obtain ⟨xs, ho⟩ := h.f; obtain ⟨cs, hb⟩ := hb; exact ⟨xs, own_far ho hb (by decide) j u⟩), (by obtain ⟨mv', h1, ho, h2⟩ := h.m; obtain ⟨cs, hb⟩ := hb; exact ⟨mv', h1, own_far ho hb (by decide) j u, h2⟩), (fun x hx => by obtain ⟨cs, hb⟩ := hb; exact ⟨(h.r x hx).1.far hb (by decide) j u, (h.r x hx).2.far hb (by decide) j u⟩)⟩
theorem SP.storeF (h : SP base c mv vP vI vF vM w) (hb : ∃ cs, Blk w g 60 cs) (j : Nat) (u : Value) : SP base c mv vP vI vF vM (w.setCell ⟨g, j, none⟩ u) :=
  ⟨(by obtain ⟨xs, ho⟩ := h.p; obtain ⟨cs, hb⟩ := hb; exact ⟨xs, own_far ho hb (by decide) j u⟩), (by obtain ⟨xs, ho⟩ := h.i; obtain ⟨cs, hb⟩ := hb; exact ⟨xs, own_far ho hb (by decide) j u⟩), (by obtain ⟨xs, ho⟩ := h.f; obtain ⟨xs', ho', _⟩ := own_any ho g j u; exact ⟨xs', ho'⟩), (by obtain ⟨mv', h1, ho, h2⟩ := h.m; obtain ⟨cs, hb⟩ := hb; exact ⟨mv', h1, own_far ho hb (by decide) j u, h2⟩), (fun x hx => by obtain ⟨cs, hb⟩ := hb; exact ⟨(h.r x hx).1.far hb (by decide) j u, (h.r x hx).2.far hb (by decide) j u⟩)⟩
theorem SP.storeC (h : SP base c mv vP vI vF vM w) (hb : ∃ cs, Blk w g 5 cs) (j : Nat) (n : Int) : SP base c mv vP vI vF vM (w.setCell ⟨g, j, none⟩ (.int .u8 n)) :=
  ⟨(by obtain ⟨xs, ho⟩ := h.p; obtain ⟨cs, hb⟩ := hb; exact ⟨xs, own_far ho hb (by decide) j _⟩), (by obtain ⟨xs, ho⟩ := h.i; obtain ⟨cs, hb⟩ := hb; exact ⟨xs, own_far ho hb (by decide) j _⟩), (by obtain ⟨xs, ho⟩ := h.f; obtain ⟨cs, hb⟩ := hb; exact ⟨xs, own_far ho hb (by decide) j _⟩), (by obtain ⟨mv', h1, ho, h2⟩ := h.m; obtain ⟨cs, hb⟩ := hb; exact ⟨mv', h1, own_far ho hb (by decide) j _, h2⟩), (fun x hx => by obtain ⟨cs, hb⟩ := hb; exact ⟨(h.r x hx).1.store g j n, (h.r x hx).2.far hb (by decide) j _⟩)⟩
theorem SP.storeT (h : SP base c mv vP vI vF vM w) (hb : ∃ cs, Blk w g 66 cs) (j : Nat) (n : Int) : SP base c mv vP vI vF vM (w.setCell ⟨g, j, none⟩ (.int .i64 n)) :=
  ⟨(by obtain ⟨xs, ho⟩ := h.p; obtain ⟨cs, hb⟩ := hb; exact ⟨xs, own_far ho hb (by decide) j _⟩), (by obtain ⟨xs, ho⟩ := h.i; obtain ⟨cs, hb⟩ := hb; exact ⟨xs, own_far ho hb (by decide) j _⟩), (by obtain ⟨xs, ho⟩ := h.f; obtain ⟨cs, hb⟩ := hb; exact ⟨xs, own_far ho hb (by decide) j _⟩), (by obtain ⟨mv', h1, ho, h2⟩ := h.m; obtain ⟨cs, hb⟩ := hb; exact ⟨mv', h1, own_far ho hb (by decide) j _, h2⟩), (fun x hx => by obtain ⟨cs, hb⟩ := hb; exact ⟨(h.r x hx).1.far hb (by decide) j _, (h.r x hx).2.store g j n⟩)⟩
theorem SP.storeA {cM : Nat} (h : SP base c mv vP vI vF (.slice (some ⟨g, 0, none⟩) mv.length cM) w) (hb : ∃ cs, Blk w g 64 cs) (i : Nat) (hi : i < mv.length) (n : Int) : SP base c mv vP vI vF (.slice (some ⟨g, 0, none⟩) mv.length cM) (w.setCell ⟨g, i * 8, none⟩ (.int .i64 n)) := by
  obtain ⟨mv', h1, ho, h2⟩ := h.m
  obtain ⟨x, hx⟩ : ∃ x, mv[i]? = some x := ⟨_, List.getElem?_eq_getElem hi⟩
  obtain ⟨a, ha⟩ := h2 i x hx
  refine ⟨(by obtain ⟨xs, ho⟩ := h.p; obtain ⟨cs, hb⟩ := hb; exact ⟨xs, own_far ho hb (by decide) _ _⟩), (by obtain ⟨xs, ho⟩ := h.i; obtain ⟨cs, hb⟩ := hb; exact ⟨xs, own_far ho hb (by decide) _ _⟩), (by obtain ⟨xs, ho⟩ := h.f; obtain ⟨cs, hb⟩ := hb; exact ⟨xs, own_far ho hb (by decide) _ _⟩), ⟨mv'.set i ({ x.1 with access := n }, x.2), by rw [List.length_set]; exact h1, ?_, ?_⟩, fun x hx => by obtain ⟨cs, hb⟩ := hb; exact ⟨(h.r x hx).1.far hb (by decide) _ _, (h.r x hx).2.far hb (by decide) _ _⟩⟩
  · have := own_store ho (i * 8) (.int .i64 n)
    rw [show i * 8 = i * 8 + 0 from rfl, flat_set1 encM 8 (fun _ => rfl) 0 (by decide) (.int .i64 n) ({ x.1 with access := n }, x.2) mv' i _ ha rfl] at this
    exact this
  · intro j y hy
    by_cases hij : i = j
    · subst hij
      rw [hx] at hy
      cases hy
      exact ⟨n, by rw [List.getElem?_set_self (by omega)]⟩
    · obtain ⟨a', ha'⟩ := h2 j y hy
      exact ⟨a', by rw [List.getElem?_set_ne hij]; exact ha'⟩
end
/-- A cell of an owned row. -/
theorem own_cell {w : World} {base : Nat} {e : TypeId} {sz n : Nat} {v : Value} {xs : List Value} (ho : w.ownsRow base e sz v n xs) (hn : 0 < n) : ∃ g c, v = .slice (some ⟨g, 0, none⟩) n c ∧ n ≤ c ∧ c ≤ 9223372036854775807 ∧ base ≤ g ∧ (∃ cs, Blk w g e cs) ∧ (∀ j, j < n * sz → ∃ u, xs[j]? = some u ∧ w.cell? ⟨g, j, none⟩ = some u) ∧ ∀ j, w.frozen? ⟨g, j, none⟩ = false := by
  obtain ⟨g, c, rfl, h1, h2, h3, h4, h5, h6⟩ := own_form ho hn
  refine ⟨g, c, rfl, h1, h2, h3, ?_, fun j hj => ?_, h6⟩
  · rcases ho.2 with ⟨h, _⟩ | ⟨g', cap, cur, h, hg, hh, _⟩
    · cases h
    · cases h
      exact ⟨cur, hh⟩
  · obtain ⟨u, hu⟩ : ∃ u, xs[j]? = some u := ⟨_, List.getElem?_eq_getElem (by rw [ho.1]; exact hj)⟩
    exact ⟨u, hu, h5 j u hu⟩
/-- What Spoil holds. -/
structure SH (base b0 : Nat) (c : ClassC) (mv : List (MethC × Value × Value)) (vP vI vF vM : Value) (W wr : World) : Prop where
  sp : SP base c mv vP vI vF vM wr
  tch : Touch (fun b => base ≤ b ∧ b ≠ b0) W wr
theorem SH.blk {base b0 : Nat} {c : ClassC} {mv : List (MethC × Value × Value)} {vP vI vF vM : Value} {W wr : World} (h : SH base b0 c mv vP vI vF vM W wr) {t : TypeId} {cs : Array Value} (hb : Blk W b0 t cs) : Blk wr b0 t cs := hb.touch h.tch fun e => e.2 rfl
section
variable {base b0 : Nat} {c : ClassC} {mv : List (MethC × Value × Value)} {vP vI vF vM : Value} {W wr : World} {g : Nat}
theorem SP.touch0 {w w' : World} (h : SP base c mv vP vI vF vM w) (ht : Touch (fun _ => False) w w') : SP base c mv vP vI vF vM w' :=
  ⟨(by obtain ⟨xs, ho⟩ := h.p; exact ⟨xs, ht.own ho fun _ _ e => e⟩), (by obtain ⟨xs, ho⟩ := h.i; exact ⟨xs, ht.own ho fun _ _ e => e⟩), (by obtain ⟨xs, ho⟩ := h.f; exact ⟨xs, ht.own ho fun _ _ e => e⟩), (by obtain ⟨m, h1, ho, h2⟩ := h.m; exact ⟨m, h1, ht.own ho fun _ _ e => e, h2⟩),
   fun x hx => ⟨(by obtain ⟨xs, ho, hu⟩ := (h.r x hx).1; exact ⟨xs, ht.own ho fun _ _ e => e, hu⟩), (by obtain ⟨xs, ho, hu⟩ := (h.r x hx).2; exact ⟨xs, ht.own ho fun _ _ e => e, hu⟩)⟩⟩
theorem SH.drew (h : SH base b0 c mv vP vI vF vM W wr) : SH base b0 c mv vP vI vF vM W wr.drew := ⟨h.sp.touch0 (Touch.refl _ _).drew, h.tch.drew⟩
theorem SP.meth {w : World} {cM i : Nat} {x : MethC × Value × Value} (h : SP base c mv vP vI vF (.slice (some ⟨g, 0, none⟩) mv.length cM) w) (hx : mv[i]? = some x) :
    w.cell? ⟨g, i * 8 + 6, none⟩ = some x.2.1 ∧ w.cell? ⟨g, i * 8 + 7, none⟩ = some x.2.2 ∧ (∃ u, w.cell? ⟨g, i * 8, none⟩ = some u) ∧ w.frozen? ⟨g, i * 8, none⟩ = false ∧ (∃ cs, Blk w g 64 cs) ∧ base ≤ g := by
  obtain ⟨mv', h1, ho, h2⟩ := h.m
  have hi := (List.getElem?_eq_some_iff.1 hx).1
  obtain ⟨a, ha⟩ := h2 i x hx
  obtain ⟨g', cc, hv, _, _, hb, hblk, hcell, hfz⟩ := own_cell ho (by omega)
  simp only [Value.slice.injEq, Option.some.injEq, Addr.mk.injEq] at hv
  obtain ⟨⟨rfl, -, -⟩, -, -⟩ := hv
  have e : ∀ f u, f < 8 → (encM ({ x.1 with access := a }, x.2))[f]? = some u → w.cell? ⟨g, i * 8 + f, none⟩ = some u := by
    intro f u hf hu
    obtain ⟨y, hy, hc⟩ := hcell (i * 8 + f) (by omega)
    rw [flat_get encM 8 (fun _ => rfl) mv' i f _ ha hf, hu] at hy
    cases hy
    exact hc
  exact ⟨e 6 _ (by decide) rfl, e 7 _ (by decide) rfl, ⟨_, e 0 _ (by decide) rfl⟩, hfz _, hblk, hb⟩
theorem SH.st (h : SH base b0 c mv vP vI vF vM W wr) (hg : base ≤ g ∧ g ≠ b0) (j : Nat) (u : Value) (hs : SP base c mv vP vI vF vM (wr.setCell ⟨g, j, none⟩ u)) : SH base b0 c mv vP vI vF vM W (wr.setCell ⟨g, j, none⟩ u) := ⟨hs, h.tch.setCell (p := ⟨g, j, none⟩) (.inl hg) u⟩
end
set_option maxHeartbeats 16000000 in
theorem law3_Spoil (base : Nat) (c : ClassC) (mv : List (MethC × Value × Value)) (vP vI vF vM : Value) (w : World) (h : CR base c mv vP vI vF vM w) :
    Calls Try.prog 13 #[.agg (classV c vP vI vF vM).toArray] w fun e w' => e = .returned (.tuple #[]) ∧ Touch (fun b => base ≤ b) w w' := by
  have hsp := h.sp
  obtain ⟨aP, cP, rfl, kp1, kp2⟩ := own_slice h.p
  obtain ⟨aI, cI, rfl, ki1, ki2⟩ := own_slice h.i
  obtain ⟨aF, cF, rfl, kf1, kf2⟩ := own_slice h.f
  obtain ⟨aM, cM, rfl, km1, km2⟩ := own_slice h.m
  obtain ⟨nP, hnP⟩ : ∃ n, n = c.pool.length := ⟨_, rfl⟩
  obtain ⟨nI, hnI⟩ : ∃ n, n = c.ifaces.length := ⟨_, rfl⟩
  obtain ⟨nF, hnF⟩ : ∃ n, n = c.fields.length := ⟨_, rfl⟩
  obtain ⟨nM, hnM⟩ : ∃ n, n = mv.length := ⟨_, rfl⟩
  change Calls Try.prog 13 #[.agg #[.int .i64 c.minor, .int .i64 c.major, .slice aP c.pool.length cP, .int .i64 c.access, .int .i64 c.this, .int .i64 c.super, .slice aI c.ifaces.length cI, .slice aF c.fields.length cF, .slice aM mv.length cM]] w _
  have HS0 : Hid (SH base w.heap.size c mv (.slice aP c.pool.length cP) (.slice aI c.ifaces.length cI) (.slice aF c.fields.length cF) (.slice aM mv.length cM) (w.alloc (.cells #[.int .i64 c.minor, .int .i64 c.major, .slice aP c.pool.length cP, .int .i64 c.access, .int .i64 c.this, .int .i64 c.super, .slice aI c.ifaces.length cI, .slice aF c.fields.length cF, .slice aM mv.length cM] 29)) (w.alloc (.cells #[.int .i64 c.minor, .int .i64 c.major, .slice aP c.pool.length cP, .int .i64 c.access, .int .i64 c.this, .int .i64 c.super, .slice aI c.ifaces.length cI, .slice aF c.fields.length cF, .slice aM mv.length cM] 29))) :=
    Lib.hid ⟨(h.touch ((Touch.refl (fun _ => False) w).alloc _) fun _ e => e.elim).sp, Touch.refl _ _⟩
  have HB := Lib.hid (Blk.new w 29 #[.int .i64 c.minor, .int .i64 c.major, .slice aP c.pool.length cP, .int .i64 c.access, .int .i64 c.this, .int .i64 c.super, .slice aI c.ifaces.length cI, .slice aF c.fields.length cF, .slice aM mv.length cM])
  have HT := Lib.hid ((Touch.refl (fun b => base ≤ b) w).alloc (.cells #[.int .i64 c.minor, .int .i64 c.major, .slice aP c.pool.length cP, .int .i64 c.access, .int .i64 c.this, .int .i64 c.super, .slice aI c.ifaces.length cI, .slice aF c.fields.length cF, .slice aM mv.length cM] 29))
  clear h hsp
  rw [← hnP, ← hnI, ← hnF, ← hnM] at HS0 HB HT ⊢
  rw [← hnP] at kp1
  rw [← hnI] at ki1
  rw [← hnF] at kf1
  rw [← hnM] at km1
  have HNP := Lib.hid hnP
  have HNI := Lib.hid hnI
  have HNF := Lib.hid hnF
  have HNM := Lib.hid hnM
  clear hnP hnI hnF hnM
  go_enter Try.func13, Try.ntmps13
  go_upto_region 1 with fail
  obtain ⟨b0, hb0⟩ : ∃ b0, b0 = w.heap.size := ⟨_, rfl⟩
  rw [← hb0] at HS0 HB ⊢
  clear hb0
  generalize w.alloc (.cells #[.int .i64 c.minor, .int .i64 c.major, .slice aP nP cP, .int .i64 c.access, .int .i64 c.this, .int .i64 c.super, .slice aI nI cI, .slice aF nF cF, .slice aM nM cM] 29) = W at *
  go_wp2_with fail
  go_loopw [2] (fun s wr => ∃ i : Nat, i ≤ nP ∧ s = .int .i64 i ∧ SH base b0 c mv (.slice aP nP cP) (.slice aI nI cI) (.slice aF nF cF) (.slice aM nM cM) W wr) (fun s _ => nP - (intOf s).toNat)
  case atStart => exact ⟨0, Nat.zero_le _, rfl, HS0.out⟩
  case round =>
    obtain ⟨i, hi, rfl, hs⟩ := hrel
    have hbb := hs.blk HB.out
    have pc := hbb.cell 2
    simp only [List.getElem?_toArray, List.getElem?_cons_succ, List.getElem?_cons_zero] at pc
    by_cases hlt : i < nP
    · obtain ⟨xs, ho⟩ := hs.sp.p
      rw [← HNP.out] at ho
      obtain ⟨g, cc, hv, h1, h2, hgb, hblk, hcell, hfz⟩ := own_cell ho (by omega)
      simp only [Value.slice.injEq] at hv
      obtain ⟨rfl, -, rfl⟩ := hv
      have hgg : base ≤ g ∧ g ≠ b0 := ⟨hgb, by obtain ⟨cs, hblk⟩ := hblk; exact Blk.ne_ hblk hbb (by decide)⟩
      obtain ⟨u0, -, x0⟩ := hcell (i * 5) (by omega)
      obtain ⟨u1, -, x1⟩ := hcell (i * 5 + 1) (by omega)
      obtain ⟨u2, -, x2⟩ := hcell (i * 5 + 2) (by omega)
      obtain ⟨u3, -, x3⟩ := hcell (i * 5 + 3) (by omega)
      obtain ⟨u4, -, x4⟩ := hcell (i * 5 + 4) (by omega)
      have f0 := hfz (i * 5)
      have f1 := hfz (i * 5 + 1)
      have f2 := hfz (i * 5 + 2)
      have f3 := hfz (i * 5 + 3)
      have f4 := hfz (i * 5 + 4)
      have lg : g < wr.heap.size := by obtain ⟨cs, hblk⟩ := hblk; exact hblk.lt
      have s1 := hs.st hgg (i * 5) (.int .i64 (-1)) (hs.sp.storeP hblk (i * 5) (.int .i64 (-1)))
      have b1 := blk_set hblk (i * 5) (.int .i64 (-1))
      have s2 := s1.st hgg (i * 5 + 1) (.string ⟨#[]⟩) (s1.sp.storeP b1 (i * 5 + 1) (.string ⟨#[]⟩))
      have b2 := blk_set b1 (i * 5 + 1) (.string ⟨#[]⟩)
      have s3 := s2.st hgg (i * 5 + 2) (.int .i64 0) (s2.sp.storeP b2 (i * 5 + 2) (.int .i64 0))
      have b3 := blk_set b2 (i * 5 + 2) (.int .i64 0)
      have s4 := s3.st hgg (i * 5 + 3) (.int .i64 0) (s3.sp.storeP b3 (i * 5 + 3) (.int .i64 0))
      have b4 := blk_set b3 (i * 5 + 3) (.int .i64 0)
      have s5 := s4.st hgg (i * 5 + 4) (.int .i64 0) (s4.sp.storeP b4 (i * 5 + 4) (.int .i64 0))
      have b5 := blk_set b4 (i * 5 + 4) (.int .i64 0)
      have HS := Lib.hid s5
      have hltI : (i : Int) < (nP : Int) := by omega
      have h0I : (0 : Int) ≤ (i : Int) := by omega
      clear s1 s2 s3 s4 s5 b1 b2 b3 b4 b5 hcell hfz ho hs hbb hblk
      go_upto_region 3 with fail
      clear x0 f0 x1 f1 x2 f2 x3 f3 x4 f4 pc lg
      generalize (((((wr.setCell ⟨g, i * 5, none⟩ (.int .i64 (-1))).setCell ⟨g, i * 5 + 1, none⟩ (.string ⟨#[]⟩)).setCell ⟨g, i * 5 + 2, none⟩ (.int .i64 0)).setCell ⟨g, i * 5 + 3, none⟩ (.int .i64 0)).setCell ⟨g, i * 5 + 4, none⟩ (.int .i64 0)) = W9 at *
      go_wp2_with fail
      go_roundw
      case rel => exact ⟨i + 1, by omega, by go_num, HS.out⟩
      case measure => simp [intOf]; omega
    · have hltI : ¬ (i : Int) < (nP : Int) := by omega
      have HSX := Lib.hid hs
      clear hs hbb
      go_wp2_with fail
      go_loopw [3] (fun s wr => ∃ i : Nat, i ≤ nI ∧ s = .int .i64 i ∧ SH base b0 c mv (.slice aP nP cP) (.slice aI nI cI) (.slice aF nF cF) (.slice aM nM cM) W wr) (fun s _ => nI - (intOf s).toNat)
      case atStart => exact ⟨0, Nat.zero_le _, rfl, HSX.out⟩
      case round =>
        obtain ⟨i, hi, rfl, hs⟩ := hrel
        have hbb := hs.blk HB.out
        have pc := hbb.cell 6
        simp only [List.getElem?_toArray, List.getElem?_cons_succ, List.getElem?_cons_zero] at pc
        by_cases hlt : i < nI
        · obtain ⟨xs, ho⟩ := hs.sp.i
          rw [← HNI.out] at ho
          obtain ⟨g, cc, hv, h1, h2, hgb, hblk, hcell, hfz⟩ := own_cell ho (by omega)
          simp only [Value.slice.injEq] at hv
          obtain ⟨rfl, -, rfl⟩ := hv
          have hgg : base ≤ g ∧ g ≠ b0 := ⟨hgb, by obtain ⟨cs, hblk⟩ := hblk; exact Blk.ne_ hblk hbb (by decide)⟩
          obtain ⟨u0, -, x0⟩ := hcell i (by omega)
          have f0 := hfz (i)
          have lg : g < wr.heap.size := by obtain ⟨cs, hblk⟩ := hblk; exact hblk.lt
          have s1 := hs.st hgg (i) (.int .i64 (-1)) (hs.sp.storeI hblk (i) (.int .i64 (-1)))
          have b1 := blk_set hblk (i) (.int .i64 (-1))
          have HS := Lib.hid s1
          have hltI : (i : Int) < (nI : Int) := by omega
          have h0I : (0 : Int) ≤ (i : Int) := by omega
          clear s1 b1 hcell hfz ho hs hbb hblk
          go_upto_region 7 with fail
          clear x0 f0 pc lg
          generalize (wr.setCell ⟨g, i, none⟩ (.int .i64 (-1))) = W9 at *
          go_wp2_with fail
          go_roundw
          case rel => exact ⟨i + 1, by omega, by go_num, HS.out⟩
          case measure => simp [intOf]; omega
        · have hltI : ¬ (i : Int) < (nI : Int) := by omega
          have HSX := Lib.hid hs
          clear hs hbb
          go_wp2_with fail
          go_loopw [4] (fun s wr => ∃ i : Nat, i ≤ nF ∧ s = .int .i64 i ∧ SH base b0 c mv (.slice aP nP cP) (.slice aI nI cI) (.slice aF nF cF) (.slice aM nM cM) W wr) (fun s _ => nF - (intOf s).toNat)
          case atStart => exact ⟨0, Nat.zero_le _, rfl, HSX.out⟩
          case round =>
            obtain ⟨i, hi, rfl, hs⟩ := hrel
            have hbb := hs.blk HB.out
            have pc := hbb.cell 7
            simp only [List.getElem?_toArray, List.getElem?_cons_succ, List.getElem?_cons_zero] at pc
            by_cases hlt : i < nF
            · obtain ⟨xs, ho⟩ := hs.sp.f
              rw [← HNF.out] at ho
              obtain ⟨g, cc, hv, h1, h2, hgb, hblk, hcell, hfz⟩ := own_cell ho (by omega)
              simp only [Value.slice.injEq] at hv
              obtain ⟨rfl, -, rfl⟩ := hv
              have hgg : base ≤ g ∧ g ≠ b0 := ⟨hgb, by obtain ⟨cs, hblk⟩ := hblk; exact Blk.ne_ hblk hbb (by decide)⟩
              obtain ⟨u0, -, x0⟩ := hcell (i * 4) (by omega)
              obtain ⟨u1, -, x1⟩ := hcell (i * 4 + 1) (by omega)
              obtain ⟨u2, -, x2⟩ := hcell (i * 4 + 2) (by omega)
              obtain ⟨u3, -, x3⟩ := hcell (i * 4 + 3) (by omega)
              have f0 := hfz (i * 4)
              have f1 := hfz (i * 4 + 1)
              have f2 := hfz (i * 4 + 2)
              have f3 := hfz (i * 4 + 3)
              have lg : g < wr.heap.size := by obtain ⟨cs, hblk⟩ := hblk; exact hblk.lt
              have s1 := hs.st hgg (i * 4) (.int .i64 (-1)) (hs.sp.storeF hblk (i * 4) (.int .i64 (-1)))
              have b1 := blk_set hblk (i * 4) (.int .i64 (-1))
              have s2 := s1.st hgg (i * 4 + 1) (.int .i64 0) (s1.sp.storeF b1 (i * 4 + 1) (.int .i64 0))
              have b2 := blk_set b1 (i * 4 + 1) (.int .i64 0)
              have s3 := s2.st hgg (i * 4 + 2) (.int .i64 0) (s2.sp.storeF b2 (i * 4 + 2) (.int .i64 0))
              have b3 := blk_set b2 (i * 4 + 2) (.int .i64 0)
              have s4 := s3.st hgg (i * 4 + 3) (.int .i64 0) (s3.sp.storeF b3 (i * 4 + 3) (.int .i64 0))
              have b4 := blk_set b3 (i * 4 + 3) (.int .i64 0)
              have HS := Lib.hid s4
              have hltI : (i : Int) < (nF : Int) := by omega
              have h0I : (0 : Int) ≤ (i : Int) := by omega
              clear s1 s2 s3 s4 b1 b2 b3 b4 hcell hfz ho hs hbb hblk
              go_upto_region 11 with fail
              clear x0 f0 x1 f1 x2 f2 x3 f3 pc lg
              generalize ((((wr.setCell ⟨g, i * 4, none⟩ (.int .i64 (-1))).setCell ⟨g, i * 4 + 1, none⟩ (.int .i64 0)).setCell ⟨g, i * 4 + 2, none⟩ (.int .i64 0)).setCell ⟨g, i * 4 + 3, none⟩ (.int .i64 0)) = W9 at *
              go_wp2_with fail
              go_roundw
              case rel => exact ⟨i + 1, by omega, by go_num, HS.out⟩
              case measure => simp [intOf]; omega
            · have hltI : ¬ (i : Int) < (nF : Int) := by omega
              have HSX := Lib.hid hs
              clear hs hbb
              go_wp2_with fail
              go_loopw [5] (fun s wr => ∃ i : Nat, i ≤ nM ∧ s = .int .i64 i ∧ SH base b0 c mv (.slice aP nP cP) (.slice aI nI cI) (.slice aF nF cF) (.slice aM nM cM) W wr) (fun s _ => nM - (intOf s).toNat)
              case atStart => exact ⟨0, Nat.zero_le _, rfl, HSX.out⟩
              case round =>
                obtain ⟨i, hi, rfl, hs⟩ := hrel
                have hbb := hs.blk HB.out
                have pc := hbb.cell 8
                simp only [List.getElem?_toArray, List.getElem?_cons_succ, List.getElem?_cons_zero] at pc
                by_cases hlt : i < nM
                · obtain ⟨gM, rfl⟩ : ∃ gM, aM = some ⟨gM, 0, none⟩ := by
                    obtain ⟨mv', h1, ho, h2⟩ := hs.sp.m
                    have := HNM.out
                    obtain ⟨g, cc, hv, _⟩ := own_cell ho (by omega)
                    simp only [Value.slice.injEq] at hv
                    exact ⟨g, hv.1⟩
                  obtain ⟨x, hx⟩ : ∃ x, mv[i]? = some x := ⟨_, List.getElem?_eq_getElem (by have := HNM.out; omega)⟩
                  have hmem := List.mem_of_getElem? hx
                  obtain ⟨⟨xs1, ho1, hu1⟩, ⟨xs2, ho2, hu2⟩⟩ := hs.sp.r x hmem
                  obtain ⟨ac, kc, hvc, kc1, kc2⟩ := own_slice ho1
                  obtain ⟨at_, kt, hvt, kt1, kt2⟩ := own_slice ho2
                  obtain ⟨nC, hnC⟩ : ∃ n, n = x.1.code.length := ⟨_, rfl⟩
                  obtain ⟨nT, hnT⟩ : ∃ n, n = x.1.traps.length := ⟨_, rfl⟩
                  rw [← hnC] at hvc kc1
                  rw [← hnT] at hvt kt1
                  have hvM : (.slice (some ⟨gM, 0, none⟩) nM cM : Value) = .slice (some ⟨gM, 0, none⟩) mv.length cM := by rw [HNM.out]
                  have HVM := Lib.hid hvM
                  have HMC := Lib.hid (fun (w : World) (h : SP base c mv (.slice aP nP cP) (.slice aI nI cI) (.slice aF nF cF) (.slice (some ⟨gM, 0, none⟩) nM cM) w) => by rw [hvM] at h; have := h.meth hx; rw [hvc, hvt] at this; exact this)
                  have HRW := Lib.hid (fun (w : World) (h : SP base c mv (.slice aP nP cP) (.slice aI nI cI) (.slice aF nF cF) (.slice (some ⟨gM, 0, none⟩) nM cM) w) => by have := h.r x hmem; rw [hvc, hvt, ← hnC, ← hnT] at this; exact this)
                  have HSA := Lib.hid (show ∀ w : World, SP base c mv (.slice aP nP cP) (.slice aI nI cI) (.slice aF nF cF) (.slice (some ⟨gM, 0, none⟩) nM cM) w → (∃ cs, Blk w gM 64 cs) → SP base c mv (.slice aP nP cP) (.slice aI nI cI) (.slice aF nF cF) (.slice (some ⟨gM, 0, none⟩) nM cM) (w.setCell ⟨gM, i * 8, none⟩ (.int .i64 (-1))) from fun w h hb => by rw [hvM] at h ⊢; exact h.storeA hb i (by have := HNM.out; omega) (-1))
                  obtain ⟨hmc, -, -, -, -, -⟩ := HMC.out wr hs.sp
                  have HS := Lib.hid hs
                  have hltI : (i : Int) < (nM : Int) := by omega
                  have h0I : (0 : Int) ≤ (i : Int) := by omega
                  clear hx hmem ho1 hu1 ho2 hu2 hvc hvt hnC hnT hvM hs hbb
                  go_wp2_with fail
                  go_loopw [6] (fun s wr => ∃ k : Nat, k ≤ nC ∧ s = .int .i64 k ∧ SH base b0 c mv (.slice aP nP cP) (.slice aI nI cI) (.slice aF nF cF) (.slice (some ⟨gM, 0, none⟩) nM cM) W wr) (fun s _ => nC - (intOf s).toNat)
                  case atStart => exact ⟨0, Nat.zero_le _, rfl, HS.out⟩
                  case round =>
                    obtain ⟨k, hk, rfl, hs⟩ := hrel
                    clear HS hmc pc
                    have hbb := hs.blk HB.out
                    have pc := hbb.cell 8
                    simp only [List.getElem?_toArray, List.getElem?_cons_succ, List.getElem?_cons_zero] at pc
                    obtain ⟨mc6, -, -, -, -, -⟩ := HMC.out _ hs.sp
                    by_cases hltk : k < nC
                    · obtain ⟨⟨xs, ho, hu⟩, -⟩ := HRW.out _ hs.sp
                      obtain ⟨g, cc, hv, h1, h2, hgb, hblk, hcell, hfz⟩ := own_cell ho (by omega)
                      simp only [Value.slice.injEq] at hv
                      obtain ⟨rfl, -, rfl⟩ := hv
                      have hgg : base ≤ g ∧ g ≠ b0 := ⟨hgb, by obtain ⟨cs, hblk⟩ := hblk; exact Blk.ne_ hblk hbb (by decide)⟩
                      obtain ⟨u, hu0, x0⟩ := hcell k (by omega)
                      obtain ⟨v, rfl⟩ := hu u (List.mem_of_getElem? hu0)
                      have f0 := hfz k
                      have lg := blk_lt hblk
                      have HS1 := Lib.hid ((hs.st hgg k (.int .u8 (bits .xor .u8 v 255)) (hs.sp.storeC hblk k _)).drew)
                      have hltI : (k : Int) < (nC : Int) := by omega
                      have h0K : (0 : Int) ≤ (k : Int) := by omega
                      clear hcell hfz ho hu hu0 hs hbb hblk
                      go_wp2_with fail
                      go_region
                      all_goals
                        (clear x0 f0 lg mc6 pc
                         generalize (wr.setCell ⟨g, k, none⟩ (.int .u8 (bits .xor .u8 v 255))).drew = W9 at *
                         go_wp2_with fail
                         go_roundw
                         case rel => exact ⟨k + 1, by omega, by go_num, HS1.out⟩
                         case measure => simp [intOf]; omega)
                    · have hltI : ¬ (k : Int) < (nC : Int) := by omega
                      have HSY := Lib.hid hs
                      obtain ⟨-, mc7, -, -, -, -⟩ := HMC.out _ hs.sp
                      clear hs hbb
                      go_wp2_with fail
                      go_loopw [7] (fun s wr => ∃ k : Nat, k ≤ nT ∧ s = .int .i64 k ∧ SH base b0 c mv (.slice aP nP cP) (.slice aI nI cI) (.slice aF nF cF) (.slice (some ⟨gM, 0, none⟩) nM cM) W wr) (fun s _ => nT - (intOf s).toNat)
                      case atStart => exact ⟨0, Nat.zero_le _, rfl, HSY.out⟩
                      case round =>
                        obtain ⟨k2, hk2, rfl, hs⟩ := hrel
                        clear HSY mc6 mc7 pc
                        have hbb := hs.blk HB.out
                        have pc := hbb.cell 8
                        simp only [List.getElem?_toArray, List.getElem?_cons_succ, List.getElem?_cons_zero] at pc
                        obtain ⟨-, mc7, ⟨uA, xA⟩, fA, hblkM, hbM⟩ := HMC.out _ hs.sp
                        by_cases hltk : k2 < nT
                        · obtain ⟨-, ⟨xs, ho, hu⟩⟩ := HRW.out _ hs.sp
                          obtain ⟨g, cc, hv, h1, h2, hgb, hblk, hcell, hfz⟩ := own_cell ho (by omega)
                          simp only [Value.slice.injEq] at hv
                          obtain ⟨rfl, -, rfl⟩ := hv
                          have hgg : base ≤ g ∧ g ≠ b0 := ⟨hgb, by obtain ⟨cs, hblk⟩ := hblk; exact Blk.ne_ hblk hbb (by decide)⟩
                          obtain ⟨u0, -, x0⟩ := hcell (k2 * 4) (by omega)
                          obtain ⟨u1, -, x1⟩ := hcell (k2 * 4 + 1) (by omega)
                          obtain ⟨u2, -, x2⟩ := hcell (k2 * 4 + 2) (by omega)
                          obtain ⟨u3, -, x3⟩ := hcell (k2 * 4 + 3) (by omega)
                          have f0 := hfz (k2 * 4)
                          have f1 := hfz (k2 * 4 + 1)
                          have f2 := hfz (k2 * 4 + 2)
                          have f3 := hfz (k2 * 4 + 3)
                          have lg := blk_lt hblk
                          have s1 := hs.st hgg (k2 * 4) (.int .i64 (-1)) (hs.sp.storeT hblk (k2 * 4) (-1))
                          have b1 := blk_set hblk (k2 * 4) (.int .i64 (-1))
                          have s2 := s1.st hgg (k2 * 4 + 1) (.int .i64 0) (s1.sp.storeT b1 (k2 * 4 + 1) 0)
                          have b2 := blk_set b1 (k2 * 4 + 1) (.int .i64 0)
                          have s3 := s2.st hgg (k2 * 4 + 2) (.int .i64 0) (s2.sp.storeT b2 (k2 * 4 + 2) 0)
                          have b3 := blk_set b2 (k2 * 4 + 2) (.int .i64 0)
                          have s4 := s3.st hgg (k2 * 4 + 3) (.int .i64 0) (s3.sp.storeT b3 (k2 * 4 + 3) 0)
                          have HS1 := Lib.hid s4
                          have hltI2 : (k2 : Int) < (nT : Int) := by omega
                          have h0K : (0 : Int) ≤ (k2 : Int) := by omega
                          clear hcell hfz ho hu hs hbb hblk s1 s2 s3 s4 b1 b2 b3 xA fA hblkM
                          go_upto_region 22 with fail
                          clear x0 x1 x2 x3 f0 f1 f2 f3 lg mc7 pc
                          generalize ((((wr.setCell ⟨g, k2 * 4, none⟩ (.int .i64 (-1))).setCell ⟨g, k2 * 4 + 1, none⟩ (.int .i64 0)).setCell ⟨g, k2 * 4 + 2, none⟩ (.int .i64 0)).setCell ⟨g, k2 * 4 + 3, none⟩ (.int .i64 0)) = W9 at *
                          go_wp2_with fail
                          go_roundw
                          case rel => exact ⟨k2 + 1, by omega, by go_num, HS1.out⟩
                          case measure => simp [intOf]; omega
                        · have hltI2 : ¬ (k2 : Int) < (nT : Int) := by omega
                          have hgg : base ≤ gM ∧ gM ≠ b0 := ⟨hbM, by obtain ⟨cs, hblk⟩ := hblkM; exact Blk.ne_ hblk hbb (by decide)⟩
                          have lg := blk_lt hblkM
                          have HS1 := Lib.hid (hs.st hgg (i * 8) (.int .i64 (-1)) (HSA.out _ hs.sp hblkM))
                          clear hs hbb hblkM
                          go_upto_region 15 with fail
                          clear xA fA lg pc mc7
                          generalize wr.setCell ⟨gM, i * 8, none⟩ (.int .i64 (-1)) = W9 at *
                          go_wp2_with fail
                          go_roundw
                          case rel => exact ⟨i + 1, by omega, by go_num, HS1.out⟩
                          case measure => simp [intOf]; omega
                · have hltI : ¬ (i : Int) < (nM : Int) := by omega
                  have HT2 := Lib.hid (HT.out.trans hs.tch fun b hb => .inl hb.1)
                  clear hs hbb
                  go_wp2_with fail
                  exact bodyPost_end (results_none rfl _ _ _) rfl ⟨rfl, HT2.out⟩
end Go.Proofs.Ytlipdifhdaaknaa
