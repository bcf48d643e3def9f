/-
  Package stack by contract: Push, take, Pop.
-/
import Derived.Test.YtfjkcokollkijaaStack
import Derived.Deep.RegionWith
namespace Go.Proofs.Ytfjkcokollkijaa
open Go.RowKit
set_option maxRecDepth 100000

theorem stack_Push_no (B : Nat) (w : World) (p : Value) (x : FrV) (g : Nat) (v u : Value) (y : ValV) (h : PFr B w p x g v u) (hl : x.most ≤ x.l.length) :
    Calls Try.prog 11 #[p, .agg #[.bool y.ref, .int .i64 y.n]] w fun e w' => e = .returned (.bool false) ∧ Kept w w' := by
  obtain ⟨rfl, hb, ho, hu, hB, hap⟩ := h
  obtain ⟨a, c, rfl, hlc, hc⟩ := own_slice ho
  have k0 : Kept w ((w.alloc (.cells #[.bool y.ref, .int .i64 y.n] 34)).drew) := ((Below.refl _ _).alloc (Nat.le_refl _) _).drew
  have C := stack_push_no ((w.alloc (.cells #[.bool y.ref, .int .i64 y.n] 34)).drew) g _ u x.l.length x.most y (hb.kept k0) ⟨a, c, rfl⟩ hl
  have K0 := Lib.hid k0
  clear hb ho hu hap k0
  go_enter Try.func11, Try.ntmps11
  go_wp2
  go_region_with ((go_at_call 21; refine C.mono ?_; rintro e w' ⟨rfl, k1⟩; have K1 := Lib.hid k1; clear k1))
  all_goals go_wp2
  all_goals go_ret
  all_goals exact ⟨rfl, Kept.trans K0.out K1.out⟩

theorem stack_Push (B : Nat) (w : World) (p : Value) (x : FrV) (g : Nat) (v u : Value) (y : ValV) (h : PFr B w p x g v u) (hBw : B ≤ w.heap.size) (hl : x.l.length ≤ 64) (hm : x.l.length < x.most) :
    Calls Try.prog 11 #[p, .agg #[.bool y.ref, .int .i64 y.n]] w fun e w' =>
      e = .returned (.bool true) ∧ ∃ v', PFr B w' p ⟨x.l ++ [y], x.most, x.loc⟩ g v' u ∧ Touch (footF g v u) w w' ∧ ∀ k, v'.ownBlock = some k → v.ownBlock = some k ∨ w.heap.size ≤ k := by
  have hp := h.ptr
  subst hp
  have k0 : Kept w ((w.alloc (.cells #[.bool y.ref, .int .i64 y.n] 34)).drew) := ((Below.refl _ _).alloc (Nat.le_refl _) _).drew
  have C := stack_push B ((w.alloc (.cells #[.bool y.ref, .int .i64 y.n] 34)).drew) x g v u y (h.kept k0) (Nat.le_trans hBw k0.size) hl hm
  have K0 := Lib.hid k0
  clear h k0
  go_enter Try.func11, Try.ntmps11
  go_wp2
  go_region_with ((go_at_call 21; refine C.mono ?_; rintro e w' ⟨rfl, v1, h1, h2, h3⟩; have K1 := Lib.hid h1; have K2 := Lib.hid h2; have K3 := Lib.hid h3; clear h1 h2 h3))
  all_goals go_wp2
  all_goals go_ret
  all_goals exact ⟨rfl, v1, K1.out, (Touch.of_kept (S := footF g v u) K0.out).trans K2.out fun b hb => .inl hb, fun k hk => (K3.out k hk).imp id fun h => Nat.le_trans K0.out.size h⟩

/-- The front of an owned row. -/
theorem own_front {w : World} {B : Nat} {e : TypeId} {sz n c g k : Nat} {xs : List Value} (h : w.ownsRow B e sz (.slice (some ⟨g, 0, none⟩) n c) n xs) (hk : k ≤ n) : w.ownsRow B e sz (.slice (some ⟨g, 0, none⟩) k c) k (xs.take (k * sz)) := by
  obtain ⟨hl, h⟩ := h
  rcases h with ⟨h0, _⟩ | ⟨g', cap, cur, hv, hg, hh, hn, hc, hs, ht⟩
  · cases h0
  · simp only [Value.slice.injEq, Option.some.injEq, Addr.mk.injEq] at hv
    obtain ⟨⟨rfl, -, -⟩, -, rfl⟩ := hv
    have hle : k * sz ≤ n * sz := Nat.mul_le_mul_right sz hk
    refine ⟨by rw [List.length_take, hl]; omega, .inr ⟨g, c, cur, rfl, hg, hh, Nat.le_trans hk hn, hc, hs, ?_⟩⟩
    rw [← ht, List.take_take, Nat.min_eq_left (by omega)]

theorem vals_drop (l : List ValV) : ∀ (k : Nat), (l.flatMap encVal).drop (k * 2) = (l.drop k).flatMap encVal := by
  induction l with
  | nil => intro k; simp
  | cons a l ih =>
    intro k
    cases k with
    | zero => simp
    | succ k =>
      have := ih k
      simp only [List.flatMap_cons, encVal, List.cons_append, List.nil_append, List.drop_succ_cons, Nat.add_mul] at this ⊢
      simpa using this
theorem vals_take (l : List ValV) : ∀ (k : Nat), (l.flatMap encVal).take (k * 2) = (l.take k).flatMap encVal := by
  induction l with
  | nil => intro k; simp
  | cons a l ih =>
    intro k
    cases k with
    | zero => simp
    | succ k =>
      have := ih k
      simp only [List.flatMap_cons, encVal, List.cons_append, List.nil_append, List.take_succ_cons, Nat.add_mul] at this ⊢
      simpa using this

/-- What take leaves. -/
def Took (B : Nat) (w : World) (x : FrV) (g : Nat) (v u : Value) (k : Nat) (e : Ending) (w' : World) : Prop :=
  ∃ t v', e = .returned t ∧ Rd w' 2 t (x.l.length - k) ((x.l.drop k).flatMap encVal) ∧ PFr B w' (.pointer (some ⟨g, 0, none⟩)) ⟨x.l.take k, x.most, x.loc⟩ g v' u ∧ Touch (fun b => b = g) w w' ∧ ∀ k, v'.ownBlock = some k → v.ownBlock = some k

/-- The cells of an owned row behind a store elsewhere. -/
theorem own_cells {w : World} {B : Nat} {e : TypeId} {sz n c r g i : Nat} {xs : List Value} {u : Value} (h : w.ownsRow B e sz (.slice (some ⟨r, 0, none⟩) n c) n xs) (hne : r ≠ g) : ∀ j u', xs[j]? = some u' → (w.setCell ⟨g, i, none⟩ u).cell? ⟨r, j, none⟩ = some u' := by
  intro j u' hu
  rcases h.2 with ⟨h0, _⟩ | ⟨g', cap, cur, hv, hg, hh, hn, hc, hs, ht⟩
  · cases h0
  · simp only [Value.slice.injEq, Option.some.injEq, Addr.mk.injEq] at hv
    obtain ⟨⟨rfl, -, -⟩, -, rfl⟩ := hv
    rw [World.cell?_of_block (Below.heap_setCell w ⟨g, i, none⟩ u r hne), cell_of_row w r j cur e (0, 0) hh, ← hu, ← ht, List.getElem?_take]
    have := (List.getElem?_eq_some_iff.1 hu).1
    rw [h.1] at this
    rw [if_pos this, Array.getElem?_toList]

theorem Took.mk {B : Nat} {w : World} {x : FrV} {g r n c : Nat} {u : Value} {k : Nat} (hb : Blk w g 48 #[.slice (some ⟨r, 0, none⟩) n c, .int .i64 x.most, u]) (ho : w.ownsRow B 34 2 (.slice (some ⟨r, 0, none⟩) n c) n (x.l.flatMap encVal))
    (hu : w.ownsRow B 34 2 u x.loc.length (x.loc.flatMap encVal)) (hB : B ≤ g) (hap : ∀ k, (Value.slice (some ⟨r, 0, none⟩) n c).ownBlock = some k → u.ownBlock = some k → False) (hn : n = x.l.length) (hk : k ≤ n) (hnc : n ≤ c) (hc : c ≤ 9223372036854775807)
    {off : Nat} (hoff : k < n → off = k * 2) : Took B w x g (.slice (some ⟨r, 0, none⟩) n c) u k (.returned (.slice (some ⟨r, off, none⟩) (n - k) (c - k))) (w.setCell ⟨g, 0, none⟩ (.slice (some ⟨r, 0, none⟩) k c)) := by
  have hr : r ≠ g := fun e => own_ne ho hb (by decide) r rfl e
  refine ⟨_, .slice (some ⟨r, 0, none⟩) k c, rfl, ?_, IsFr.hold (x := x) hb ?_ hu hB (fun j hj hj2 => hap j hj hj2) (by decide), (Touch.refl (fun b => b = g) w).setCell (p := ⟨g, 0, none⟩) (.inl rfl) _, fun j hj => hj⟩
  · rw [← hn]
    refine ⟨by rw [flat_length encVal 2 encVal_len, List.length_drop, ← hn], _, c - k, rfl, by omega, by omega, fun hlt => ⟨r, off, rfl, fun j u' hu' => ?_⟩⟩
    rw [hoff (by omega)]
    refine own_cells ho hr (k * 2 + j) u' ?_
    rw [← vals_drop, List.getElem?_drop] at hu'
    exact hu'
  · have := own_front ho hk
    rw [vals_take] at this
    rw [List.length_take, ← hn, Nat.min_eq_left hk]
    exact this

theorem Took.nil {B : Nat} {w : World} {x : FrV} {g : Nat} {u : Value} {k : Nat} (hb : Blk w g 48 #[.slice none 0 0, .int .i64 x.most, u])
    (hu : w.ownsRow B 34 2 u x.loc.length (x.loc.flatMap encVal)) (hB : B ≤ g) (hx : x.l = []) (hk : k = 0) : Took B w x g (.slice none 0 0) u k (.returned (.slice none 0 0)) (w.setCell ⟨g, 0, none⟩ (.slice none 0 0)) := by
  subst hk
  refine ⟨_, .slice none 0 0, rfl, by rw [hx]; exact Rd.nil, IsFr.hold (x := x) hb (by rw [hx]; exact World.ownsRow_nil _ _ _ _) hu hB (fun j hj hj2 => by cases hj) (by decide), (Touch.refl (fun b => b = g) w).setCell (p := ⟨g, 0, none⟩) (.inl rfl) _, fun j hj => hj⟩

/-- take: what is above is told, and cut off. -/
theorem stack_take (B : Nat) (w : World) (x : FrV) (g : Nat) (v u : Value) (k : Nat) (h : PFr B w (.pointer (some ⟨g, 0, none⟩)) x g v u) (hl : x.l.length ≤ 64) (hk : k ≤ x.l.length) :
    Calls Try.prog 23 #[.pointer (some ⟨g, 0, none⟩), .int .i64 k] w (Took B w x g v u k) := by
  obtain ⟨-, hb, ho, hu, hB, hap⟩ := h
  have hbl := hb.lt
  rcases ho.2 with ⟨rfl, h0⟩ | ⟨r, c, cur, rfl, hg, hh, hlc, hc, hs, ht⟩
  · have c0 := hb.cell 0
    have f0 := hb.frozen 0
    simp at c0
    have hx : x.l = [] := List.length_eq_zero_iff.1 h0
    have hk0 : k = 0 := by rw [hx] at hk; simpa using hk
    have HT := Lib.hid (Took.nil (k := k) hb hu hB hx hk0)
    subst hk0
    clear hb ho hu hap hk hl hx h0
    go_enter Try.func23, Try.ntmps23
    go_wp2
    go_ret
    exact HT.out
  · unfold maxLen at hc
    have c0 := hb.cell 0
    have f0 := hb.frozen 0
    simp at c0
    obtain ⟨n, hn⟩ : ∃ n, n = x.l.length := ⟨_, rfl⟩
    rw [← hn] at c0 hk hl hlc hb ho hap ⊢
    have HT := Lib.hid (fun off hoff => Took.mk (off := off) (k := k) hb ho hu hB hap hn hk hlc hc hoff)
    clear hb ho hu hap hn hh hs ht hg
    by_cases hck : c = k
    · obtain rfl : n = k := by omega
      subst hck
      go_enter Try.func23, Try.ntmps23
      go_wp2
      go_ret
      have hh := HT.out 0 (fun h => by omega)
      rw [Nat.sub_self] at hh
      exact hh
    · go_enter Try.func23, Try.ntmps23
      go_wp2
      go_ret
      exact HT.out _ (fun h => rfl)

/-- Do these letters fit the values on top? -/
def popOk (s : ByteArray) (l : List ValV) : Prop := s.size ≤ l.length ∧ ∀ j b y, s.data.toList[j]? = some b → l[l.length - s.size + j]? = some y → fitsB (b.toNat : Int) y = true

theorem fits_ascii {b : Nat} {y : ValV} (h : fitsB (b : Int) y = true) : b < 128 := by
  simp only [fitsB, Bool.or_eq_true, beq_iff_eq] at h
  rcases h with h | h
  · omega
  · split at h <;> simp at h <;> omega
theorem fits_high {c : Int} {y : ValV} (h : 128 ≤ c) : fitsB c y = false := by
  simp only [fitsB]
  rw [Bool.or_eq_false_iff]
  refine ⟨by simp; omega, ?_⟩
  split <;> simp <;> omega

/-- A front of ASCII: each byte is a letter. -/
theorem count_front (s : ByteArray) : ∀ (d pos fuel : Nat), pos + d ≤ s.size → d ≤ fuel → (∀ j, pos ≤ j → j < pos + d → ∀ h : j < s.size, (s[j]'h).toNat < 128) → Lib.runeCountFrom s fuel pos = d + Lib.runeCountFrom s (fuel - d) (pos + d)
  | 0, pos, fuel, _, _, _ => by simp
  | d + 1, pos, fuel, h1, h2, h3 => by
    obtain ⟨f, rfl⟩ : ∃ f, fuel = f + 1 := ⟨fuel - 1, by omega⟩
    have hp : pos < s.size := by omega
    rw [Lib.runeCountFrom, if_pos hp, decode_ascii s pos hp (h3 pos (Nat.le_refl _) (by omega) hp)]
    have ih := count_front s d (pos + 1) f (by omega) (by omega) (fun j hj hj' h => h3 j (by omega) (by omega) h)
    rw [ih]
    have e1 : pos + 1 + d = pos + (d + 1) := by omega
    have e2 : f + 1 - (d + 1) = f - d := by omega
    rw [e1, e2]
    omega
theorem count_lt (s : ByteArray) (k : Nat) (hk : k < s.size) (h : ∀ j, j < k → ∀ h : j < s.size, (s[j]'h).toNat < 128) : k < Lib.runeCount s := by
  have := count_front s k 0 s.size (by omega) (by omega) (fun j _ hj hh => h j (by omega) hh)
  rw [Lib.runeCount, this, Nat.zero_add]
  obtain ⟨f, hf⟩ : ∃ f, s.size - k = f + 1 := ⟨s.size - k - 1, by omega⟩
  rw [hf, Lib.runeCountFrom, if_pos hk]
  omega
theorem count_all (s : ByteArray) (h : ∀ j, ∀ h : j < s.size, (s[j]'h).toNat < 128) : Lib.runeCount s = s.size := Lib.runeCount_ascii s h
end Go.Proofs.Ytfjkcokollkijaa
