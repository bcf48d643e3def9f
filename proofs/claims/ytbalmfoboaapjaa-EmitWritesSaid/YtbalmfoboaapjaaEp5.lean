/-
  Package emit by contract: the writer's map of constants; utf8.
-/
import Derived.Test.YtbalmfoboaapjaaEp4
import Derived.Test.YtbalmfoboaapjaaEr4
import Derived.Test.YtbalmfoboaapjaaDict
import Derived.DeepKeys4
import Derived.MapViews
namespace Go.Proofs.Ytbalmfoboaapjaa
set_option linter.unusedVariables false
set_option linter.unusedSimpArgs false
open Go.RowKit Go.Maps
set_option maxRecDepth 100000

/-- A constant by what it says. -/
structure KeyC where
  tag : Int
  text : ByteArray
deriving DecidableEq
def encK (k : KeyC) : Value := .agg #[.int .i64 k.tag, .string k.text]
theorem encK_inj (a b : KeyC) (h : encK a = encK b) : a = b := by
  obtain ⟨t, s⟩ := a
  obtain ⟨t', s'⟩ := b
  simp only [encK, Value.agg.injEq, Array.mk.injEq, List.cons.injEq, Value.int.injEq, Value.string.injEq, and_true, true_and] at h
  rw [h.1, h.2]
theorem laidE : laidOutB Try.prog = true := by kernel_rfl
theorem law_keyE : Keyed Try.prog 61 := Keyed.of_law (deep_law_laid laidE (m := 2) (by omega) (of_decide_eq_true (by kernel_rfl)) (by kernel_rfl) (by rw [Try.underlying61]))
theorem keyE_some (k : KeyC) (h1 : -9223372036854775808 ≤ k.tag) (h2 : k.tag ≤ 9223372036854775807) (h3 : k.text.size ≤ maxLen) : ∃ l, keyOf Try.prog 61 (encK k) = some l := by
  obtain ⟨t, s⟩ := k
  dsimp only at h1 h2 h3
  have hw : (Lit.int .i64 t).wf = true := WalkArith.wf_i64 ⟨h1, h2⟩
  have hd : Try.prog.keyType 61 = true := by kernel_rfl
  have ck : Try.prog.cellsOf 61 = 2 := by kernel_rfl
  have ce : Try.prog.cellsOf 3 = 1 := by kernel_rfl
  have cs : Try.prog.cellsOf 9 = 1 := by kernel_rfl
  have hf : (encK ⟨t, s⟩).formed Try.prog 61 = true := by simp [encK, Value.formed, Try.underlying61, ck]
  obtain ⟨d, hs⟩ : ∃ d, Try.prog.types.size + 1 = d + 2 := ⟨Try.prog.types.size - 1, by have : 1 ≤ Try.prog.types.size := of_decide_eq_true (by kernel_rfl); omega⟩
  have hk : Try.prog.keyLits (d + 2) 61 [.int .i64 t, .string s] = some [.int .i64 t, .string s.data.toList] := by
    simp [Program.keyLits, Try.underlying61, Try.underlying3, Try.underlying9, ck, ce, cs, hw, h3]
  refine ⟨.string (keyBytes [.int .i64 t, .string s.data.toList]), ?_⟩
  unfold keyOf
  rw [Try.underlying61]
  simp only [hd, hf, Bool.and_self, if_true, hs]
  show (Program.keyLits _ _ _ [Value.int .i64 t, Value.string s]).map _ = _
  rw [hk]
  rfl
/-- The first constant that says so: its number; 0: there is none. -/
def idxC : List ConstC → KeyC → Nat
  | [], _ => 0
  | c :: l, k => if c.tag = k.tag ∧ c.text = k.text then 1 else if idxC l k = 0 then 0 else idxC l k + 1
theorem idx_named (l : List ConstC) (s : ByteArray) : idxC l ⟨1, s⟩ = namedC l s := by
  induction l with
  | nil => rfl
  | cons c l ih => simp only [idxC, namedC, ih]
theorem idx_snoc (l : List ConstC) (x : ConstC) (k : KeyC) : idxC (l ++ [x]) k = if idxC l k ≠ 0 then idxC l k else if x.tag = k.tag ∧ x.text = k.text then l.length + 1 else 0 := by
  induction l with
  | nil => simp [idxC]
  | cons c l ih =>
    simp only [List.cons_append, idxC, ih, List.length_cons]
    by_cases h1 : c.tag = k.tag ∧ c.text = k.text
    · simp [h1]
    · simp only [if_neg h1]
      by_cases h2 : idxC l k = 0
      · simp only [h2, ne_eq, not_true_eq_false, if_false, if_true]
        split
        · simp
        · simp
      · simp [h2]
/-- The writer's map tells of the constants' first places. -/
def IdxD (l : List ConstC) (f : KeyC → Option Value) : Prop := ∀ k, (f k).getD (.int .i64 0) = .int .i64 (idxC l k)
theorem IdxD.nil : IdxD [] (fun _ => none) := fun _ => rfl
theorem IdxD.old {l : List ConstC} {f : KeyC → Option Value} {x : ConstC} (h : IdxD l f) (hx : idxC l ⟨x.tag, x.text⟩ ≠ 0) : IdxD (l ++ [x]) f := by
  intro k
  rw [h k, idx_snoc]
  by_cases h1 : idxC l k = 0
  · rw [if_neg (fun e => e h1), if_neg (fun ⟨e1, e2⟩ => hx (by rw [show (⟨x.tag, x.text⟩ : KeyC) = k by obtain ⟨t, s⟩ := k; dsimp only at e1 e2; rw [e1, e2]]; exact h1)), h1]
  · rw [if_pos h1]
theorem IdxD.new {l : List ConstC} {f : KeyC → Option Value} {x : ConstC} (h : IdxD l f) (hx : idxC l ⟨x.tag, x.text⟩ = 0) : IdxD (l ++ [x]) (fun k => if k = ⟨x.tag, x.text⟩ then some (.int .i64 ((l.length : Int) + 1)) else f k) := by
  intro k
  rw [idx_snoc]
  by_cases h0 : k = ⟨x.tag, x.text⟩
  · subst h0
    simp only [if_true, Option.getD_some, hx, ne_eq, not_true_eq_false, if_false, and_self]
    push_cast
    rfl
  · simp only [if_neg h0]
    rw [h k]
    have h2 : ¬ (x.tag = k.tag ∧ x.text = k.text) := fun ⟨e1, e2⟩ => h0 (by obtain ⟨t, s⟩ := k; dsimp only at e1 e2; rw [e1, e2])
    rw [if_neg h2]
    by_cases h1 : idxC l k = 0
    · rw [if_neg (fun e => e h1), h1]
    · rw [if_pos h1]
/-- The writer: its bytes, its map. -/
structure WS (l : List ConstC) (g bm n : Nat) (L : List UInt8) (fl : Int) (W : World) : Prop where
  ew : ∃ vb, EW W g L vb (.map (some bm)) fl
  dict : ∃ f, Dict Try.prog 61 encK W bm n f ∧ IdxD l f
  lt : bm < g
def GG (g : Nat) : Nat → Prop := fun b => b = g
section
variable {l : List ConstC} {g bm n : Nat} {L : List UInt8} {fl : Int} {w w' : World}
theorem WS.kept (h : WS l g bm n L fl w) (k : Kept w w') : WS l g bm n L fl w' := by
  obtain ⟨⟨vb, he⟩, ⟨f, hd, hi⟩, hl⟩ := h
  exact ⟨⟨vb, he.touch (S := fun _ => False) (Touch.of_kept k) (fun e => e) fun _ _ e => e⟩, ⟨f, hd.kept k, hi⟩, hl⟩
theorem WS.c0 (h : WS l g bm n L fl w) : ∃ vb, w.cell? ⟨g, 0, none⟩ = some vb ∧ EW w g L vb (.map (some bm)) fl := by
  obtain ⟨⟨vb, he⟩, _, _⟩ := h
  exact ⟨vb, he.blk.cell 0, he⟩
theorem WS.c1 (h : WS l g bm n L fl w) : w.cell? ⟨g, 1, none⟩ = some (.map (some bm)) := by
  obtain ⟨⟨vb, he⟩, _, _⟩ := h
  exact he.blk.cell 1
theorem WS.c2 (h : WS l g bm n L fl w) : w.cell? ⟨g, 2, none⟩ = some (.int .i64 fl) := by
  obtain ⟨⟨vb, he⟩, _, _⟩ := h
  exact he.blk.cell 2
theorem WS.glt (h : WS l g bm n L fl w) : g < w.heap.size := by
  obtain ⟨⟨vb, he⟩, _, _⟩ := h
  exact he.blk.lt
theorem WS.fr (h : WS l g bm n L fl w) (i : Nat) : w.frozen? ⟨g, i, none⟩ = false := by
  obtain ⟨⟨vb, he⟩, _, _⟩ := h
  exact he.blk.frozen i
theorem WS.fail (h : WS l g bm n L fl w) (e : Int) : WS l g bm n L e (w.setCell ⟨g, 2, none⟩ (.int .i64 e)) := by
  obtain ⟨⟨vb, he⟩, ⟨f, hd, hi⟩, hl⟩ := h
  have ht : Touch (fun b => b = g) w (w.setCell ⟨g, 2, none⟩ (.int .i64 e)) := (Touch.refl _ _).one 2 _
  refine ⟨⟨vb, ⟨by simpa using he.blk.set_ 2 (.int .i64 e), ht.own he.row fun k hk e => by have := (he.row.lt k hk).1; omega⟩⟩, ⟨f, hd.touch ht (by omega), hi⟩, hl⟩
end
/-- What a put has done. -/
def PutY (l : List ConstC) (g bm n : Nat) (L : List UInt8) (fl : Int) (w : World) (e : Ending) (w' : World) : Prop := e = .returned (.tuple #[]) ∧ WS l g bm n L fl w' ∧ TY (GG g) (g + 1) w w'
theorem put_z {l : List ConstC} {g bm n : Nat} {L L' : List UInt8} {vb vb' : Value} {fl : Int} {w w' : World} (h : WS l g bm n L fl w) (he : EW w g L vb (.map (some bm)) fl) (h2 : EW w' g L' vb' (.map (some bm)) fl) (h3 : Touch (PS_ g vb) w w') : WS l g bm n L' fl w' ∧ TY (GG g) (g + 1) w w' := by
  obtain ⟨_, ⟨f, hd, hi⟩, hl⟩ := h
  refine ⟨⟨⟨vb', h2⟩, ⟨f, hd.touch h3 (fun e => ?_), hi⟩, hl⟩, h3.mono fun b hb => ?_⟩
  · rcases e with e | e
    · omega
    · have := (he.row.lt bm e).1; omega
  · rcases hb with hb | hb
    · exact .inl hb
    · right
      rcases he.row.2 with ⟨rfl, _⟩ | ⟨q, cap, cur, rfl, hg, hh, _⟩
      · cases hb
      · obtain rfl : q = b := by simpa [Value.ownBlock] using hb
        exact ⟨hg, cur, hh⟩
theorem put_y {l : List ConstC} {g bm n : Nat} {L L' : List UInt8} {vb : Value} {fl : Int} {w : World} {e : Ending} {w' : World} (h : WS l g bm n L fl w) (he : EW w g L vb (.map (some bm)) fl) (hp : PutG g L' vb (.map (some bm)) fl w e w') : PutY l g bm n L' fl w e w' := by
  obtain ⟨h1, vb', h2, h3, _⟩ := hp
  exact ⟨h1, put_z h he h2 h3⟩
theorem emit_putN (l : List ConstC) (g bm n : Nat) (L : List UInt8) (fl : Int) (k : Nat) (hk : k = 1 ∨ k = 2 ∨ k = 4) (i : Int) (hi : i = k) (xs : List Int) (w : World) (h : WS l g bm n L fl w) (hsz : L.length + 4 * xs.length ≤ 100000000000) :
    Calls Try.prog 22 #[.pointer (some ⟨g, 0, none⟩), .int .i64 i, .slice (some ⟨w.heap.size, 0, none⟩) xs.length xs.length] (w.alloc (.cells (xs.map (Value.int .i64)).toArray 3)) (PutY l g bm n (L ++ xs.flatMap (beB k)) fl w) := by
  have hkk : Kept w (w.alloc (.cells (xs.map (Value.int .i64)).toArray 3)) := (Below.refl _ _).alloc (Nat.le_refl _) _
  obtain ⟨⟨vb, he⟩, _⟩ := h.kept hkk
  obtain ⟨⟨vb0, he0⟩, _⟩ := id h
  have hvb : vb = vb0 := by
    have h1 := he.blk.cell 0
    have h2 := hkk.cell (he0.blk.cell 0)
    rw [h1] at h2
    simpa using h2
  subst hvb
  refine (emit_put g L vb _ fl k hk xs _ _ he (rd_new w xs _ (by omega)) (fun _ q hq => ?_) hsz i hi).mono fun e w' hp => ?_
  · obtain rfl : w.heap.size = q := by simpa [Value.ownBlock] using hq
    have := h.glt
    refine ⟨by omega, fun e => ?_⟩
    have := (he0.row.lt _ e).2
    omega
  · obtain ⟨h1, h2, h3⟩ := put_y (h.kept hkk) he hp
    exact ⟨h1, h2, (TY.of_kept hkk).trans h3⟩
theorem emit_putR (l : List ConstC) (g bm n : Nat) (L : List UInt8) (fl : Int) (xs : List Int) (m : Nat) (hm : m = xs.length) (vl : Value) (w : World) (h : WS l g bm n L fl w) (hl : Rd w 1 vl m (xs.flatMap encI)) (hne : 0 < m → ∀ q, vl.ownBlock = some q → q < g) (hsz : L.length + 4 * xs.length ≤ 100000000000) :
    Calls Try.prog 22 #[.pointer (some ⟨g, 0, none⟩), .int .i64 2, vl] w (PutY l g bm n (L ++ twoB xs) fl w) := by
  subst hm
  obtain ⟨⟨vb, he⟩, _⟩ := id h
  refine (emit_put g L vb _ fl 2 (by omega) xs vl w he hl (fun h0 q hq => ?_) hsz 2 rfl).mono fun e w' hp => put_y h he hp
  have := hne h0 q hq
  refine ⟨by omega, fun e => ?_⟩
  have := (he.row.lt _ e).1
  omega
theorem zeroI (w : World) : (zeroValue 3).run Try.prog w = .ok (.int .i64 0) w := by kernel_rfl
/-- What utf8 tells: the number; that there is none is kept. -/
def Utf8G (l : List ConstC) (g bm n : Nat) (L : List UInt8) (fl : Int) (z : Int) (w : World) (e : Ending) (w' : World) : Prop := e = .returned (.int .i64 z) ∧ WS l g bm n L (if z = 0 then 20 else fl) w' ∧ TY (GG g) (g + 1) w w'
theorem emit_utf8 (l : List ConstC) (g bm n : Nat) (L : List UInt8) (fl : Int) (s : ByteArray) (hs : s.size ≤ maxLen) (w : World) (h : WS l g bm n L fl w) (z : Int) (hz : z = ((namedC l s : Nat) : Int)) :
    Calls Try.prog 23 #[.pointer (some ⟨g, 0, none⟩), .string s] w (Utf8G l g bm n L fl z w) := by
  obtain ⟨f, hd, hi⟩ := h.dict
  have hv := hi ⟨1, s⟩
  rw [idx_named, ← hz] at hv
  have HV := Lib.hid hv
  have HD := Lib.hid hd
  have HI := Lib.hid hi
  obtain ⟨kl, hkl⟩ := keyE_some ⟨1, s⟩ (by dsimp only; omega) (by dsimp only; omega) hs
  have HK := Lib.hid hkl
  have c1 := h.c1
  have c2 := h.c2
  have f2 := h.fr 2
  have hg := h.glt
  have H := Lib.hid h
  clear h hd hi hv hkl hz
  by_cases hz0 : z = 0
  · subst hz0
    go_enter Try.func23, Try.ntmps23
    go_wp2_with (at_lookup; refine wpl_look _ rfl _ _ 55 rfl HD.out law_keyE Try.underlying55 (zeroI _) rfl ⟨1, s⟩ rfl HK.out (.int .i64 0) HV.out ?_)
    go_ret
    exact ⟨rfl, by rw [if_pos rfl]; exact H.out.fail 20, ((Touch.refl (fun b => b = g) w).one 2 _).mono fun b hb => .inl hb⟩
  · have hz1 : (z == 0) = false := by simpa using hz0
    have HZ := Lib.hid hz0
    clear hz0
    go_enter Try.func23, Try.ntmps23
    go_wp2_with (at_lookup; refine wpl_look _ rfl _ _ 55 rfl HD.out law_keyE Try.underlying55 (zeroI _) rfl ⟨1, s⟩ rfl HK.out (.int .i64 z) HV.out ?_)
    go_ret
    exact ⟨rfl, by rw [if_neg HZ.out]; exact H.out, TY.refl _ _ _⟩
end Go.Proofs.Ytbalmfoboaapjaa
