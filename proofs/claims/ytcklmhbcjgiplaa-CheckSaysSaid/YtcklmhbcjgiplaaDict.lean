/-
  A map of the call's own, told by the value at each key. No function of the program in sight.
-/
import Derived.Test.YtcklmhbcjgiplaaTouch
import Derived.Maps.Own
import Derived.Maps.OwnSet
import Derived.Maps.Views
namespace Go.Proofs.Ytcklmhbcjgiplaa
set_option linter.unusedVariables false
set_option linter.unusedSimpArgs false
open Go.RowKit
open Go.Maps (Keyed)

/-- An element reads as itself. -/
def heldR (v : Value) : Option (DataW Value × List MemPlace) := some (.held v, [])

/-- Block b is a map of at most n entries that holds 'f a' at the key 'enc a'. -/
def Dict {α : Type} (P : Program) (k : TypeId) (enc : α → Value) (w : World) (b n : Nat) (f : α → Option Value) : Prop :=
  ∃ D : DataW Value, w.ownsMap P k heldR b n D ∧ ∀ a l, keyOf P k (enc a) = some l → Maps.has D l = (f a).isSome ∧ ∀ z : Value, D.atKey l (.held z) = .held ((f a).getD z)

section
variable {α : Type} {P : Program} {k : TypeId} {enc : α → Value} {w w' : World} {b n : Nat} {f : α → Option Value}

theorem Dict.made (P : Program) (k : TypeId) (enc : α → Value) (w : World) : Dict P k enc (w.alloc (.map #[] 0)) w.heap.size 0 (fun _ => none) :=
  ⟨_, World.ownsMap_made w P k heldR, fun _ l _ => ⟨rfl, fun z => Maps.atKey_of_not_has (D := .map []) (k := l) rfl _⟩⟩

theorem Dict.lt (h : Dict P k enc w b n f) : b < w.heap.size := by obtain ⟨D, h, _⟩ := h; exact h.lt

theorem Dict.touch {S : Nat → Prop} (h : Dict P k enc w b n f) (ht : Touch S w w') (hn : ¬ S b) : Dict P k enc w' b n f := by
  obtain ⟨D, h, hf⟩ := h
  have hlt := h.lt
  obtain ⟨es, clock, hb, F, hs, hD⟩ := h
  exact ⟨D, ⟨es, clock, (ht.blocks b hlt hn).trans hb, F, hs, hD⟩, hf⟩
theorem Dict.kept (h : Dict P k enc w b n f) (hk : Kept w w') : Dict P k enc w' b n f := h.touch (Touch.of_kept (S := fun _ => False) hk) id
theorem Dict.drewN (h : Dict P k enc w b n f) (m : Nat) : Dict P k enc (w.drewN m) b n f := h.kept (kept_drewN (Below.refl _ _) m)
theorem Dict.drew (h : Dict P k enc w b n f) : Dict P k enc w.drew b n f := h.kept (Below.refl _ _).drew
theorem Dict.blk {g : Nat} {t : TypeId} {cs : Array Value} (h : Dict P k enc w b n f) (hb : Blk w g t cs) : b ≠ g := by
  rintro rfl
  obtain ⟨D, ⟨es, clock, h, _⟩, _⟩ := h
  unfold Blk at hb
  rw [h] at hb
  cases hb
theorem Dict.own {base : Nat} {e : TypeId} {sz m : Nat} {v : Value} {xs : List Value} (h : Dict P k enc w b n f) (ho : w.ownsRow base e sz v m xs) : ∀ g, v.ownBlock = some g → g ≠ b := by
  rintro g hg rfl
  rcases ho.2 with ⟨rfl, _⟩ | ⟨g', cap, cur, rfl, _, hh, _⟩
  · cases hg
  · obtain rfl : g' = g := by simpa [Value.ownBlock] using hg
    exact h.blk (g := g') (t := e) (cs := cur) hh rfl

/-- 'm[k]'. -/
theorem Dict.look {t e : TypeId} (h : Dict P k enc w b n f) (K : Keyed P k) (ht : P.underlying t = some (.map k e)) {z : Value} (hz : (zeroValue e).run P w = .ok z w) {a : α} {l : Lit} (hkey : keyOf P k (enc a) = some l) :
    (Instr.lookup t (.map (some b)) (enc a) false).run P w = .ok ((f a).getD z) w := by
  obtain ⟨D, h, hf⟩ := h
  obtain ⟨v, ps, hrun, hv⟩ := h.lookup K ht hz (R := heldR) (zd := .held z) (zp := []) rfl hkey
  rw [(hf a l hkey).2 z] at hv
  simp only [heldR, Option.some.injEq, Prod.mk.injEq, DataW.held.injEq] at hv
  rw [hrun, hv.1]
/-- 'v, ok := m[k]'. -/
theorem Dict.lookOk {t e : TypeId} (h : Dict P k enc w b n f) (K : Keyed P k) (ht : P.underlying t = some (.map k e)) {z : Value} (hz : (zeroValue e).run P w = .ok z w) {a : α} {l : Lit} (hkey : keyOf P k (enc a) = some l) :
    (Instr.lookup t (.map (some b)) (enc a) true).run P w = .ok (.tuple #[(f a).getD z, .bool (f a).isSome]) w := by
  obtain ⟨D, h, hf⟩ := h
  obtain ⟨v, ps, hrun, hv⟩ := h.look_ok K ht hz (R := heldR) (zd := .held z) (zp := []) rfl hkey
  rw [(hf a l hkey).2 z] at hv
  simp only [heldR, Option.some.injEq, Prod.mk.injEq, DataW.held.injEq] at hv
  rw [hrun, hv.1, (hf a l hkey).1]
/-- 'm[k] = v'. -/
theorem Dict.store [DecidableEq α] {t e : TypeId} (h : Dict P k enc w b n f) (K : Keyed P k) (ht : P.underlying t = some (.map k e)) (hn : n < maxLen) {a : α} {l : Lit} (hkey : keyOf P k (enc a) = some l) (hinj : ∀ a', enc a' = enc a → a' = a) (v : Value) :
    ∃ w', (Instr.mapUpdate t (.map (some b)) (enc a) v).run P w = .ok () w' ∧ Dict P k enc w' b (n + 1) (fun x => if x = a then some v else f x) ∧ w.grownBy w' (some b) := by
  obtain ⟨D, h, hf⟩ := h
  obtain ⟨w', hrun, ho, hg⟩ := h.update K ht hn hkey (R := heldR) (val := v) (d := .held v) (ps := []) rfl
  have hI : Maps.IsMap D := (h.tidy K).isMap
  refine ⟨w', hrun, ⟨_, ho, fun x lx hx => ?_⟩, hg⟩
  by_cases hxa : x = a
  · subst hxa
    rw [hkey] at hx
    obtain rfl : l = lx := by simpa using hx
    simp only [if_true]
    exact ⟨by rw [Maps.has_put_same hI (K.key hkey)]; rfl, fun z => by rw [Maps.atKey_put_same hI (K.key hkey)]; rfl⟩
  · have hne : lx ≠ l := fun e => hxa (hinj x (K.inj hx (e ▸ hkey)))
    simp only [if_neg hxa]
    exact ⟨by rw [Maps.has_put_other hne]; exact (hf x lx hx).1, fun z => by rw [Maps.atKey_put_other hne]; exact (hf x lx hx).2 z⟩

theorem Dict.congr {g : α → Option Value} (h : Dict P k enc w b n f) (hg : ∀ a, (keyOf P k (enc a)).isSome = true → f a = g a) : Dict P k enc w b n g := by
  obtain ⟨D, h, hf⟩ := h
  refine ⟨D, h, fun a l hl => ?_⟩
  rw [← hg a (by rw [hl]; rfl)]
  exact hf a l hl
theorem Dict.mono {n' : Nat} (h : Dict P k enc w b n f) (hn : n ≤ n') : Dict P k enc w b n' f := by
  obtain ⟨D, h, hf⟩ := h
  exact ⟨D, h.mono hn, hf⟩
end

section
variable {α : Type} {P : Program} (w : World) {ops : Array Oper} {rest : List Oper} {o : Oper} {a : Act} {Q : Exit → Act → World → Prop}
theorem wpl_look (hg : o.guard = none) (m x : Operand) (t : TypeId) (hop : o.op = Op.lookup t m x false) {k e : TypeId} {enc : α → Value} {b n : Nat} {f : α → Option Value} (h : Dict P k enc w b n f) (K : Keyed P k) (ht : P.underlying t = some (.map k e))
    {z : Value} (hz : (zeroValue e).run P w = .ok z w) (hm : a.eval m = .map (some b)) (y : α) (hx : a.eval x = enc y) {l : Lit} (hkey : keyOf P k (enc y) = some l) (r : Value) (hr : (f y).getD z = r)
    (hK : wpList P ops Q rest (a.put o.dst r) w) : wpList P ops Q (o :: rest) a w := by
  refine wpList_plain hg fun K' hK' => ?_
  have hrun := h.look K ht hz hkey
  rw [hr] at hrun
  unfold Oper.wp
  simp [execOp, hop, hm, hx, hrun, Result.andThen]
  exact hK' _ _ hK
theorem wpl_lookOk (hg : o.guard = none) (m x : Operand) (t : TypeId) (hop : o.op = Op.lookup t m x true) {k e : TypeId} {enc : α → Value} {b n : Nat} {f : α → Option Value} (h : Dict P k enc w b n f) (K : Keyed P k) (ht : P.underlying t = some (.map k e))
    {z : Value} (hz : (zeroValue e).run P w = .ok z w) (hm : a.eval m = .map (some b)) (y : α) (hx : a.eval x = enc y) {l : Lit} (hkey : keyOf P k (enc y) = some l) (r : Value) (hr : (f y).getD z = r) (q : Bool) (hq : (f y).isSome = q)
    (hK : wpList P ops Q rest (a.put o.dst (.tuple #[r, .bool q])) w) : wpList P ops Q (o :: rest) a w := by
  refine wpList_plain hg fun K' hK' => ?_
  have hrun := h.lookOk K ht hz hkey
  rw [hr, hq] at hrun
  unfold Oper.wp
  simp [execOp, hop, hm, hx, hrun, Result.andThen]
  exact hK' _ _ hK
theorem wpl_mapset [DecidableEq α] (hg : o.guard = none) (m x v : Operand) (t : TypeId) (hop : o.op = Op.mapUpdate t m x v) {k e : TypeId} {enc : α → Value} {b n : Nat} {f : α → Option Value} (h : Dict P k enc w b n f) (K : Keyed P k) (ht : P.underlying t = some (.map k e))
    (hn : n < maxLen) (hm : a.eval m = .map (some b)) (y : α) (hx : a.eval x = enc y) (u : Value) (hv : a.eval v = u) {l : Lit} (hkey : keyOf P k (enc y) = some l) (hinj : ∀ a', enc a' = enc y → a' = y)
    (hK : ∀ w', Dict P k enc w' b (n + 1) (fun x => if x = y then some u else f x) → w.grownBy w' (some b) → wpList P ops Q rest (a.put o.dst undef) w') : wpList P ops Q (o :: rest) a w := by
  refine wpList_plain hg fun K' hK' => ?_
  obtain ⟨w', hrun, r1, r2⟩ := h.store K ht hn hkey hinj u
  unfold Oper.wp
  simp [execOp, hop, hm, hx, hv, hrun, Result.andThen]
  exact hK' _ _ (hK w' r1 r2)
end
end Go.Proofs.Ytcklmhbcjgiplaa
