/-
  Several texts in one: XVal XTy XKin1 XKin2 XBig XSame.
-/
import Derived.Test.YtcklmhbcjgiplaaProg
import Derived.Test.YtcklmhbcjgiplaaTouch
import Derived.Deep.AppendLies
import Derived.Deep.RegionLaw
import Derived.BigRegion
import Derived.Test.YtcklmhbcjgiplaaDict
import Derived.Test.YtcklmhbcjgiplaaKin0
import Derived.Deep.LoopGhost
import Derived.Deep.CutBlock
import Derived.Test.YtcklmhbcjgiplaaOpenType
namespace Go.Proofs.Ytcklmhbcjgiplaa
set_option linter.unusedVariables false
set_option linter.unusedSimpArgs false
open Go.RowKit
set_option maxRecDepth 100000

/-- A value as data. -/
structure ValV where
  ref : Bool
  n : Int
def encVal (x : ValV) : List Value := [.bool x.ref, .int .i64 x.n]
theorem encVal_len (x : ValV) : (encVal x).length = 2 := rfl
theorem encVal_one (x : ValV) : ∀ u ∈ encVal x, u.oneCell' = true := by intro u hu; simp [encVal] at hu; rcases hu with rfl | rfl <;> rfl
def zeroV : ValV := ⟨false, 0⟩
theorem vals_one (l : List ValV) : ∀ u ∈ l.flatMap encVal, u.oneCell' = true := by
  intro u hu
  obtain ⟨y, _, hy⟩ := List.mem_flatMap.1 hu
  exact encVal_one y u hy
theorem vals_set (l : List ValV) (y : ValV) (k : Nat) (hk : k < l.length) : ((l.flatMap encVal).set (k * 2) (.bool y.ref)).set (k * 2 + 1) (.int .i64 y.n) = (l.set k y).flatMap encVal := by
  rw [flat_set2 encVal encVal_len y _ _ rfl, if_pos hk]
theorem val_rd {w : World} {l : List ValV} {v : Value} {n : Nat} (hl : l.length = n) (hr : Rd w 2 v n (l.flatMap encVal)) {i : Nat} {m : ValV} (hm : l[i]? = some m) :
    ∃ b off c, v = .slice (some ⟨b, off, none⟩) n c ∧ c ≤ 9223372036854775807 ∧ w.cell? ⟨b, off + i * 2, none⟩ = some (.bool m.ref) ∧ w.cell? ⟨b, off + i * 2 + 1, none⟩ = some (.int .i64 m.n) := by
  have hl' := (List.getElem?_eq_some_iff.1 hm).1
  rcases hr.parts with ⟨h0, _⟩ | ⟨b, off, c, rfl, h0, h1, h2, hc⟩
  · omega
  · have hg : ∀ f u, (encVal m)[f]? = some u → f < 2 → w.cell? ⟨b, off + (i * 2 + f), none⟩ = some u := fun f u hu hf => hc _ _ (by rw [flat_get encVal 2 (fun _ => rfl) l i f m hm hf]; exact hu)
    exact ⟨b, off, c, rfl, h2, hg 0 _ rfl (by omega), hg 1 _ rfl (by omega)⟩

/-- A row of the call's own that is read and stored into; what lies behind its n elements is left open. -/
def Row (w : World) (base e sz : Nat) (v : Value) (n : Nat) (xs : List Value) : Prop :=
  xs.length = n * sz ∧ ((v = .slice none 0 0 ∧ n = 0) ∨ ∃ g cap cur, v = .slice (some ⟨g, 0, none⟩) n cap ∧ base ≤ g ∧ w.heap[g]? = some (.cells cur e (0, 0)) ∧ n ≤ cap ∧ cap ≤ 9223372036854775807 ∧ cur.toList.take (n * sz) = xs)

section
variable {w w' : World} {base e sz n : Nat} {v : Value} {xs : List Value}
theorem Row.of_own (h : w.ownsRow base e sz v n xs) : Row w base e sz v n xs := by
  obtain ⟨hl, h⟩ := h
  rcases h with h | ⟨g, cap, cur, hv, hg, hh, hn, hc, _, ht⟩
  · exact ⟨hl, .inl h⟩
  · exact ⟨hl, .inr ⟨g, cap, cur, hv, hg, hh, hn, by simpa [maxLen] using hc, ht⟩⟩
theorem Row.nil (w : World) (base e sz : Nat) : Row w base e sz (.slice none 0 0) 0 [] := ⟨by simp, .inl ⟨rfl, rfl⟩⟩
theorem Row.form (h : Row w base e sz v n xs) : ∃ a c, v = .slice a n c ∧ n ≤ c ∧ c ≤ 9223372036854775807 := by
  rcases h.2 with ⟨rfl, rfl⟩ | ⟨g, cap, cur, rfl, _, _, hn, hc, _⟩
  · exact ⟨none, 0, rfl, Nat.le_refl _, by omega⟩
  · exact ⟨_, cap, rfl, hn, hc⟩
theorem Row.lt (h : Row w base e sz v n xs) : ∀ k, v.ownBlock = some k → base ≤ k ∧ k < w.heap.size := by
  intro k hk
  rcases h.2 with ⟨rfl, _⟩ | ⟨g, cap, cur, rfl, hg, hh, _⟩
  · cases hk
  · have : g = k := by simpa [Value.ownBlock] using hk
    subst this
    exact ⟨hg, (Array.getElem?_eq_some_iff.1 hh).1⟩
theorem Row.touch {S : Nat → Prop} (h : Row w base e sz v n xs) (ht : Touch S w w') (hn : ∀ k, v.ownBlock = some k → ¬ S k) : Row w' base e sz v n xs := by
  refine ⟨h.1, ?_⟩
  rcases h.2 with h0 | ⟨g, cap, cur, rfl, hg, hh, r⟩
  · exact .inl h0
  · exact .inr ⟨g, cap, cur, rfl, hg, ht.block hh (hn g rfl), r⟩
theorem Row.kept (h : Row w base e sz v n xs) (hk : Kept w w') : Row w' base e sz v n xs := h.touch (S := fun _ => False) (Touch.of_kept hk) (fun _ _ => id)
/-- The capacity cut to the length. -/
theorem Row.clip {a : Option Addr} {c : Nat} (h : Row w base e sz (.slice a n c) n xs) : Row w base e sz (.slice a n n) n xs := by
  refine ⟨h.1, ?_⟩
  rcases h.2 with ⟨h0, rfl⟩ | ⟨g, cap, cur, hv, hg, hh, hn, hc, ht⟩
  · simp only [Value.slice.injEq] at h0
    obtain ⟨rfl, -, -⟩ := h0
    exact .inl ⟨rfl, rfl⟩
  · simp only [Value.slice.injEq] at hv
    obtain ⟨rfl, -, rfl⟩ := hv
    exact .inr ⟨g, n, cur, rfl, hg, hh, Nat.le_refl _, Nat.le_trans hn hc, ht⟩
theorem Row.cells {g c : Nat} (h : Row w base e sz (.slice (some ⟨g, 0, none⟩) n c) n xs) : (∀ j u, xs[j]? = some u → w.cell? ⟨g, j, none⟩ = some u) ∧ (∀ j, w.frozen? ⟨g, j, none⟩ = false) ∧ base ≤ g ∧ g < w.heap.size := by
  rcases h.2 with ⟨h0, _⟩ | ⟨g', cap, cur, hv, hg, hh, hn, hc, ht⟩
  · cases h0
  · simp only [Value.slice.injEq, Option.some.injEq, Addr.mk.injEq] at hv
    obtain ⟨⟨rfl, -, -⟩, -, rfl⟩ := hv
    refine ⟨fun j u hu => ?_, fun j => by simp [World.frozen?, hh], hg, (Array.getElem?_eq_some_iff.1 hh).1⟩
    rw [cell_of_row w g j cur e (0, 0) hh, ← hu, ← ht, List.getElem?_take]
    have := (List.getElem?_eq_some_iff.1 hu).1
    rw [h.1] at this
    rw [if_pos this, Array.getElem?_toList]
theorem Row.addr (h : Row w base e sz v n xs) (hn : 0 < n) : ∃ g c, v = .slice (some ⟨g, 0, none⟩) n c ∧ n ≤ c ∧ c ≤ 9223372036854775807 := by
  rcases h.2 with ⟨_, h0⟩ | ⟨g, cap, cur, rfl, _, _, hnc, hc, _⟩
  · omega
  · exact ⟨g, cap, rfl, hnc, hc⟩
theorem Row.store {g c : Nat} (h : Row w base e sz (.slice (some ⟨g, 0, none⟩) n c) n xs) (j : Nat) (u : Value) : Row (w.setCell ⟨g, j, none⟩ u) base e sz (.slice (some ⟨g, 0, none⟩) n c) n (xs.set j u) := by
  refine ⟨by rw [List.length_set]; exact h.1, ?_⟩
  rcases h.2 with ⟨h0, _⟩ | ⟨g', cap, cur, hv, hg, hh, hn, hc, ht⟩
  · cases h0
  · simp only [Value.slice.injEq, Option.some.injEq, Addr.mk.injEq] at hv
    obtain ⟨⟨rfl, -, -⟩, -, rfl⟩ := hv
    refine .inr ⟨g, c, cur.setIfInBounds j u, rfl, hg, ?_, hn, hc, ?_⟩
    · simp [World.setCell, Array.getElem?_modify, hh]
    · rw [Array.toList_setIfInBounds, List.take_set, ht]
theorem Row.rd (h : Row w base e sz v n xs) : Rd w sz v n xs := by
  refine ⟨h.1, ?_⟩
  rcases h.2 with ⟨rfl, rfl⟩ | ⟨g, cap, cur, rfl, hg, hh, hn, hc, ht⟩
  · exact ⟨none, 0, rfl, Nat.le_refl _, by omega, fun h => absurd h (by omega)⟩
  · exact ⟨_, cap, rfl, hn, hc, fun _ => ⟨g, 0, rfl, fun j u hu => by rw [Nat.zero_add]; exact (Row.cells ⟨h.1, .inr ⟨g, cap, cur, rfl, hg, hh, hn, hc, ht⟩⟩).1 j u hu⟩⟩
end
end Go.Proofs.Ytcklmhbcjgiplaa

namespace Go.Proofs.Ytcklmhbcjgiplaa
set_option linter.unusedVariables false
set_option linter.unusedSimpArgs false
open Go.RowKit

/-- The type of a block of cells. -/
def TyAt (w : World) (k : Nat) (e : TypeId) : Prop := ∃ cur, w.heap[k]? = some (.cells cur e (0, 0))
theorem TyAt.uniq {w : World} {k : Nat} {e e' : TypeId} (h : TyAt w k e) (h' : TyAt w k e') : e = e' := by
  obtain ⟨c, h⟩ := h
  obtain ⟨c', h'⟩ := h'
  rw [h] at h'
  injection h' with h'
  injection h'
theorem Blk.ty {w : World} {g : Nat} {t : TypeId} {cs : Array Value} (h : Blk w g t cs) : TyAt w g t := ⟨cs, h⟩
theorem own_ty {w : World} {B : Nat} {e : TypeId} {sz n : Nat} {v : Value} {xs : List Value} (h : w.ownsRow B e sz v n xs) : ∀ k, v.ownBlock = some k → TyAt w k e := by
  intro k hk
  rcases h.2 with ⟨rfl, _⟩ | ⟨g, cap, cur, rfl, _, hh, _⟩
  · cases hk
  · obtain rfl : g = k := by simpa [Value.ownBlock] using hk
    exact ⟨cur, hh⟩
theorem Row.ty {w : World} {B : Nat} {e : TypeId} {sz n : Nat} {v : Value} {xs : List Value} (h : Row w B e sz v n xs) : ∀ k, v.ownBlock = some k → TyAt w k e := by
  intro k hk
  rcases h.2 with ⟨rfl, _⟩ | ⟨g, cap, cur, rfl, _, hh, _⟩
  · cases hk
  · obtain rfl : g = k := by simpa [Value.ownBlock] using hk
    exact ⟨cur, hh⟩
theorem TyAt.ne {w : World} {k k' : Nat} {e e' : TypeId} (h : TyAt w k e) (h' : TyAt w k' e') (hn : e ≠ e') : k ≠ k' := by
  rintro rfl
  exact hn (h.uniq h')
theorem Row.base {w : World} {B B' : Nat} {e : TypeId} {sz n : Nat} {v : Value} {xs : List Value} (h : Row w B' e sz v n xs) (hB : B ≤ B') : Row w B e sz v n xs := by
  refine ⟨h.1, ?_⟩
  rcases h.2 with h0 | ⟨g, cap, cur, hv, hg, r⟩
  · exact .inl h0
  · exact .inr ⟨g, cap, cur, hv, Nat.le_trans hB hg, r⟩
theorem Dict.ty {α : Type} {P : Program} {k : TypeId} {enc : α → Value} {w : World} {b n : Nat} {f : α → Option Value} {g : Nat} {e : TypeId} (h : Dict P k enc w b n f) (hg : TyAt w g e) : g ≠ b := by
  obtain ⟨cur, hg⟩ := hg
  exact fun e' => h.blk (g := g) (t := e) (cs := cur) hg e'.symm
end Go.Proofs.Ytcklmhbcjgiplaa

namespace Go.Proofs.Ytcklmhbcjgiplaa
set_option linter.unusedVariables false
set_option linter.unusedSimpArgs false
open Go.RowKit
set_option maxRecDepth 100000

def encS (s : ByteArray) : List Value := [.string s]
/-- The slice v reads as the types D. -/
def TyR (w : World) (v : Value) (D : List TD) : Prop := ∃ L : List TypeV, L.map TypeV.d = D ∧ Rd w 6 v L.length (L.flatMap encTypeV) ∧ (∀ y ∈ L, TypeV.Ok w y) ∧ L.length ≤ 100

theorem Ok.keep_ {w w' : World} {y : TypeV} (h : y.Ok w) (hk : Kept w w') : y.Ok w' :=
  ⟨h.name_, h.super_, h.access_, h.interfaces_.kept hk, h.interfaces_all, h.interfaces_len, h.fields_.kept hk, fun z hz => ⟨(h.fields_all z hz).access_, (h.fields_all z hz).name_, (h.fields_all z hz).desc_, (h.fields_all z hz).value_⟩, h.fields_len,
   h.methods_.kept hk, fun z hz => ⟨(h.methods_all z hz).access_, (h.methods_all z hz).name_, (h.methods_all z hz).desc_, (h.methods_all z hz).value_⟩, h.methods_len⟩

section
variable {w w' : World} {v : Value} {D : List TD}
theorem TyR.kept (h : TyR w v D) (hk : Kept w w') : TyR w' v D := by
  obtain ⟨L, h1, h2, h3, h4⟩ := h
  exact ⟨L, h1, h2.kept hk, fun y hy => Ok.keep_ (h3 y hy) hk, h4⟩
theorem TyR.len (h : TyR w v D) : D.length ≤ 100 := by
  obtain ⟨L, rfl, _, _, h4⟩ := h
  simpa using h4
theorem TyR.slice (h : TyR w v D) : ∃ a c, v = .slice a D.length c ∧ D.length ≤ c ∧ c ≤ 9223372036854775807 := by
  obtain ⟨L, rfl, h2, _, _⟩ := h
  obtain ⟨_, a, c, rfl, h1, h2, _⟩ := h2
  exact ⟨a, c, by simp, by simpa using h1, h2⟩
/-- The cells of a type. -/
theorem TyR.cells (h : TyR w v D) {k : Nat} {t : TD} (ht : D[k]? = some t) :
    ∃ b off c iv fv mv, v = .slice (some ⟨b, off, none⟩) D.length c ∧ w.cell? ⟨b, off + k * 6, none⟩ = some (.string t.name) ∧ w.cell? ⟨b, off + k * 6 + 1, none⟩ = some (.string t.super) ∧ w.cell? ⟨b, off + k * 6 + 2, none⟩ = some (.int .i64 t.access) ∧
      w.cell? ⟨b, off + k * 6 + 3, none⟩ = some iv ∧ w.cell? ⟨b, off + k * 6 + 4, none⟩ = some fv ∧ w.cell? ⟨b, off + k * 6 + 5, none⟩ = some mv ∧
      Rd w 1 iv t.interfaces.length (t.interfaces.flatMap encS) ∧ t.interfaces.length ≤ 140737488351232 ∧ Rd w 5 fv t.fields.length (t.fields.flatMap encMemberV) ∧ t.fields.length ≤ 140737488351232 ∧ Rd w 5 mv t.methods.length (t.methods.flatMap encMemberV) ∧ t.methods.length ≤ 140737488351232 ∧
      t.name.size ≤ maxLen ∧ t.super.size ≤ maxLen ∧ (∀ s ∈ t.interfaces, s.size ≤ maxLen) ∧ (∀ z ∈ t.fields, MemberV.Ok w z) ∧ (∀ z ∈ t.methods, MemberV.Ok w z) ∧ -9223372036854775808 ≤ t.access ∧ t.access ≤ 9223372036854775807 := by
  obtain ⟨L, rfl, h2, h3, h4⟩ := h
  rw [List.getElem?_map, Option.map_eq_some_iff] at ht
  obtain ⟨y, hy, rfl⟩ := ht
  have ok := h3 y (List.mem_of_getElem? hy)
  have hk := (List.getElem?_eq_some_iff.1 hy).1
  rcases h2.parts with ⟨h0, _⟩ | ⟨b, off, c, rfl, h0, _, _, hc⟩
  · omega
  · have g : ∀ f u, (encTypeV y)[f]? = some u → f < 6 → w.cell? ⟨b, off + k * 6 + f, none⟩ = some u := fun f u hu hf => by
      rw [Nat.add_assoc]
      exact hc _ _ (by rw [flat_get encTypeV 6 (fun _ => rfl) L k f y hy hf]; exact hu)
    exact ⟨b, off, c, y.interfacesV, y.fieldsV, y.methodsV, by simp, g 0 _ rfl (by omega), g 1 _ rfl (by omega), g 2 _ rfl (by omega), g 3 _ rfl (by omega), g 4 _ rfl (by omega), g 5 _ rfl (by omega),
      ok.interfaces_, ok.interfaces_len, ok.fields_, ok.fields_len, ok.methods_, ok.methods_len, ok.name_, ok.super_, ok.interfaces_all, ok.fields_all, ok.methods_all, ok.access_.1, ok.access_.2⟩
/-- The cell of a text in a row of texts. -/
theorem str_cell {l : List ByteArray} {v : Value} {n : Nat} (hn : n = l.length) (h : Rd w 1 v n (l.flatMap encS)) {k : Nat} {s : ByteArray} (hs : l[k]? = some s) :
    ∃ b off c, v = .slice (some ⟨b, off, none⟩) n c ∧ w.cell? ⟨b, off + k, none⟩ = some (.string s) := by
  have hk := (List.getElem?_eq_some_iff.1 hs).1
  rcases h.parts with ⟨h0, _⟩ | ⟨b, off, c, rfl, h0, h1, h2, hc⟩
  · omega
  · have := hc (k * 1 + 0) (.string s) (by rw [flat_get encS 1 (fun _ => rfl) l k 0 s hs (by omega)]; rfl)
    exact ⟨b, off, c, rfl, by simpa using this⟩
end

theorem TyR.size_of {w : World} {v : Value} {D : List TD} (h : TyR w v D) {x : ByteArray} (hx : there D x) : x.size ≤ maxLen := by
  unfold there at hx
  obtain ⟨k, hk⟩ := Option.isSome_iff_exists.1 hx
  obtain ⟨t, ht, rfl, _⟩ := atO_some hk
  obtain ⟨_, _, _, _, _, _, _, _, _, _, _, _, _, _, _, _, _, _, _, hn, _⟩ := h.cells ht
  exact hn

theorem str_ne_ {a b : ByteArray} (h : a ≠ b) : (a.toList == b.toList) = false := by
  rw [beq_eq_false_iff_ne]
  intro e
  rw [ByteArray.toList_eq, ByteArray.toList_eq] at e
  exact h (ByteArray.ext (Array.toList_inj.1 e))

end Go.Proofs.Ytcklmhbcjgiplaa

namespace Go.Proofs.Ytcklmhbcjgiplaa
set_option linter.unusedVariables false
set_option linter.unusedSimpArgs false
open Go.RowKit
open Go.Maps Go.WideMaps
set_option maxRecDepth 100000

theorem lawS : Keyed Try.prog 9 := string_keyed Try.underlying9
theorem zeroI (w : World) : (zeroValue 3).run Try.prog w = .ok (.int .i64 0) w := by kernel_rfl
theorem keyS {s : ByteArray} (h : s.size ≤ maxLen) : ∃ l, keyOf Try.prog 9 (.string s) = some l := ⟨_, keyOf_string_mk (P := Try.prog) (k := 9) Try.underlying9 h⟩
theorem elem_str : ElemTy Try.prog 33 9 (.string ⟨#[]⟩) 1 16 := ⟨Try.underlying33, by kernel_rfl, rfl, by decide⟩
theorem str_inj (a b : ByteArray) (h : Value.string a = Value.string b) : a = b := by simpa using h

/-- Block b is a map that has each text of which p holds, at 1. -/
def SetM (w : World) (b n : Nat) (p : ByteArray → Bool) : Prop := Dict Try.prog 9 Value.string w b n (fun s => if p s then some (.int .i64 1) else none)

theorem SetM.yes {w : World} {b n : Nat} {p : ByteArray → Bool} (h : SetM w b n p) {s : ByteArray} (hs : s.size ≤ maxLen) (hp : p s = true) : (Instr.lookup 95 (.map (some b)) (.string s) false).run Try.prog w = .ok (.int .i64 1) w := by
  obtain ⟨l, hl⟩ := keyS hs
  have := Dict.look h lawS Try.underlying95 (zeroI _) (a := s) hl
  simpa [hp] using this
theorem SetM.no {w : World} {b n : Nat} {p : ByteArray → Bool} (h : SetM w b n p) {s : ByteArray} (hs : s.size ≤ maxLen) (hp : p s = false) : (Instr.lookup 95 (.map (some b)) (.string s) false).run Try.prog w = .ok (.int .i64 0) w := by
  obtain ⟨l, hl⟩ := keyS hs
  have := Dict.look h lawS Try.underlying95 (zeroI _) (a := s) hl
  simpa [hp] using this
theorem SetM.congr {w : World} {b n : Nat} {p q : ByteArray → Bool} (h : SetM w b n p) (hq : ∀ s, p s = q s) : SetM w b n q := Dict.congr h fun a _ => by rw [hq a]
theorem SetM.touch {S : Nat → Prop} {w w' : World} {b n : Nat} {p : ByteArray → Bool} (h : SetM w b n p) (ht : Touch S w w') (hn : ¬ S b) : SetM w' b n p := Dict.touch h ht hn
theorem SetM.kept {w w' : World} {b n : Nat} {p : ByteArray → Bool} (h : SetM w b n p) (hk : Kept w w') : SetM w' b n p := Dict.kept h hk
theorem SetM.put {w : World} {b n : Nat} {p : ByteArray → Bool} {s : ByteArray} (h : Dict Try.prog 9 Value.string w b n (fun x => if x = s then some (.int .i64 1) else if p x then some (.int .i64 1) else none)) : SetM w b n (fun x => decide (x = s) || p x) :=
  Dict.congr h fun a _ => by by_cases e : a = s <;> simp [e]

theorem one_S (s : ByteArray) : ∀ u ∈ [Value.string s], u.oneCell' = true := by intro u hu; simp at hu; rw [hu]; rfl
theorem strs_len (l : List ByteArray) : (l.flatMap encS).length = l.length * 1 := flat_length encS 1 (fun _ => rfl) l

/-- A result that is a row of texts of its own, clipped. -/
def RowS (B : Nat) (l : List ByteArray) (w : World) (v : Value) : Prop := Row w B 9 1 v l.length (l.flatMap encS)

end Go.Proofs.Ytcklmhbcjgiplaa

namespace Go.Proofs.Ytcklmhbcjgiplaa
set_option linter.unusedVariables false
set_option linter.unusedSimpArgs false
open Go.RowKit
set_option maxRecDepth 100000

/-- How many there are in a type. -/
def TypeV.count (y : TypeV) : Nat := y.interfaces.length + y.fields.length + y.methods.length

theorem type_cells {w : World} {l : List TypeV} {v : Value} (hr : Rd w 6 v l.length (l.flatMap encTypeV)) {i : Nat} {m : TypeV} (hm : l[i]? = some m) :
    ∃ b off c, v = .slice (some ⟨b, off, none⟩) l.length c ∧ c ≤ 9223372036854775807 ∧ w.cell? ⟨b, off + i * 6, none⟩ = some (.string m.name) ∧ w.cell? ⟨b, off + i * 6 + 1, none⟩ = some (.string m.super) ∧ w.cell? ⟨b, off + i * 6 + 2, none⟩ = some (.int .i64 m.access) ∧ w.cell? ⟨b, off + i * 6 + 3, none⟩ = some m.interfacesV ∧ w.cell? ⟨b, off + i * 6 + 4, none⟩ = some m.fieldsV ∧ w.cell? ⟨b, off + i * 6 + 5, none⟩ = some m.methodsV := by
  have hl := (List.getElem?_eq_some_iff.1 hm).1
  rcases hr.parts with ⟨h0, _⟩ | ⟨b, off, c, rfl, h0, h1, h2, hc⟩
  · omega
  · have hg : ∀ f u, (encTypeV m)[f]? = some u → f < 6 → w.cell? ⟨b, off + (i * 6 + f), none⟩ = some u := fun f u hu hf => hc _ _ (by rw [flat_get encTypeV 6 (fun _ => rfl) l i f m hm hf]; exact hu)
    exact ⟨b, off, c, rfl, h2, hg 0 _ rfl (by omega), hg 1 _ rfl (by omega), hg 2 _ rfl (by omega), hg 3 _ rfl (by omega), hg 4 _ rfl (by omega), hg 5 _ rfl (by omega)⟩

end Go.Proofs.Ytcklmhbcjgiplaa

namespace Go.Proofs.Ytcklmhbcjgiplaa
set_option linter.unusedVariables false
set_option linter.unusedSimpArgs false
open Go.RowKit
set_option maxRecDepth 100000

theorem mem_row_ {w : World} {l : List MemberV} {v : Value} {n : Nat} (hn : n = l.length) (hr : Rd w 5 v n (l.flatMap encMemberV)) {i : Nat} {m : MemberV} (hm : l[i]? = some m) :
    ∃ b off c, v = .slice (some ⟨b, off, none⟩) n c ∧ w.cell? ⟨b, off + i * 5, none⟩ = some (.int .i64 m.access) ∧ w.cell? ⟨b, off + i * 5 + 1, none⟩ = some (.string m.name) ∧ w.cell? ⟨b, off + i * 5 + 2, none⟩ = some (.string m.desc) ∧ w.cell? ⟨b, off + i * 5 + 3, none⟩ = some (.bool m.has) ∧ w.cell? ⟨b, off + i * 5 + 4, none⟩ = some (.int .i64 m.value) := by
  have hl := (List.getElem?_eq_some_iff.1 hm).1
  rcases hr.parts with ⟨h0, _⟩ | ⟨b, off, c, rfl, h0, h1, h2, hc⟩
  · omega
  · have hg : ∀ f u, (encMemberV m)[f]? = some u → f < 5 → w.cell? ⟨b, off + (i * 5 + f), none⟩ = some u := fun f u hu hf => hc _ _ (by rw [flat_get encMemberV 5 (fun _ => rfl) l i f m hm hf]; exact hu)
    exact ⟨b, off, c, rfl, hg 0 _ rfl (by omega), hg 1 _ rfl (by omega), hg 2 _ rfl (by omega), hg 3 _ rfl (by omega), hg 4 _ rfl (by omega)⟩

set_option maxHeartbeats 4000000 in
theorem same_type (w : World) (a b : TypeV) (hd : a.d = b.d) (ha : a.Ok w) (hb : b.Ok w) (hs : b.count ≤ 3000) :
    Calls Try.prog 22 #[.agg (encTypeV a).toArray, .agg (encTypeV b).toArray] w fun e w' => e = .returned (.bool true) ∧ Kept w w' := by
  obtain ⟨nm, sp, ac, iv, is, fv, fs, mv, ms⟩ := a
  obtain ⟨nm', sp', ac', iv', is', fv', fs', mv', ms'⟩ := b
  simp only [TypeV.d, TD.mk.injEq] at hd
  obtain ⟨rfl, rfl, rfl, rfl, rfl, rfl⟩ := hd
  simp only [TypeV.count] at hs
  have i1 := ha.interfaces_
  have i2 := hb.interfaces_
  have f1 := ha.fields_
  have f2 := hb.fields_
  have m1 := ha.methods_
  have m2 := hb.methods_
  dsimp only at i1 i2 f1 f2 m1 m2
  obtain ⟨ni, hni⟩ : ∃ n, n = is.length := ⟨_, rfl⟩
  obtain ⟨nf, hnf⟩ : ∃ n, n = fs.length := ⟨_, rfl⟩
  obtain ⟨nn, hnn⟩ : ∃ n, n = ms.length := ⟨_, rfl⟩
  rw [← hni] at i1 i2 hs
  rw [← hnf] at f1 f2 hs
  rw [← hnn] at m1 m2 hs
  have I1 := Lib.hid i1
  have I2 := Lib.hid i2
  have F1 := Lib.hid f1
  have F2 := Lib.hid f2
  have M1 := Lib.hid m1
  have M2 := Lib.hid m2
  have NI := Lib.hid hni
  have NF := Lib.hid hnf
  have NM := Lib.hid hnn
  obtain ⟨_, ai, ci, rfl, _, _, _⟩ := i1
  obtain ⟨_, ai', ci', rfl, _, _, _⟩ := i2
  obtain ⟨_, af, cf, rfl, _, _, _⟩ := f1
  obtain ⟨_, af', cf', rfl, _, _, _⟩ := f2
  obtain ⟨_, am, cm, rfl, _, _, _⟩ := m1
  obtain ⟨_, am', cm', rfl, _, _, _⟩ := m2
  clear hni hnf hnn ha hb
  have hk : Kept w ((w.alloc (.cells #[.string nm, .string sp, .int .i64 ac, .slice ai ni ci, .slice af nf cf, .slice am nn cm] 36)).alloc (.cells #[.string nm, .string sp, .int .i64 ac, .slice ai' ni ci', .slice af' nf cf', .slice am' nn cm'] 36)) := ((Below.refl _ _).alloc (Nat.le_refl _) _).alloc (by simp) _
  have hb1 : Blk ((w.alloc (.cells #[.string nm, .string sp, .int .i64 ac, .slice ai ni ci, .slice af nf cf, .slice am nn cm] 36)).alloc (.cells #[.string nm, .string sp, .int .i64 ac, .slice ai' ni ci', .slice af' nf cf', .slice am' nn cm'] 36)) w.heap.size 36 #[.string nm, .string sp, .int .i64 ac, .slice ai ni ci, .slice af nf cf, .slice am nn cm] := (Blk.new _ _ _).alloc _
  have hb2 : Blk ((w.alloc (.cells #[.string nm, .string sp, .int .i64 ac, .slice ai ni ci, .slice af nf cf, .slice am nn cm] 36)).alloc (.cells #[.string nm, .string sp, .int .i64 ac, .slice ai' ni ci', .slice af' nf cf', .slice am' nn cm'] 36)) (w.heap.size + 1) 36 #[.string nm, .string sp, .int .i64 ac, .slice ai' ni ci', .slice af' nf cf', .slice am' nn cm'] := (show w.heap.size + 1 = (w.alloc (.cells #[.string nm, .string sp, .int .i64 ac, .slice ai ni ci, .slice af nf cf, .slice am nn cm] 36)).heap.size by simp) ▸ Blk.new _ _ _
  have HK := Lib.hid hk
  have HB1 := Lib.hid hb1
  have HB2 := Lib.hid hb2
  clear hk hb1 hb2
  change Calls Try.prog 22 #[.agg #[.string nm, .string sp, .int .i64 ac, .slice ai ni ci, .slice af nf cf, .slice am nn cm], .agg #[.string nm, .string sp, .int .i64 ac, .slice ai' ni ci', .slice af' nf cf', .slice am' nn cm']] w _
  go_enter Try.func22, Try.ntmps22
  go_wp2_with fail
  generalize ((w.alloc (.cells #[.string nm, .string sp, .int .i64 ac, .slice ai ni ci, .slice af nf cf, .slice am nn cm] 36)).alloc (.cells #[.string nm, .string sp, .int .i64 ac, .slice ai' ni ci', .slice af' nf cf', .slice am' nn cm'] 36)) = W at *
  have x3 := HB1.out.cell 3
  have x4 := HB1.out.cell 4
  have x5 := HB1.out.cell 5
  have y3 := HB2.out.cell 3
  have y4 := HB2.out.cell 4
  have y5 := HB2.out.cell 5
  simp only [List.getElem?_toArray, List.getElem?_cons_succ, List.getElem?_cons_zero] at x3 x4 x5 y3 y4 y5
  go_loopw [5] (fun s5 wr => ∃ i : Nat, i ≤ ni ∧ s5 = .int .i64 i ∧ ∃ m, wr = W.drewN m) (fun s5 _ => ni - (intOf s5).toNat)
  case atStart => exact ⟨0, by omega, rfl, 0, rfl⟩
  case round =>
    obtain ⟨i, hi, rfl, mm, rfl⟩ := hrel
    by_cases hlt : i < ni
    · obtain ⟨x, hx⟩ : ∃ x, is[i]? = some x := ⟨_, List.getElem?_eq_getElem (by have := NI.out; omega)⟩
      obtain ⟨b1, o1, c1, hv1, z1⟩ := str_cell NI.out (I1.out.kept HK.out) hx
      obtain ⟨b2, o2, c2, hv2, z2⟩ := str_cell NI.out (I2.out.kept HK.out) hx
      simp only [Value.slice.injEq] at hv1 hv2
      obtain ⟨rfl, -, rfl⟩ := hv1
      obtain ⟨rfl, -, rfl⟩ := hv2
      have hkI : (i : Int) < (ni : Int) := by omega
      have h0I : (0 : Int) ≤ (i : Int) := by omega
      clear hx
      go_wp2_with fail
      go_quiet (fail)
      go_wp2_with fail
      go_roundw
      case rel => exact ⟨i + 1, by omega, by go_num, _, rfl⟩
      case measure => simp [intOf]; omega
    · go_wp2_with fail
      go_loopw [6] (fun s6 wr => ∃ i : Nat, i ≤ nf ∧ s6 = .int .i64 i ∧ ∃ m, wr = W.drewN m) (fun s6 _ => nf - (intOf s6).toNat)
      case atStart => exact ⟨0, by omega, rfl, _, rfl⟩
      case round =>
        obtain ⟨j, hj, rfl, mj, rfl⟩ := hrel
        by_cases hlt2 : j < nf
        · obtain ⟨x, hx⟩ : ∃ x, fs[j]? = some x := ⟨_, List.getElem?_eq_getElem (by have := NF.out; omega)⟩
          obtain ⟨b1, o1, c1, hv1, p0, p1, p2, p3, p4⟩ := mem_row_ NF.out (F1.out.kept HK.out) hx
          obtain ⟨b2, o2, c2, hv2, q0, q1, q2, q3, q4⟩ := mem_row_ NF.out (F2.out.kept HK.out) hx
          simp only [Value.slice.injEq] at hv1 hv2
          obtain ⟨rfl, -, rfl⟩ := hv1
          obtain ⟨rfl, -, rfl⟩ := hv2
          have hkI : (j : Int) < (nf : Int) := by omega
          have h0I : (0 : Int) ≤ (j : Int) := by omega
          clear hx
          go_wp2_with fail
          go_quiet (fail)
          go_wp2_with fail
          go_roundw
          case rel => exact ⟨j + 1, by omega, by go_num, _, rfl⟩
          case measure => simp [intOf]; omega
        · go_wp2_with fail
          go_loopw [7] (fun s7 wr => ∃ i : Nat, i ≤ nn ∧ s7 = .int .i64 i ∧ ∃ m, wr = W.drewN m) (fun s7 _ => nn - (intOf s7).toNat)
          case atStart => exact ⟨0, by omega, rfl, _, rfl⟩
          case round =>
            obtain ⟨k, hk, rfl, mk, rfl⟩ := hrel
            by_cases hlt3 : k < nn
            · obtain ⟨x, hx⟩ : ∃ x, ms[k]? = some x := ⟨_, List.getElem?_eq_getElem (by have := NM.out; omega)⟩
              obtain ⟨b1, o1, c1, hv1, p0, p1, p2, p3, p4⟩ := mem_row_ NM.out (M1.out.kept HK.out) hx
              obtain ⟨b2, o2, c2, hv2, q0, q1, q2, q3, q4⟩ := mem_row_ NM.out (M2.out.kept HK.out) hx
              simp only [Value.slice.injEq] at hv1 hv2
              obtain ⟨rfl, -, rfl⟩ := hv1
              obtain ⟨rfl, -, rfl⟩ := hv2
              have hkI : (k : Int) < (nn : Int) := by omega
              have h0I : (0 : Int) ≤ (k : Int) := by omega
              clear hx
              go_wp2_with fail
              go_quiet (fail)
              go_wp2_with fail
              go_roundw
              case rel => exact ⟨k + 1, by omega, by go_num, _, rfl⟩
              case measure => simp [intOf]; omega
            · go_wp2_with fail
              go_ret
              exact ⟨rfl, kept_drewN HK.out _⟩
end Go.Proofs.Ytcklmhbcjgiplaa
