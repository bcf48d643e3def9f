/-
  Names and descriptors, plain: bytes without a program in sight.
-/
import Derived.WalkKit
import Derived.Lib.Hide
namespace Go.Proofs.Ytcklmhbcjgiplaa
set_option linter.unusedVariables false
set_option linter.unusedSimpArgs false
open Go.RowKit
set_option maxRecDepth 100000

/-- A byte that a name may have: printed, and none of some. -/
def okB (no : List UInt8) (c : UInt8) : Bool := decide (33 ≤ c.toNat) && decide (c.toNat ≤ 126) && !no.contains c
def ltrB (no l : List UInt8) : Bool := l.all (okB no) && decide (l ≠ []) && decide (l.length ≤ 255)
/-- No empty part between slashes, behind a byte. -/
def segB : UInt8 → List UInt8 → Bool
  | last, [] => last != 47
  | last, c :: r => if c = 47 ∧ last = 47 then false else segB c r
def noC : List UInt8 := [46, 59, 91]
def noM : List UInt8 := [46, 59, 91, 47, 60, 62]
def clsB (l : List UInt8) : Bool := ltrB noC l && segB 47 l
def memB (l : List UInt8) : Bool := ltrB noM l
def iniL : List UInt8 := [60, 105, 110, 105, 116, 62]
def cliL : List UInt8 := [60, 99, 108, 105, 110, 105, 116, 62]
def metB (l : List UInt8) : Bool := l == iniL || l == cliL || memB l
/-- What stands between the first and the last byte. -/
def midL (l : List UInt8) : List UInt8 := (l.take (l.length - 1)).drop 1
def fldB (l : List UInt8) : Bool := l == [73] || (decide (2 < l.length) && decide (l.length ≤ 255) && (l[0]?.getD 0 == 76) && (l[l.length - 1]?.getD 0 == 59) && clsB (midL l))
/-- The place of a byte. -/
def idxB (c : UInt8) : List UInt8 → Option Nat
  | [] => none
  | d :: r => if d = c then some 0 else (idxB c r).map (· + 1)
/-- How long the first part is. -/
def cutN (l : List UInt8) : Nat := if l[0]?.getD 0 = 76 then (match idxB 59 l with
  | some i => i + 1
  | none => l.length) else 1
def kgo : Nat → List UInt8 → List UInt8 → Option (List UInt8 × List UInt8)
  | 0, _, _ => none
  | _ + 1, [], _ => none
  | f + 1, c :: r, a => if c = 41 then some (a, r) else
    if fldB ((c :: r).take (cutN (c :: r))) = true ∧ a.length ≠ 16 then kgo f ((c :: r).drop (cutN (c :: r))) (a ++ [c]) else none
def kindsL (l : List UInt8) : Option (List UInt8 × List UInt8) :=
  match l with
  | [] => none
  | c :: r => if c = 40 ∧ l.length ≤ 255 then (match kgo 256 r [] with
    | none => none
    | some (a, q) => if q = [86] ∨ fldB q = true then some (a, q.take 1) else none) else none

theorem ltrB_nil (no : List UInt8) : ltrB no [] = false := by simp [ltrB]
theorem ltrB_no {no l : List UInt8} {i : Nat} {c : UInt8} (h : l[i]? = some c) (hc : okB no c = false) : ltrB no l = false := by
  unfold ltrB
  have : l.all (okB no) = false := by
    rw [List.all_eq_false]
    exact ⟨c, List.mem_of_getElem? h, by rw [hc]; decide⟩
  rw [this]
  rfl
theorem ltrB_yes {no l : List UInt8} (h : ∀ (i : Nat) c, l[i]? = some c → okB no c = true) : ltrB no l = (decide (l ≠ []) && decide (l.length ≤ 255)) := by
  unfold ltrB
  have : l.all (okB no) = true := by
    rw [List.all_eq_true]
    intro c hc
    obtain ⟨i, hi⟩ := List.getElem?_of_mem hc
    exact h i c hi
  rw [this, Bool.true_and]
theorem okB_lo {no : List UInt8} {c : UInt8} (h : c.toNat < 33) : okB no c = false := by
  unfold okB; rw [decide_eq_false (by omega)]; rfl
theorem okB_hi {no : List UInt8} {c : UInt8} (h : 126 < c.toNat) : okB no c = false := by
  unfold okB; rw [decide_eq_false (p := c.toNat ≤ 126) (by omega), Bool.and_false]; rfl
theorem okB_in {no : List UInt8} {c : UInt8} (h : no.contains c = true) : okB no c = false := by
  unfold okB; rw [h]; simp
theorem okB_ok {no : List UInt8} {c : UInt8} (h1 : 33 ≤ c.toNat) (h2 : c.toNat ≤ 126) (h : no.contains c = false) : okB no c = true := by
  unfold okB; rw [h, decide_eq_true h1, decide_eq_true h2]; rfl
theorem okB_ascii {no : List UInt8} {c : UInt8} (h : okB no c = true) : 33 ≤ c.toNat ∧ c.toNat ≤ 126 := by
  unfold okB at h
  simp at h
  exact h.1

/-- What 'segB' says of a byte at a place, by the byte ahead of it. -/
theorem segB_no : ∀ {l : List UInt8} {last : UInt8} {i : Nat}, (last :: l)[i]? = some 47 → l[i]? = some 47 → segB last l = false
  | [], _, _, _, h => by simp at h
  | c :: r, last, 0, h1, h2 => by
    simp only [List.getElem?_cons_zero, Option.some.injEq] at h1 h2
    unfold segB
    rw [if_pos ⟨h2, h1⟩]
  | c :: r, last, i + 1, h1, h2 => by
    simp only [List.getElem?_cons_succ] at h1 h2
    unfold segB
    split
    · rfl
    · exact segB_no (i := i) h1 h2
theorem segB_end : ∀ {l : List UInt8} {last : UInt8}, (last :: l)[l.length]? = some 47 → segB last l = false
  | [], last, h => by
    simp at h
    unfold segB
    rw [h]; rfl
  | c :: r, last, h => by
    simp only [List.length_cons, List.getElem?_cons_succ] at h
    unfold segB
    split
    · rfl
    · exact segB_end h
theorem segB_yes : ∀ {l : List UInt8} {last : UInt8}, (∀ i : Nat, (last :: l)[i]? = some 47 → l[i]? ≠ some 47) → (last :: l)[l.length]? ≠ some 47 → segB last l = true
  | [], last, _, h => by
    simp at h
    unfold segB
    simp [h]
  | c :: r, last, h1, h2 => by
    unfold segB
    rw [if_neg fun e => h1 0 (by simp [e.2]) (by simp [e.1])]
    refine segB_yes (fun i hi => ?_) (by simpa using h2)
    have := h1 (i + 1) (by simpa using hi)
    simpa using this

theorem idxB_lt {c : UInt8} : ∀ {l : List UInt8} {i : Nat}, idxB c l = some i → i < l.length
  | [], i, h => by cases h
  | d :: r, i, h => by
    unfold idxB at h
    split at h
    · obtain rfl : 0 = i := by simpa using h
      simp
    · obtain ⟨j, hj, rfl⟩ := Option.map_eq_some_iff.1 h
      have := idxB_lt hj
      simp; omega
theorem idxB_at {c : UInt8} : ∀ {l : List UInt8} {i : Nat}, l[i]? = some c → (∀ j, j < i → l[j]? ≠ some c) → idxB c l = some i
  | [], i, h, _ => by simp at h
  | d :: r, 0, h, _ => by
    simp only [List.getElem?_cons_zero, Option.some.injEq] at h
    unfold idxB
    rw [if_pos h]
  | d :: r, i + 1, h, hn => by
    unfold idxB
    rw [if_neg (fun e => hn 0 (by omega) (by simp [e])), idxB_at (i := i) (by simpa using h) (fun j hj => by have := hn (j + 1) (by omega); simpa using this)]
    rfl
theorem idxB_none {c : UInt8} : ∀ {l : List UInt8}, (∀ j : Nat, l[j]? ≠ some c) → idxB c l = none
  | [], _ => rfl
  | d :: r, hn => by
    unfold idxB
    rw [if_neg (fun e => hn 0 (by simp [e])), idxB_none (fun j => by have := hn (j + 1); simpa using this)]
    rfl
theorem idxB_is {c : UInt8} : ∀ {l : List UInt8} {i : Nat}, idxB c l = some i → l[i]? = some c ∧ ∀ j, j < i → l[j]? ≠ some c
  | [], i, h => by cases h
  | d :: r, i, h => by
    unfold idxB at h
    split at h
    · rename_i e
      obtain rfl : 0 = i := by simpa using h
      exact ⟨by simp [e], fun j hj => by omega⟩
    · rename_i e
      obtain ⟨j, hj, rfl⟩ := Option.map_eq_some_iff.1 h
      obtain ⟨h1, h2⟩ := idxB_is hj
      refine ⟨by simpa using h1, fun k hk => ?_⟩
      cases k with
      | zero => simpa using e
      | succ k => simpa using h2 k (by omega)
theorem cutN_pos {c : UInt8} {r : List UInt8} : 1 ≤ cutN (c :: r) := by
  unfold cutN
  split
  · cases idxB 59 (c :: r) with
    | none => simp
    | some i => simp
  · exact Nat.le_refl _
theorem cutN_le {c : UInt8} {r : List UInt8} : cutN (c :: r) ≤ (c :: r).length := by
  unfold cutN
  split
  · cases h : idxB 59 (c :: r) with
    | none => simp
    | some i => have := idxB_lt h; simp only; omega
  · simp
/-- More fuel than bytes is as good as any. -/
theorem kgo_fuel : ∀ {f g : Nat} {l a : List UInt8}, l.length < f → l.length < g → kgo f l a = kgo g l a
  | 0, _, _, _, h, _ => by omega
  | _, 0, _, _, _, h => by omega
  | f + 1, g + 1, [], a, _, _ => rfl
  | f + 1, g + 1, c :: r, a, hf, hg => by
    unfold kgo
    have h1 := cutN_pos (c := c) (r := r)
    have h2 : ((c :: r).drop (cutN (c :: r))).length < f := by rw [List.length_drop]; simp at hf ⊢; omega
    have h3 : ((c :: r).drop (cutN (c :: r))).length < g := by rw [List.length_drop]; simp at hg ⊢; omega
    rw [kgo_fuel h2 h3]
theorem kgo_cons {f : Nat} {c : UInt8} {r a : List UInt8} (hf : (c :: r).length < f) : kgo f (c :: r) a = if c = 41 then some (a, r) else
    if fldB ((c :: r).take (cutN (c :: r))) = true ∧ a.length ≠ 16 then kgo f ((c :: r).drop (cutN (c :: r))) (a ++ [c]) else none := by
  cases f with
  | zero => simp at hf
  | succ f =>
    have h1 := cutN_pos (c := c) (r := r)
    rw [kgo]
    rw [kgo_fuel (f := f) (g := f + 1) (l := (c :: r).drop (cutN (c :: r))) (by rw [List.length_drop]; simp at hf ⊢; omega) (by rw [List.length_drop]; simp at hf ⊢; omega)]
theorem kgo_nil {f : Nat} {a : List UInt8} : kgo f [] a = none := by cases f <;> rfl
theorem kgo_len : ∀ {f : Nat} {l a b q : List UInt8}, kgo f l a = some (b, q) → a.length ≤ 16 → b.length ≤ 16 ∧ q.length < l.length
  | 0, _, _, _, _, h, _ => by cases h
  | f + 1, [], _, _, _, h, _ => by cases h
  | f + 1, c :: r, a, b, q, h, ha => by
    unfold kgo at h
    split at h
    · obtain ⟨rfl, rfl⟩ : a = b ∧ r = q := by simpa using h
      exact ⟨ha, by simp⟩
    · split at h
      · rename_i hc
        have := kgo_len h (by simp; omega)
        have h1 := cutN_pos (c := c) (r := r)
        have h2 := this.2
        rw [List.length_drop] at h2
        exact ⟨this.1, by omega⟩
      · cases h
end Go.Proofs.Ytcklmhbcjgiplaa
