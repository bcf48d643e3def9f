/-
  Plain facts for CheckNamed.
-/
import Derived.Test.YtcklmhbcjgiplaaCm0
namespace Go.Proofs.Ytcklmhbcjgiplaa
set_option linter.unusedVariables false
set_option linter.unusedSimpArgs false
open Go.RowKit
set_option maxRecDepth 100000

def fixedN : List ConstC := smallK.pool ++ [⟨1, ⟨#[109]⟩, 0, 0, 0⟩, ⟨1, ⟨#[73]⟩, 0, 0, 0⟩, ⟨1, ⟨#[40, 41, 86]⟩, 0, 0, 0⟩, ⟨12, ⟨#[]⟩, 0, 5, 6⟩, ⟨12, ⟨#[]⟩, 0, 5, 7⟩, ⟨3, ⟨#[]⟩, 0, 0, 0⟩]
def lastN (tag a b : Int) : ConstC := ⟨tag, ⟨#[]⟩, 0, a, b⟩
theorem named_app (tag a b : Int) : namedPool tag a b = fixedN ++ [lastN tag a b] := rfl
theorem fixedN_len : fixedN.length = 10 := rfl
theorem namedPool_len (tag a b : Int) : (namedPool tag a b).length = 11 := rfl
theorem get_fixed (tag a b : Int) {n : Int} (t : Int) (h : n ≠ 11) : getC (namedPool tag a b) n t = getC fixedN n t := by
  unfold getC
  rw [namedPool_len, fixedN_len]
  by_cases h1 : 1 ≤ n ∧ n ≤ ((10 : Nat) : Int)
  · rw [if_pos h1, if_pos (show 1 ≤ n ∧ n ≤ ((11 : Nat) : Int) by omega), named_app, List.getElem?_append_left (by rw [fixedN_len]; omega)]
  · rw [if_neg h1, if_neg (by omega)]
theorem text_fixed (tag a b : Int) {n : Int} (h : n ≠ 11) : textC (namedPool tag a b) n = textC fixedN n := by
  unfold textC
  rw [get_fixed tag a b 1 h]
theorem fixedN_refs : ∀ x ∈ fixedN, x.a ≠ 11 ∧ x.b ≠ 11 := by decide
theorem getD_refs (n t : Int) : ((getC fixedN n t).getD zeroK).a ≠ 11 ∧ ((getC fixedN n t).getD zeroK).b ≠ 11 := by
  cases h : getC fixedN n t with
  | none => exact ⟨by decide, by decide⟩
  | some x => exact fixedN_refs x (getC_some h).1
theorem both_fixed (tag a b : Int) {n : Int} (h : n ≠ 11) : bothC (namedPool tag a b) n = bothC fixedN n := by
  unfold bothC
  rw [get_fixed tag a b 12 h, text_fixed tag a b (getD_refs n 12).1, text_fixed tag a b (getD_refs n 12).2]
theorem name_fixed (tag a b : Int) {n : Int} (h : n ≠ 11) : nameC (namedPool tag a b) n = nameC fixedN n := by
  unfold nameC
  rw [get_fixed tag a b 7 h, text_fixed tag a b (getD_refs n 7).1]
theorem const_fixed (tag a b : Int) {x : ConstC} (h1 : x.a ≠ 11) (h2 : x.b ≠ 11) : constE (namedPool tag a b) x = constE fixedN x := by
  unfold constE
  rw [text_fixed tag a b h1, text_fixed tag a b h2, get_fixed tag a b 7 h1, both_fixed tag a b h2]
theorem poolE_app (pool l l' : List ConstC) : poolE pool (l ++ l') = if poolE pool l = 0 then poolE pool l' else poolE pool l := by
  induction l with
  | nil => rfl
  | cons x l ih =>
    rw [List.cons_append, poolE_cons, poolE_cons, ih]
    by_cases h : constE pool x = 0
    · rw [if_pos h, if_pos h]
    · rw [if_neg h, if_neg h, if_neg h]
theorem poolE_same {p q l : List ConstC} (h : ∀ x ∈ l, constE p x = constE q x) : poolE p l = poolE q l := by
  induction l with
  | nil => rfl
  | cons x l ih => rw [poolE_cons, poolE_cons, h x (by simp), ih fun y hy => h y (by simp [hy])]
def classN (a : Int) : Bool := a == 2 || a == 4
def textN (a : Int) : Bool := a == 1 || a == 3 || a == 5 || a == 6 || a == 7
def wantN (tag a b : Int) : Int :=
  if tag = 7 then (if textN a = false then 20 else 0)
  else if tag = 12 then (if textN a = false then 20 else if textN b = false then 20 else if a = 3 then 21 else if (b == 1 || b == 3 || b == 5) = true then 22 else 0)
  else if tag = 9 then (if classN a = false then 20 else if b = 8 then 0 else if b = 9 then 22 else 20)
  else if classN a = false then 20 else if b = 9 then 0 else if b = 8 then 22 else 20
def clampN (a : Int) : Int := if 1 ≤ a ∧ a ≤ 10 then a else 0
theorem clamp_fin (a : Int) : ∃ i : Fin 11, clampN a = (i.val : Int) := by
  unfold clampN
  split
  · exact ⟨⟨a.toNat, by omega⟩, by dsimp only; omega⟩
  · exact ⟨⟨0, by omega⟩, rfl⟩
theorem get_clamp (n t : Int) : getC fixedN n t = getC fixedN (clampN n) t := by
  unfold clampN
  split
  · rfl
  · rename_i h
    unfold getC
    rw [fixedN_len, if_neg (by omega), if_neg (by omega)]
theorem const_clamp (tag a b : Int) : constE fixedN (lastN tag a b) = constE fixedN (lastN tag (clampN a) (clampN b)) := by
  unfold constE textC bothC lastN
  dsimp only
  rw [get_clamp a 1, get_clamp b 1, get_clamp a 7, get_clamp b 12]
theorem text_clamp (a : Int) : textN a = textN (clampN a) := by
  unfold clampN
  split
  · rfl
  · rename_i h
    unfold textN
    rw [show (a == 1) = false by simp; omega, show (a == 3) = false by simp; omega, show (a == 5) = false by simp; omega, show (a == 6) = false by simp; omega, show (a == 7) = false by simp; omega]
    rfl
theorem class_clamp (a : Int) : classN a = classN (clampN a) := by
  unfold clampN
  split
  · rfl
  · rename_i h
    unfold classN
    rw [show (a == 2) = false by simp; omega, show (a == 4) = false by simp; omega]
    rfl
theorem eq_clamp {a k : Int} (h : 1 ≤ k ∧ k ≤ 10) : (a = k) = (clampN a = k) := by
  unfold clampN
  apply propext
  split <;> omega
theorem beq_clamp {a k : Int} (h : 1 ≤ k ∧ k ≤ 10) : (a == k) = (clampN a == k) := by
  rw [Bool.eq_iff_iff, beq_iff_eq, beq_iff_eq, eq_clamp h]
theorem want_clamp (tag a b : Int) : wantN tag a b = wantN tag (clampN a) (clampN b) := by
  unfold wantN
  rw [text_clamp a, text_clamp b, class_clamp a]
  simp only [eq_clamp (a := a) (k := 3) (by omega), eq_clamp (a := b) (k := 8) (by omega), eq_clamp (a := b) (k := 9) (by omega), beq_clamp (a := b) (k := 1) (by omega), beq_clamp (a := b) (k := 3) (by omega), beq_clamp (a := b) (k := 5) (by omega)]
theorem want_7 : ∀ i j : Fin 11, constE fixedN (lastN 7 (i.val : Int) (j.val : Int)) = wantN 7 (i.val : Int) (j.val : Int) := by decide +kernel
theorem want_9 : ∀ i j : Fin 11, constE fixedN (lastN 9 (i.val : Int) (j.val : Int)) = wantN 9 (i.val : Int) (j.val : Int) := by decide +kernel
theorem want_10 : ∀ i j : Fin 11, constE fixedN (lastN 10 (i.val : Int) (j.val : Int)) = wantN 10 (i.val : Int) (j.val : Int) := by decide +kernel
theorem want_11 : ∀ i j : Fin 11, constE fixedN (lastN 11 (i.val : Int) (j.val : Int)) = wantN 11 (i.val : Int) (j.val : Int) := by decide +kernel
theorem want_12 : ∀ i j : Fin 11, constE fixedN (lastN 12 (i.val : Int) (j.val : Int)) = wantN 12 (i.val : Int) (j.val : Int) := by decide +kernel
theorem want_last {tag : Int} (a b : Int) (h : tag = 7 ∨ tag = 9 ∨ tag = 10 ∨ tag = 11 ∨ tag = 12) : constE fixedN (lastN tag a b) = wantN tag a b := by
  rw [const_clamp, want_clamp]
  obtain ⟨i, hi⟩ := clamp_fin a
  obtain ⟨j, hj⟩ := clamp_fin b
  rw [hi, hj]
  rcases h with rfl | rfl | rfl | rfl | rfl
  · exact want_7 i j
  · exact want_9 i j
  · exact want_10 i j
  · exact want_11 i j
  · exact want_12 i j
def namedK (tag a b : Int) : ClassC := bareC 0 52 33 2 4 (namedPool tag a b)
theorem named_check {tag a b : Int} (ht : tag = 7 ∨ tag = 9 ∨ tag = 10 ∨ tag = 11 ∨ tag = 12) (ha : a ≠ 11) (hb : b ≠ 11) : checkE (namedK tag a b) = wantN tag a b := by
  have m0 : muchB (namedK tag a b) = false := (show muchB (namedK 0 0 0) = false by decide +kernel)
  have p0 : poolE (namedPool tag a b) fixedN = 0 := by
    rw [poolE_same (q := fixedN) fun x hx => const_fixed tag a b (fixedN_refs x hx).1 (fixedN_refs x hx).2]
    decide +kernel
  have p1 : poolE (namedPool tag a b) (namedPool tag a b) = wantN tag a b := by
    conv => lhs; arg 2; rw [named_app]
    rw [poolE_app, p0, if_pos rfl, poolE_cons, const_fixed tag a b (x := lastN tag a b) ha hb, want_last a b ht]
    show (if wantN tag a b = 0 then 0 else wantN tag a b) = wantN tag a b
    split <;> simp_all
  have h0 : headE (namedK tag a b) = 0 := by
    unfold headE
    show (if (getC (namedPool tag a b) 2 7).isSome = false then 20 else if (getC (namedPool tag a b) 4 7).isSome = false then 20 else if headF 33 (nameC (namedPool tag a b) 4).1 = true then 23 else 0) = (0 : Int)
    rw [get_fixed tag a b 7 (by decide), get_fixed tag a b 7 (by decide), name_fixed tag a b (by decide)]
    decide +kernel
  unfold checkE
  rw [m0, if_neg (by decide), if_neg (show ¬ ((namedK tag a b).major < 45 ∨ 52 < (namedK tag a b).major) from (show ¬ ((52 : Int) < 45 ∨ (52 : Int) < 52) by decide)), h0, show poolE (namedK tag a b).pool (namedK tag a b).pool = wantN tag a b from p1]
  split
  · rfl
  · rename_i h
    have h : wantN tag a b = 0 := Decidable.not_not.1 h
    rw [h]
    rfl
end Go.Proofs.Ytcklmhbcjgiplaa
