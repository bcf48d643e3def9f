/-
  Rows of classes, each above the one before it: plain.
-/
import Derived.Test.YteblpdcedlaedaaLetter
import Derived.Test.YteblpdcedlaedaaCh8
namespace Go.Proofs.Yteblpdcedlaedaa
open Go.RowKit
set_option maxRecDepth 100000

theorem atO_congr : ∀ {D D' : List TD}, D.map (·.name) = D'.map (·.name) → ∀ s, atO D s = atO D' s
  | [], [], _, _ => rfl
  | [], _ :: _, h, _ => by simp at h
  | _ :: _, [], h, _ => by simp at h
  | t :: D, t' :: D', h, s => by
    simp only [List.map_cons, List.cons.injEq] at h
    unfold atO
    rw [h.1, atO_congr h.2 s]
theorem chainR_congr {D D' : List TD} (hn : D.map (·.name) = D'.map (·.name)) (hs : D.map (·.super) = D'.map (·.super)) : ∀ (f : Nat) (s : ByteArray) (out : List ByteArray), chainR D f s out = chainR D' f s out
  | 0, _, _ => rfl
  | f + 1, s, out => by
    have h : ∀ k : Nat, (D[k]?.map (·.super)) = (D'[k]?.map (·.super)) := fun k => by
      rw [← List.getElem?_map, ← List.getElem?_map, hs]
    unfold chainR
    rw [atO_congr hn s]
    cases atO D' s with
    | none => rfl
    | some k => simp only [h k, chainR_congr hn hs f]
theorem chainL_congr {D D' : List TD} (hn : D.map (·.name) = D'.map (·.name)) (hs : D.map (·.super) = D'.map (·.super)) (s : ByteArray) : chainL D s = chainL D' s := by
  have hl : D.length = D'.length := by have := congrArg List.length hn; simpa using this
  unfold chainL
  rw [hl, chainR_congr hn hs]
theorem findSome_at {α β : Type} {g : α → Option β} : ∀ {l : List α} {j : Nat} {x : α} {y : β}, l[j]? = some x → g x = some y → (∀ i z, i < j → l[i]? = some z → g z = none) → l.findSome? g = some y
  | [], _, _, _, h, _, _ => by simp at h
  | z :: l, 0, x, y, h, hg, _ => by
    simp only [List.getElem?_cons_zero, Option.some.injEq] at h
    subst h
    rw [List.findSome?_cons, hg]
  | z :: l, j + 1, x, y, h, hg, hno => by
    rw [List.findSome?_cons, hno 0 z (by omega) rfl]
    exact findSome_at (l := l) (j := j) (by simpa using h) hg fun i z hi hz => hno (i + 1) z (by omega) (by simpa using hz)

def supN (n i : Nat) : ByteArray := if i + 1 < n then letterS (i + 1) else ⟨#[]⟩
def clsD (n : Nat) (acc : Int) (I : List ByteArray) (M : Nat → List MemberV) (i : Nat) : TD := ⟨letterS i, supN n i, acc, I, [], M i⟩
/-- The first k classes of a row of n. -/
def rowK (n k : Nat) (acc : Int) (I : List ByteArray) (M : Nat → List MemberV) : List TD := (List.range k).map (clsD n acc I M)
def rowZ (n : Nat) : List TD := rowK n n 0 [] fun _ => []
theorem rowZ_chain : ∀ n < 11, ∀ k < n, chainL (rowZ n) (letterS k) = (List.range (n - k)).map fun i => letterS (k + i) := by decide +kernel
theorem rowZ_at : ∀ n < 11, ∀ k < n, atO (rowZ n) (letterS k) = some k := by decide +kernel
theorem letter_ne : ∀ i < 26, ∀ j < 26, letterS i = letterS j → i = j := by decide +kernel
section
variable {n : Nat} {acc : Int} {I : List ByteArray} {M : Nat → List MemberV}
theorem rowK_get {k : Nat} (h : k < n) : (rowK n n acc I M)[k]? = some (clsD n acc I M k) := by simp [rowK, h]
theorem row_at (hn : n < 11) {k : Nat} (h : k < n) : atO (rowK n n acc I M) (letterS k) = some k := by
  rw [atO_congr (D' := rowZ n) (by simp [rowK, rowZ, clsD, Function.comp_def])]
  exact rowZ_at n hn k h
theorem row_chainL (hn : n < 11) {k : Nat} (h : k < n) : chainL (rowK n n acc I M) (letterS k) = (List.range (n - k)).map fun i => letterS (k + i) := by
  rw [chainL_congr (D' := rowZ n) (by simp [rowK, rowZ, clsD, Function.comp_def]) (by simp [rowK, rowZ, clsD, Function.comp_def])]
  exact rowZ_chain n hn k h
theorem row_met (hn : n < 11) {k : Nat} (h : k < n) : metL (rowK n n acc I M) (letterS k) = M k := metL_at (row_at hn h) (rowK_get h)
theorem row_acc (hn : n < 11) {k : Nat} (h : k < n) : accT (rowK n n acc I M) (letterS k) = acc := accT_at (row_at hn h) (rowK_get h)
theorem row_there (hn : n < 11) {k : Nat} (h : k < n) : there (rowK n n acc I M) (letterS k) := by unfold there; rw [row_at hn h]; rfl
end
/-- One method, or none. -/
def oneM (d : Nat → Bool) (a : Int) (nm ds : ByteArray) (i : Nat) : List MemberV := if d i = true then [⟨a, nm, ds, true, 0⟩] else []
theorem row_frsF {n : Nat} {acc a : Int} {I : List ByteArray} {d : Nat → Bool} {nm ds : ByteArray} {tk : Int → Bool} (hn : n < 11) (ht : tk a = true) {k : Nat} (h : k < n) : frsF (rowK n n acc I (oneM d a nm ds)) nm ds tk (letterS k) = if d k = true then some (letterS k, 0) else none := by
  have hm : metL (rowK n n acc I (oneM d a nm ds)) (letterS k) = oneM d a nm ds k := row_met hn h
  cases hd : d k with
  | true =>
    have h1 : oneM d a nm ds k = [⟨a, nm, ds, true, 0⟩] := by unfold oneM; rw [if_pos hd]
    rw [frs_at (i := 0) (m := ⟨a, nm, ds, true, 0⟩) (by rw [hm, h1]; simp [memAt]) (by rw [hm, h1]; rfl), if_pos ht, if_pos rfl]
  | false =>
    have h1 : oneM d a nm ds k = [] := by unfold oneM; rw [if_neg (by rw [hd]; decide)]
    rw [frs_no (by rw [hm, h1]; rfl), if_neg (by decide)]
theorem row_frsL {n : Nat} {acc a : Int} {I : List ByteArray} {d : Nat → Bool} {nm ds : ByteArray} {tk : Int → Bool} (hn : n < 11) (ht : tk a = true) {s p : Nat} (hs : s ≤ p) (hp : p < n) (hd : d p = true) (hno : ∀ i, s ≤ i → i < p → d i = false) :
    frsL (rowK n n acc I (oneM d a nm ds)) (chainL (rowK n n acc I (oneM d a nm ds)) (letterS s)) nm ds tk = some (letterS p, 0) := by
  unfold frsL
  rw [row_chainL hn (by omega)]
  refine findSome_at (j := p - s) (x := letterS p) ?_ ?_ ?_
  · rw [List.getElem?_map, List.getElem?_range (by omega)]
    simp only [Option.map_some, Option.some.injEq]
    rw [show s + (p - s) = p by omega]
  · rw [row_frsF hn ht hp, if_pos hd]
  · intro i z hi hz
    rw [List.getElem?_map, List.getElem?_range (by omega)] at hz
    simp only [Option.map_some, Option.some.injEq] at hz
    subst hz
    rw [row_frsF hn ht (by omega), if_neg (by rw [hno _ (by omega) (by omega)]; decide)]
def dV : ByteArray := ⟨#[40, 41, 86]⟩
def mB : ByteArray := ⟨#[109]⟩
def startA (n : Nat) (sup ini : Bool) : Nat := if sup = true ∧ ini = false then 1 else n - 1
def nameA (ini : Bool) : ByteArray := if ini = true then initB else mB
def accA (sup : Bool) : Int := if sup = true then 33 else 1
theorem above_plain {n : Nat} {sup ini : Bool} {d : Nat → Bool} {p : Nat} (h3 : 3 ≤ n) (hn : n < 11) (hs : startA n sup ini ≤ p) (hp : p < n) (hd : d p = true) (hno : ∀ i, startA n sup ini ≤ i → i < p → d i = false) :
    specR (rowK n n (accA sup) [] (oneM d 1 (nameA ini) dV)) (letterS 0) (letterS (n - 1)) (nameA ini) dV = ((letterS p, 0), ⟨#[]⟩) := by
  obtain ⟨D, hD⟩ : ∃ D, D = rowK n n (accA sup) [] (oneM d 1 (nameA ini) dV) := ⟨_, rfl⟩
  rw [← hD]
  have t0 : there D (letterS 0) := by rw [hD]; exact row_there hn (by omega)
  have t1 : there D (letterS (n - 1)) := by rw [hD]; exact row_there hn (by omega)
  have a0 : ∀ k, k < n → accT D (letterS k) = accA sup := fun k hk => by rw [hD]; exact row_acc hn hk
  have hc : spC D (letterS 0) (letterS (n - 1)) (nameA ini) = letterS (startA n sup ini) := by
    cases sup with
    | false => rw [spC_no (.inl (by rw [a0 0 (by omega)]; decide))]; rfl
    | true =>
      cases ini with
      | true =>
        show spC D (letterS 0) (letterS (n - 1)) initB = _
        rw [spC_no (.inr (.inl rfl))]; rfl
      | false =>
        show spC D (letterS 0) (letterS (n - 1)) mB = _
        rw [spC_yes (by rw [a0 0 (by omega)]; decide) (by decide) (by rw [a0 _ (by omega)]; decide) (fun e => by have := letter_ne (n - 1) (by omega) 0 (by omega) e; omega) (by rw [hD, row_chainL hn (by omega)]; refine List.mem_map.2 ⟨n - 1, by simp; omega, by rw [Nat.zero_add]⟩)]
        rw [supO_at (k := 0) (t := clsD n (accA true) [] (oneM d 1 (nameA false) dV) 0) (by rw [hD]; exact row_at hn (by omega)) (by rw [hD]; exact rowK_get (by omega))]
        show supN n 0 = _
        unfold supN
        rw [if_pos (by omega)]
        rfl
  have hsn : startA n sup ini < n := by omega
  have hf : faceT D (letterS (startA n sup ini)) = false := by
    unfold faceT
    rw [a0 _ hsn]
    cases sup <;> decide
  unfold specR
  rw [if_pos ⟨t0, t1⟩, hc]
  unfold specC specL
  rw [if_neg (by rw [hf]; decide), hD, row_frsL hn (by decide) hs hp hd hno]
  simp only
  unfold toldR
  rw [accO_M _ (letterS p, 0)]
  have hm : accM (rowK n n (accA sup) [] (oneM d 1 (nameA ini) dV)) (letterS p, 0) = 1 := by
    unfold accM
    rw [row_met hn hp]
    unfold oneM
    rw [if_pos hd]
    rfl
  rw [hm, if_pos (by decide)]
  rfl
end Go.Proofs.Yteblpdcedlaedaa
