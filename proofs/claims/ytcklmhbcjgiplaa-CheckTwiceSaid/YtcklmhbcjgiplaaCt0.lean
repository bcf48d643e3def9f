/-
  Plain facts for CheckTwice.
-/
import Derived.Test.YtcklmhbcjgiplaaCm0
namespace Go.Proofs.Ytcklmhbcjgiplaa
set_option linter.unusedVariables false
set_option linter.unusedSimpArgs false
open Go.RowKit
set_option maxRecDepth 100000

instance fieldDec : DecidableEq FieldC := fun ⟨a, b, c, d⟩ ⟨a', b', c', d'⟩ => decidable_of_iff (a = a' ∧ b = b' ∧ c = c' ∧ d = d') (by simp)
def twPool : List ConstC := smallK.pool ++ [⟨1, ⟨#[97]⟩, 0, 0, 0⟩, ⟨1, ⟨#[98]⟩, 0, 0, 0⟩, ⟨1, ⟨#[99]⟩, 0, 0, 0⟩, ⟨1, ⟨#[73]⟩, 0, 0, 0⟩, ⟨1, ⟨#[76, 65, 59]⟩, 0, 0, 0⟩]
theorem twPool_text : ∀ k ∈ twPool, k.text.size ≤ maxLen := by
  intro k hk
  have h : k.text.size ≤ 16 := by
    simp only [twPool, smallK, List.mem_cons, List.mem_append, List.not_mem_nil, or_false] at hk
    rcases hk with (rfl | rfl | rfl | rfl) | rfl | rfl | rfl | rfl | rfl <;> decide
  exact Nat.le_trans h (by unfold maxLen; omega)
/-- Where a field's name lies: 5, 6 or 7; its descriptor: 8 or 9. -/
def nmT (x : Int) : Nat := ((BitVec.ofInt 64 x).toNat &&& 3) % 3
def dsT (x : Int) : Nat := (BitVec.ofInt 64 x).toNat &&& 1
theorem nmT_lt (x : Int) : nmT x < 3 := Nat.mod_lt _ (by omega)
theorem dsT_lt (x : Int) : dsT x < 2 := Nat.lt_succ_of_le Nat.and_le_right
def fldT (x y : Int) : FieldC := ⟨0, ((5 + nmT x : Nat) : Int), ((8 + dsT y : Nat) : Int), 0⟩
def fldAt (n d : Nat) : FieldC := ⟨0, ((5 + n : Nat) : Int), ((8 + d : Nat) : Int), 0⟩
def goodT (f : FieldC) : Prop := ∃ n d : Nat, n < 3 ∧ d < 2 ∧ f = fldAt n d
theorem fldT_good (x y : Int) : goodT (fldT x y) := ⟨nmT x, dsT y, nmT_lt x, dsT_lt y, rfl⟩
def keyT (f : FieldC) : ByteArray × ByteArray := keyC twPool f.name f.desc
theorem keyT_at : ∀ n m : Fin 3, ∀ d e : Fin 2, keyT (fldAt n.val d.val) = keyT (fldAt m.val e.val) → n = m ∧ d = e := by decide +kernel
theorem keyT_inj {f g : FieldC} (hf : goodT f) (hg : goodT g) (h : keyT f = keyT g) : f = g := by
  obtain ⟨n, d, hn, hd, rfl⟩ := hf
  obtain ⟨m, e, hm, he, rfl⟩ := hg
  obtain ⟨h1, h2⟩ := keyT_at ⟨n, hn⟩ ⟨m, hm⟩ ⟨d, hd⟩ ⟨e, he⟩ h
  simp only [Fin.mk.injEq] at h1 h2
  subst h1 h2
  rfl
theorem fieldT_ok : ∀ n : Fin 3, ∀ d : Fin 2, (((textC twPool (fldAt n.val d.val).name).2 && (textC twPool (fldAt n.val d.val).desc).2) = true ∧ memS (textC twPool (fldAt n.val d.val).name).1 = true ∧ fldS (textC twPool (fldAt n.val d.val).desc).1 = true) := by decide +kernel
theorem fieldT_0 : (decide (1 < viewsI 0) || hasF 33 512 && !allF 0 25) = false := by decide +kernel
theorem fieldT {seen : List (ByteArray × ByteArray)} {f : FieldC} (hf : goodT f) : fieldE twPool 33 seen f = if seen.contains (keyT f) = true then 24 else 0 := by
  obtain ⟨n, d, hn, hd, rfl⟩ := hf
  obtain ⟨h1, h2, h3⟩ := fieldT_ok ⟨n, hn⟩ ⟨d, hd⟩
  dsimp only at h1 h2 h3
  unfold fieldE
  rw [if_neg (by rw [h1]; decide), if_neg (by rw [h2]; decide), if_neg (by rw [h3]; decide), if_neg (show ¬ (decide (1 < viewsI (fldAt n d).access) || hasF 33 512 && !allF (fldAt n d).access 25) = true from (show ¬ (decide (1 < viewsI 0) || hasF 33 512 && !allF 0 25) = true by rw [fieldT_0]; decide))]
  show (if seen.contains (keyT (fldAt n d)) = true then 24 else if ((0 : Int) != 0 && _) = true then 26 else 0) = _
  rw [show (((0 : Int) != 0) && (!hasF (fldAt n d).access 8 || !isS (textC twPool (fldAt n d).desc).1 [73] || !(getC twPool (fldAt n d).value 3).isSome)) = false from rfl]
  rfl
/-- Does one stand twice? -/
def dupT : List FieldC → List FieldC → Bool
  | _, [] => false
  | seen, f :: l => decide (f ∈ seen) || dupT (seen ++ [f]) l
theorem dupT_snoc (f : FieldC) : ∀ (l seen : List FieldC), dupT seen (l ++ [f]) = (dupT seen l || decide (f ∈ seen ++ l))
  | [], seen => by simp [dupT]
  | x :: l, seen => by
    simp only [List.cons_append, dupT, dupT_snoc f l (seen ++ [x]), List.append_assoc, List.singleton_append, List.cons_append, List.nil_append, Bool.or_assoc]
theorem seenT {seen : List FieldC} {f : FieldC} (hs : ∀ g ∈ seen, goodT g) (hf : goodT f) : (seen.map keyT).contains (keyT f) = decide (f ∈ seen) := by
  rw [Bool.eq_iff_iff, List.contains_iff_mem, decide_eq_true_iff]
  constructor
  · intro h
    obtain ⟨g, hg, he⟩ := List.mem_map.1 h
    rw [← keyT_inj (hs g hg) hf he]
    exact hg
  · exact fun h => List.mem_map.2 ⟨f, h, rfl⟩
theorem fieldsT : ∀ (l seen : List FieldC), (∀ g ∈ seen, goodT g) → (∀ g ∈ l, goodT g) → fieldsE twPool 33 (seen.map keyT) l = if dupT seen l = true then 24 else 0
  | [], seen, _, _ => rfl
  | f :: l, seen, hs, hl => by
    have hf := hl f (by simp)
    rw [fieldsE_cons, fieldT hf, seenT hs hf]
    unfold dupT
    cases hd : decide (f ∈ seen) with
    | true => simp
    | false =>
      have ih := fieldsT l (seen ++ [f]) (by intro g hg; rcases List.mem_append.1 hg with h | h; exact hs g h; rw [List.mem_singleton] at h; exact h ▸ hf) (fun g hg => hl g (by simp [hg]))
      rw [List.map_append] at ih
      rw [if_neg (show ¬ (false = true) by decide), if_pos rfl, Bool.false_or]
      exact ih
def twK (l : List FieldC) : ClassC := ⟨0, 52, twPool, 33, 2, 4, [], l, []⟩
theorem twice_check {l : List FieldC} (hl : ∀ g ∈ l, goodT g) (hn : l.length ≤ 12) : checkE (twK l) = if dupT [] l = true then 24 else 0 := by
  have m0 : muchB (twK l) = false := by
    show (decide (1024 < twPool.length) || decide (64 < 0) || decide (64 < l.length) || decide (64 < 0) || false) = false
    rw [show decide (1024 < twPool.length) = false by decide, show decide (64 < l.length) = false by simp; omega]
    rfl
  have p0 : poolE twPool twPool = 0 := by decide +kernel
  have h0 : headE (twK l) = 0 := (show headE (twK []) = 0 by decide +kernel)
  have f0 := fieldsT l [] (by simp) hl
  unfold checkE
  rw [m0, if_neg (by decide), if_neg (show ¬ ((twK l).major < 45 ∨ 52 < (twK l).major) from (show ¬ ((52 : Int) < 45 ∨ (52 : Int) < 52) by decide)), if_neg (show ¬ poolE (twK l).pool (twK l).pool ≠ 0 from fun h => h p0), h0, if_neg (by decide)]
  show (if fieldsE twPool 33 [] l ≠ 0 then fieldsE twPool 33 [] l else 0) = _
  rw [show fieldsE twPool 33 [] l = if dupT [] l = true then 24 else 0 from f0]
  cases dupT [] l <;> simp
/-- The fields that are built. -/
def twF (ns ds : List Int) : List FieldC := List.zipWith fldT ns ds
theorem twF_len {ns ds : List Int} (h : ns.length = ds.length) : (twF ns ds).length = ns.length := by simp [twF, h]
theorem twF_at {ns ds : List Int} {i : Nat} {x y : Int} (hx : ns[i]? = some x) (hy : ds[i]? = some y) : (twF ns ds)[i]? = some (fldT x y) := by
  unfold twF
  rw [List.getElem?_zipWith, hx, hy]
theorem twF_good {ns ds : List Int} : ∀ g ∈ twF ns ds, goodT g := by
  intro g hg
  obtain ⟨i, hi, rfl⟩ := List.getElem_of_mem hg
  unfold twF at hi ⊢
  rw [List.getElem_zipWith]
  exact fldT_good _ _
theorem dupT_take {l : List FieldC} {k : Nat} {f : FieldC} (h : l[k]? = some f) : dupT [] (l.take (k + 1)) = (dupT [] (l.take k) || decide (f ∈ l.take k)) := by
  rw [List.take_add_one, h]
  exact dupT_snoc f (l.take k) []
theorem mem_take_snoc {l : List FieldC} {j : Nat} {f g : FieldC} (h : l[j]? = some g) : decide (f ∈ l.take (j + 1)) = (decide (f ∈ l.take j) || decide (g = f)) := by
  rw [List.take_add_one, h, Bool.eq_iff_iff, decide_eq_true_iff, Bool.or_eq_true, decide_eq_true_iff, decide_eq_true_iff, List.mem_append]
  show _ ∨ f ∈ [g] ↔ _
  rw [List.mem_singleton]
  exact ⟨fun h => h.imp id Eq.symm, fun h => h.imp id Eq.symm⟩
end Go.Proofs.Ytcklmhbcjgiplaa
