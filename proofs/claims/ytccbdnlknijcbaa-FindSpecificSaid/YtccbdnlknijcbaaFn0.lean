/-
  Chapter 12's law FindNear: plain.
-/
import Derived.Test.YtccbdnlknijcbaaCong
import Derived.Test.YtccbdnlknijcbaaFind7
import Derived.Test.YtccbdnlknijcbaaFindG
namespace Go.Proofs.Ytccbdnlknijcbaa
open Go.RowKit
set_option maxRecDepth 100000

def mB : ByteArray := ⟨#[109]⟩
def dV : ByteArray := ⟨#[40, 41, 86]⟩
def iB : ByteArray := ⟨#[73]⟩
def nfM (b : Bool) : List MemberV := if b = true then [⟨1, mB, iB, false, 0⟩] else []
def nmM (b : Bool) : List MemberV := if b = true then [⟨1, mB, dV, true, 0⟩] else []
def niM (b : Bool) : List MemberV := if b = true then [⟨25, mB, iB, false, 0⟩] else []
def nrC (n : Nat) (dc : Nat → Bool) (i : Nat) : TD := ⟨letterS i, supN n i, 33, [letterS (13 + i)], nfM (dc i), nmM (dc i)⟩
def nrI (fc : Nat → Bool) (i : Nat) : TD := ⟨letterS (13 + i), ⟨#[]⟩, 1537, [], niM (fc i), []⟩
def nrT (n : Nat) (dc fc : Nat → Bool) (j : Nat) : TD := if j % 2 = 0 then nrC n dc (j / 2) else nrI fc (j / 2)
/-- The first k classes, each with its interface. -/
def nrK (n k : Nat) (dc fc : Nat → Bool) : List TD := (List.range (2 * k)).map (nrT n dc fc)
def nrZ (n : Nat) : List TD := nrK n n (fun _ => false) (fun _ => false)
theorem nrK_next (n k : Nat) (dc fc : Nat → Bool) : nrK n (k + 1) dc fc = nrK n k dc fc ++ [nrC n dc k, nrI fc k] := by
  unfold nrK
  rw [show 2 * (k + 1) = 2 * k + 1 + 1 by omega, List.range_succ, List.range_succ, List.map_append, List.map_append, List.append_assoc]
  congr 1
  unfold nrT
  simp only [List.map_cons, List.map_nil, List.singleton_append]
  rw [if_pos (by omega), if_neg (by omega), show 2 * k / 2 = k by omega, show (2 * k + 1) / 2 = k by omega]
theorem nrZ_at : ∀ n < 11, ∀ k < n, atO (nrZ n) (letterS k) = some (2 * k) ∧ atO (nrZ n) (letterS (13 + k)) = some (2 * k + 1) := by decide +kernel
theorem nrZ_chain : ∀ n < 11, ∀ k < n, chainL (nrZ n) (letterS k) = (List.range (n - k)).map fun i => letterS (k + i) := by decide +kernel
theorem nrZ_all : ∀ n < 11, ∀ k < n, (allL (nrZ n) (letterS k)).all (fun x => (List.range n).any fun j => decide (x = letterS (13 + j))) = true := by decide +kernel
theorem nrZ_no : ∀ n < 11, atO (nrZ n) ⟨#[]⟩ = none := by decide +kernel
section
variable {n : Nat} {dc fc : Nat → Bool}
theorem nr_n : (nrK n n dc fc).map (·.name) = (nrZ n).map (·.name) := by
  unfold nrZ nrK
  rw [List.map_map, List.map_map]
  refine List.map_congr_left fun j _ => ?_
  simp only [Function.comp, nrT]
  split <;> rfl
theorem nr_s : (nrK n n dc fc).map (·.super) = (nrZ n).map (·.super) := by
  unfold nrZ nrK
  rw [List.map_map, List.map_map]
  refine List.map_congr_left fun j _ => ?_
  simp only [Function.comp, nrT]
  split <;> rfl
theorem nr_i : (nrK n n dc fc).map (·.interfaces) = (nrZ n).map (·.interfaces) := by
  unfold nrZ nrK
  rw [List.map_map, List.map_map]
  refine List.map_congr_left fun j _ => ?_
  simp only [Function.comp, nrT]
  split <;> rfl
theorem nr_getC {k : Nat} (h : k < n) : (nrK n n dc fc)[2 * k]? = some (nrC n dc k) := by
  unfold nrK
  rw [List.getElem?_map, List.getElem?_range (by omega)]
  simp only [Option.map_some, nrT]
  rw [if_pos (by omega), show 2 * k / 2 = k by omega]
theorem nr_getI {k : Nat} (h : k < n) : (nrK n n dc fc)[2 * k + 1]? = some (nrI fc k) := by
  unfold nrK
  rw [List.getElem?_map, List.getElem?_range (by omega)]
  simp only [Option.map_some, nrT]
  rw [if_neg (by omega), show (2 * k + 1) / 2 = k by omega]
theorem nr_atC (hn : n < 11) {k : Nat} (h : k < n) : atO (nrK n n dc fc) (letterS k) = some (2 * k) := by rw [atO_congr nr_n]; exact (nrZ_at n hn k h).1
theorem nr_atI (hn : n < 11) {k : Nat} (h : k < n) : atO (nrK n n dc fc) (letterS (13 + k)) = some (2 * k + 1) := by rw [atO_congr nr_n]; exact (nrZ_at n hn k h).2
theorem nr_no (hn : n < 11) : ¬ there (nrK n n dc fc) ⟨#[]⟩ := by unfold there; rw [atO_congr nr_n, nrZ_no n hn]; simp
theorem nr_thC (hn : n < 11) {k : Nat} (h : k < n) : there (nrK n n dc fc) (letterS k) := by unfold there; rw [nr_atC hn h]; rfl
theorem nr_thI (hn : n < 11) {k : Nat} (h : k < n) : there (nrK n n dc fc) (letterS (13 + k)) := by unfold there; rw [nr_atI hn h]; rfl
theorem nr_chain (hn : n < 11) {k : Nat} (h : k < n) : chainL (nrK n n dc fc) (letterS k) = (List.range (n - k)).map fun i => letterS (k + i) := by rw [chainL_congr nr_n nr_s]; exact nrZ_chain n hn k h
theorem nr_all (hn : n < 11) {k : Nat} (h : k < n) : ∀ x ∈ allL (nrK n n dc fc) (letterS k), ∃ j, j < n ∧ x = letterS (13 + j) := by
  intro x hx
  rw [allL_congr nr_n nr_s nr_i] at hx
  have := nrZ_all n hn k h
  rw [List.all_eq_true] at this
  have := this x hx
  rw [List.any_eq_true] at this
  obtain ⟨j, hj, he⟩ := this
  exact ⟨j, List.mem_range.1 hj, by simpa using he⟩
theorem nr_met (hn : n < 11) {k : Nat} (h : k < n) : metL (nrK n n dc fc) (letterS k) = nmM (dc k) := metL_at (nr_atC hn h) (nr_getC h)
theorem nr_metI (hn : n < 11) {k : Nat} (h : k < n) : metL (nrK n n dc fc) (letterS (13 + k)) = [] := metL_at (nr_atI hn h) (nr_getI h)
theorem nr_fld (hn : n < 11) {k : Nat} (h : k < n) : fldL (nrK n n dc fc) (letterS k) = nfM (dc k) := fldL_at (nr_atC hn h) (nr_getC h)
theorem nr_fldI (hn : n < 11) {k : Nat} (h : k < n) : fldL (nrK n n dc fc) (letterS (13 + k)) = niM (fc k) := fldL_at (nr_atI hn h) (nr_getI h)
theorem nr_own (hn : n < 11) {k : Nat} (h : k < n) : ownF (nrK n n dc fc) (letterS k) mB dV = if dc k = true then some (letterS k, 0) else none := by
  unfold ownF
  cases hd : dc k with
  | true =>
    have h1 : metL (nrK n n dc fc) (letterS k) = [⟨1, mB, dV, true, 0⟩] := by rw [nr_met hn h, hd]; rfl
    rw [mth_at (i := 0) (m := ⟨1, mB, dV, true, 0⟩) (by rw [h1]; simp [memAt]) (by rw [h1]; rfl)]
    rfl
  | false =>
    have h1 : metL (nrK n n dc fc) (letterS k) = [] := by rw [nr_met hn h, hd]; rfl
    rw [mth_no (by rw [h1]; rfl)]
    rfl
theorem nr_rest (hn : n < 11) {k : Nat} (h : k < n) : (sglF (nrK n n dc fc) (letterS k) mB dV).or (fstF (nrK n n dc fc) (letterS k) mB dV) = none := by
  have hd : declL (nrK n n dc fc) (allL (nrK n n dc fc) (letterS k)) mB dV = [] := by
    unfold declL
    rw [List.filterMap_eq_nil_iff]
    intro x hx
    obtain ⟨j, hj, rfl⟩ := nr_all hn h x hx
    unfold declF
    rw [mth_no (by rw [nr_metI hn hj]; rfl)]
    rfl
  have hm : mostL (nrK n n dc fc) (letterS k) mB dV = [] := by unfold mostL; rw [hd]; rfl
  unfold sglF fstF
  rw [hm, hd]
  rfl
theorem nr_meth (hn : n < 11) {s : Nat} (hs : s < n) {o : Option FV} (h : chF (nrK n n dc fc) (letterS s) mB dV = o) : methR (nrK n n dc fc) (letterS s) mB dV = lookR o := by
  unfold methR clsF
  rw [h, nr_rest hn hs]
  rw [try_go (nr_atC hn hs) (by unfold faceT; rw [accT_at (nr_atC hn hs) (nr_getC hs)]; show (bits .and .i64 33 512 != 0) = false; decide)]
  cases o <;> rfl
theorem nr_ch_some (hn : n < 11) {s p : Nat} (hs : s ≤ p) (hp : p < n) (hd : dc p = true) (hno : ∀ i, s ≤ i → i < p → dc i = false) : chF (nrK n n dc fc) (letterS s) mB dV = some (letterS p, 0) := by
  unfold chF
  rw [nr_chain hn (by omega)]
  refine findSome_at (j := p - s) (x := letterS p) ?_ ?_ ?_
  · rw [List.getElem?_map, List.getElem?_range (by omega)]
    simp only [Option.map_some, Option.some.injEq]
    rw [show s + (p - s) = p by omega]
  · rw [nr_own hn hp, if_pos hd]
  · intro i z hi hz
    rw [List.getElem?_map, List.getElem?_range (by omega)] at hz
    simp only [Option.map_some, Option.some.injEq] at hz
    subst hz
    rw [nr_own hn (by omega), if_neg (by rw [hno _ (by omega) (by omega)]; decide)]
theorem nr_ch_none (hn : n < 11) {s : Nat} (hs : s < n) (hno : ∀ i, s ≤ i → i < n → dc i = false) : chF (nrK n n dc fc) (letterS s) mB dV = none := by
  unfold chF
  rw [nr_chain hn hs, List.findSome?_eq_none_iff]
  intro z hz
  obtain ⟨i, hi, rfl⟩ := List.mem_map.1 hz
  have := List.mem_range.1 hi
  rw [nr_own hn (by omega), if_neg (by rw [hno _ (by omega) (by omega)]; decide)]
/-- The nearest field, in so many steps. -/
def nearF (n : Nat) (dc fc : Nat → Bool) : Nat → Nat → Option FV
  | 0, _ => none
  | f + 1, i => if dc i = true then some (letterS i, 0) else if fc i = true then some (letterS (13 + i), 0) else nearF n dc fc f (i + 1)
def SeenTo (i : Nat) (seen : List ByteArray) : Prop := ∀ x ∈ seen, ∃ j, j < i ∧ (x = letterS j ∨ x = letterS (13 + j))
theorem seen_C {i : Nat} {seen : List ByteArray} (h : SeenTo i seen) (hi : i < 10) : letterS i ∉ seen := by
  intro hx
  obtain ⟨j, hj, h1 | h1⟩ := h _ hx
  · have := letter_ne i (by omega) j (by omega) h1; omega
  · have := letter_ne i (by omega) (13 + j) (by omega) h1; omega
theorem seen_I {i : Nat} {seen : List ByteArray} (h : SeenTo i seen) (hi : i < 10) : letterS (13 + i) ∉ seen ++ [letterS i] := by
  intro hx
  rcases List.mem_append.1 hx with hx | hx
  · obtain ⟨j, hj, h1 | h1⟩ := h _ hx
    · have := letter_ne (13 + i) (by omega) j (by omega) h1; omega
    · have := letter_ne (13 + i) (by omega) (13 + j) (by omega) h1; omega
  · have h1 : letterS (13 + i) = letterS i := by simpa using hx
    have := letter_ne (13 + i) (by omega) i (by omega) h1; omega
theorem nfM_at (b : Bool) : memAt (nfM b) mB iB = if b = true then some 0 else none := by cases b <;> rfl
theorem niM_at (b : Bool) : memAt (niM b) mB iB = if b = true then some 0 else none := by cases b <;> rfl
theorem nr_ov (hn : n < 11) : ∀ (m i f : Nat) (seen : List ByteArray), i + m = n → 0 < m → m + 2 ≤ f → SeenTo i seen → (ovF (nrK n n dc fc) mB iB f (letterS i) seen).1 = nearF n dc fc m i
  | 0, _, _, _, _, h, _, _ => by omega
  | m + 1, i, f, seen, hi, _, hf, hs => by
    obtain ⟨f, rfl⟩ : ∃ f', f = f' + 1 := ⟨f - 1, by omega⟩
    obtain ⟨f, rfl⟩ : ∃ f', f = f' + 1 := ⟨f - 1, by omega⟩
    have hin : i < n := by omega
    unfold nearF
    cases hd : dc i with
    | true =>
      rw [ovF_hit (i := 0) (nr_thC hn hin) (seen_C hs (by omega)) (by rw [nr_fld hn hin, nfM_at, hd]; rfl), if_pos rfl]
    | false =>
      rw [if_neg (by decide), ovF_on (nr_thC hn hin) (seen_C hs (by omega)) (by rw [nr_fld hn hin, nfM_at, hd]; rfl)]
      have hif : ifs (nrK n n dc fc) (letterS i) = [letterS (13 + i)] := ifs_at (nr_atC hn hin) (nr_getC hin)
      have hsu : supO (nrK n n dc fc) (letterS i) = supN n i := supO_at (nr_atC hn hin) (nr_getC hin)
      rw [hif, hsu]
      cases hc : fc i with
      | true =>
        have h1 : ovF (nrK n n dc fc) mB iB (f + 1) (letterS (13 + i)) (seen ++ [letterS i]) = (some (letterS (13 + i), 0), seen ++ [letterS i] ++ [letterS (13 + i)]) :=
          ovF_hit (i := 0) (nr_thI hn hin) (seen_I hs (by omega)) (by rw [nr_fldI hn hin, niM_at, hc]; rfl)
        rw [List.singleton_append, eachF, h1]
        rfl
      | false =>
        have h1 : ovF (nrK n n dc fc) mB iB (f + 1) (letterS (13 + i)) (seen ++ [letterS i]) = (none, seen ++ [letterS i] ++ [letterS (13 + i)]) := by
          rw [ovF_on (nr_thI hn hin) (seen_I hs (by omega)) (by rw [nr_fldI hn hin, niM_at, hc]; rfl)]
          have hif2 : ifs (nrK n n dc fc) (letterS (13 + i)) = [] := ifs_at (nr_atI hn hin) (nr_getI hin)
          have hsu2 : supO (nrK n n dc fc) (letterS (13 + i)) = ⟨#[]⟩ := supO_at (nr_atI hn hin) (nr_getI hin)
          rw [hif2, hsu2, List.nil_append, eachF, ovF_skip (.inl (nr_no hn))]
          rfl
        rw [List.singleton_append, eachF, h1, if_neg (by simp)]
        simp only
        rw [eachF]
        rw [if_neg (show ¬ (false = true) by decide)]
        by_cases hl : i + 1 < n
        · have hsn : supN n i = letterS (i + 1) := by unfold supN; rw [if_pos hl]
          have ih := nr_ov hn m (i + 1) (f + 1) (seen ++ [letterS i] ++ [letterS (13 + i)]) (by omega) (by omega) (by omega) (by
            intro x hx
            rcases List.mem_append.1 hx with hx | hx
            · rcases List.mem_append.1 hx with hx | hx
              · obtain ⟨j, hj, h2⟩ := hs x hx
                exact ⟨j, by omega, h2⟩
              · exact ⟨i, by omega, .inl (by simpa using hx)⟩
            · exact ⟨i, by omega, .inr (by simpa using hx)⟩)
          rw [hsn]
          generalize ovF (nrK n n dc fc) mB iB (f + 1) (letterS (i + 1)) (seen ++ [letterS i] ++ [letterS (13 + i)]) = r at ih ⊢
          obtain ⟨r1, r2⟩ := r
          simp only at ih
          subst ih
          cases nearF n dc fc m (i + 1) <;> rfl
        · have hsn : supN n i = ⟨#[]⟩ := by unfold supN; rw [if_neg hl]
          obtain rfl : m = 0 := by omega
          rw [hsn, ovF_skip (.inl (nr_no hn))]
          rfl
theorem nr_field (hn : n < 11) {s : Nat} (hs : s < n) : fieldL (nrK n n dc fc) (letterS s) mB iB = nearF n dc fc (n - s) s := by
  unfold fieldL
  refine nr_ov hn (n - s) s _ [] (by omega) (by omega) ?_ (by intro x hx; simp at hx)
  have : (nrK n n dc fc).length = 2 * n := by simp [nrK]
  omega
theorem nearF_succ (f i : Nat) : nearF n dc fc (f + 1) i = if dc i = true then some (letterS i, 0) else if fc i = true then some (letterS (13 + i), 0) else nearF n dc fc f (i + 1) := rfl
theorem nearF_skip : ∀ (m : Nat) {s p : Nat}, (∀ i, s ≤ i → i < p → dc i = false ∧ fc i = false) → s ≤ p → p - s ≤ m → nearF n dc fc m s = nearF n dc fc (m - (p - s)) p
  | 0, s, p, _, h1, h2 => by
    obtain rfl : s = p := by omega
    simp
  | m + 1, s, p, h, h1, h2 => by
    rcases Nat.lt_or_eq_of_le h1 with h3 | rfl
    · rw [nearF_succ]
      obtain ⟨a, b⟩ := h s (Nat.le_refl _) h3
      rw [if_neg (by rw [a]; decide), if_neg (by rw [b]; decide), nearF_skip m (s := s + 1) (p := p) (fun i h4 h5 => h i (by omega) h5) (by omega) (by omega)]
      have e : m - (p - (s + 1)) = m + 1 - (p - s) := by omega
      rw [e]
    · simp
end
end Go.Proofs.Ytccbdnlknijcbaa
