/-
  Chapter 12's law FindSpecific: plain.
-/
import Derived.Test.YtccbdnlknijcbaaFn0
namespace Go.Proofs.Ytccbdnlknijcbaa
open Go.RowKit
set_option maxRecDepth 100000

def sUp : ByteArray := ⟨#[83]⟩
def fsM (b a : Bool) : List MemberV := if b = true then [⟨if a = true then 1025 else 1, mB, dV, !a, 0⟩] else []
def fsI (n i : Nat) : List ByteArray := if i + 1 < n then [letterS (i + 1)] else []
def fsT (n : Nat) (dc ac : Nat → Bool) (i : Nat) : TD := ⟨letterS i, ⟨#[]⟩, 1537, fsI n i, [], fsM (dc i) (ac i)⟩
def fsS : TD := ⟨sUp, ⟨#[]⟩, 33, [letterS 0], [], []⟩
/-- The class, and the first k interfaces. -/
def fsK (n k : Nat) (dc ac : Nat → Bool) : List TD := fsS :: (List.range k).map (fsT n dc ac)
def fsZ (n : Nat) : List TD := fsK n n (fun _ => false) (fun _ => false)
theorem fsK_next (n k : Nat) (dc ac : Nat → Bool) : fsK n (k + 1) dc ac = fsK n k dc ac ++ [fsT n dc ac k] := by
  unfold fsK
  rw [List.range_succ, List.map_append]
  rfl
theorem fsZ_at : ∀ n < 11, ∀ k < n, atO (fsZ n) (letterS k) = some (k + 1) := by decide +kernel
theorem fsZ_S : ∀ n < 11, atO (fsZ n) sUp = some 0 ∧ chainL (fsZ n) sUp = [sUp] := by decide +kernel
theorem fsZ_all : ∀ n < 11, 1 ≤ n → allL (fsZ n) sUp = (List.range n).reverse.map letterS := by decide +kernel
theorem fsZ_sub : ∀ n < 11, ∀ i < n, ∀ j < n, subB (fsZ n) (letterS i) (letterS j) ↔ i ≤ j := by decide +kernel
theorem one_of : ∀ n < 11, ∀ p < n, (List.range n).reverse.filter (fun i => decide (i = p)) = [p] := by decide +kernel
theorem fm_if {α β : Type} (c : α → Bool) (g : α → β) : ∀ l : List α, (l.filterMap fun i => if c i = true then some (g i) else none) = (l.filter c).map g
  | [] => rfl
  | x :: l => by
    cases h : c x with
    | true => rw [List.filterMap_cons, List.filter_cons]; simp only [h, if_true]; rw [fm_if c g l]; rfl
    | false => rw [List.filterMap_cons, List.filter_cons]; simp only [h, Bool.false_eq_true, if_false]; exact fm_if c g l
theorem fm_congr {α β : Type} {f g : α → Option β} : ∀ {l : List α}, (∀ x ∈ l, f x = g x) → l.filterMap f = l.filterMap g
  | [], _ => rfl
  | x :: l, h => by rw [List.filterMap_cons, List.filterMap_cons, h x (List.mem_cons_self ..), fm_congr fun y hy => h y (List.mem_cons_of_mem _ hy)]
theorem last_of {dc : Nat → Bool} {q : Nat} (hd : dc q = true) : ∀ n, q < n → (∀ i, q < i → i < n → dc i = false) → ((List.range n).reverse.filter dc).head? = some q
  | 0, h, _ => by omega
  | n + 1, h, hno => by
    rw [List.range_succ, List.reverse_append, List.reverse_singleton, List.singleton_append, List.filter_cons]
    rcases Nat.lt_or_eq_of_le (Nat.le_of_lt_succ h) with h1 | rfl
    · rw [hno n h1 (by omega), if_neg (by decide)]
      exact last_of hd n h1 fun i h2 h3 => hno i h2 (by omega)
    · rw [hd, if_pos rfl]
      rfl
section
variable {n : Nat} {dc ac : Nat → Bool}
theorem fs_n : (fsK n n dc ac).map (·.name) = (fsZ n).map (·.name) := by
  unfold fsZ fsK
  rw [List.map_cons, List.map_cons, List.map_map, List.map_map]
  rfl
theorem fs_s : (fsK n n dc ac).map (·.super) = (fsZ n).map (·.super) := by
  unfold fsZ fsK
  rw [List.map_cons, List.map_cons, List.map_map, List.map_map]
  rfl
theorem fs_i : (fsK n n dc ac).map (·.interfaces) = (fsZ n).map (·.interfaces) := by
  unfold fsZ fsK
  rw [List.map_cons, List.map_cons, List.map_map, List.map_map]
  rfl
theorem fs_get {k : Nat} (h : k < n) : (fsK n n dc ac)[k + 1]? = some (fsT n dc ac k) := by
  unfold fsK
  rw [List.getElem?_cons_succ, List.getElem?_map, List.getElem?_range h]
  rfl
theorem fs_at (hn : n < 11) {k : Nat} (h : k < n) : atO (fsK n n dc ac) (letterS k) = some (k + 1) := by rw [atO_congr fs_n]; exact fsZ_at n hn k h
theorem fs_atS (hn : n < 11) : atO (fsK n n dc ac) sUp = some 0 := by rw [atO_congr fs_n]; exact (fsZ_S n hn).1
theorem fs_chain (hn : n < 11) : chainL (fsK n n dc ac) sUp = [sUp] := by rw [chainL_congr fs_n fs_s]; exact (fsZ_S n hn).2
theorem fs_all (hn : n < 11) (h1 : 1 ≤ n) : allL (fsK n n dc ac) sUp = (List.range n).reverse.map letterS := by rw [allL_congr fs_n fs_s fs_i]; exact fsZ_all n hn h1
theorem fs_sub (hn : n < 11) {i j : Nat} (hi : i < n) (hj : j < n) : subB (fsK n n dc ac) (letterS i) (letterS j) ↔ i ≤ j := by
  have h := fsZ_sub n hn i hi j hj
  unfold subB at h ⊢
  rw [chainL_congr fs_n fs_s, allL_congr fs_n fs_s fs_i]
  exact h
theorem fs_met (hn : n < 11) {k : Nat} (h : k < n) : metL (fsK n n dc ac) (letterS k) = fsM (dc k) (ac k) := metL_at (fs_at hn h) (fs_get h)
theorem fs_mth (hn : n < 11) {k : Nat} (h : k < n) : mth (fsK n n dc ac) (letterS k) mB dV = if dc k = true then some (0, if ac k = true then 1025 else 1) else none := by
  cases hd : dc k with
  | true =>
    have h1 : metL (fsK n n dc ac) (letterS k) = [⟨if ac k = true then 1025 else 1, mB, dV, !(ac k), 0⟩] := by rw [fs_met hn h, hd]; rfl
    rw [mth_at (i := 0) (m := ⟨if ac k = true then 1025 else 1, mB, dV, !(ac k), 0⟩) (by rw [h1]; simp [memAt]) (by rw [h1]; rfl)]
    rfl
  | false =>
    have h1 : metL (fsK n n dc ac) (letterS k) = [] := by rw [fs_met hn h, hd]; rfl
    rw [mth_no (by rw [h1]; rfl)]
    rfl
def gF (i : Nat) : FV := (letterS i, 0)
theorem fs_declF (hn : n < 11) {k : Nat} (h : k < n) : declF (fsK n n dc ac) mB dV (letterS k) = if dc k = true then some (gF k) else none := by
  unfold declF
  rw [fs_mth hn h]
  cases dc k with
  | false => rfl
  | true => cases ac k <;> rfl
theorem fs_decl (hn : n < 11) (h1 : 1 ≤ n) : declL (fsK n n dc ac) (allL (fsK n n dc ac) sUp) mB dV = ((List.range n).reverse.filter dc).map gF := by
  unfold declL
  rw [fs_all hn h1, List.filterMap_map, ← fm_if dc gF]
  refine fm_congr fun i hi => ?_
  have hi : i < n := by simpa using hi
  show declF (fsK n n dc ac) mB dV (letterS i) = _
  exact fs_declF hn hi
theorem fs_ch (hn : n < 11) : chF (fsK n n dc ac) sUp mB dV = none := by
  unfold chF
  rw [fs_chain hn]
  have h1 : metL (fsK n n dc ac) sUp = [] := metL_at (fs_atS hn) (t := fsS) rfl
  have h2 : ownF (fsK n n dc ac) sUp mB dV = none := by unfold ownF; rw [mth_no (by rw [h1]; rfl)]; rfl
  rw [List.findSome?_cons, h2]
  rfl
theorem fs_meth (hn : n < 11) : methR (fsK n n dc ac) sUp mB dV = lookR ((sglF (fsK n n dc ac) sUp mB dV).or (fstF (fsK n n dc ac) sUp mB dV)) := by
  unfold methR clsF
  rw [fs_ch hn, try_go (fs_atS hn) (by unfold faceT; rw [accT_at (fs_atS hn) (t := fsS) rfl]; show (bits .and .i64 33 512 != 0) = false; decide)]
  rfl
theorem fs_none (hn : n < 11) (h1 : 1 ≤ n) (hno : ∀ i, i < n → dc i = false) : mostL (fsK n n dc ac) sUp mB dV = [] ∧ methR (fsK n n dc ac) sUp mB dV = (f0, nmB) := by
  have hd : declL (fsK n n dc ac) (allL (fsK n n dc ac) sUp) mB dV = [] := by
    rw [fs_decl hn h1, List.filter_eq_nil_iff.2]
    · rfl
    · intro i hi
      have hi : i < n := by simpa using hi
      rw [hno i hi]
      decide
  have hm : mostL (fsK n n dc ac) sUp mB dV = [] := by unfold mostL; rw [hd]; rfl
  refine ⟨hm, ?_⟩
  rw [fs_meth hn]
  unfold sglF fstF
  rw [hm, hd]
  rfl
theorem gF_ne {i j : Nat} (hi : i < 26) (hj : j < 26) (h : gF i = gF j) : i = j := letter_ne i hi j hj (congrArg Prod.fst h)
theorem fs_most (hn : n < 11) {p : Nat} (hp : p < n) (hd : dc p = true) (hno : ∀ i, i < p → dc i = false) : mostL (fsK n n dc ac) sUp mB dV = [gF p] := by
  unfold mostL
  rw [fs_decl hn (by omega), List.filter_map, List.filter_filter]
  rw [← List.map_singleton (f := gF), ← one_of n hn p hp]
  refine congrArg (List.map gF) (List.filter_congr fun i hi => ?_)
  have hi : i < n := by simpa using hi
  show (best (fsK n n dc ac) (((List.range n).reverse.filter dc).map gF) (gF i) && dc i) = decide (i = p)
  by_cases he : i = p
  · subst he
    rw [hd, Bool.and_true, decide_eq_true rfl]
    unfold best
    rw [Bool.not_eq_true', List.any_eq_false]
    intro g hg
    obtain ⟨j, hj, rfl⟩ := List.mem_map.1 hg
    obtain ⟨hj1, hj2⟩ := List.mem_filter.1 hj
    have hj1 : j < n := by simpa using hj1
    have hij : i ≤ j := Nat.le_of_not_lt fun h => by rw [hno j h] at hj2; cases hj2
    unfold under
    intro h
    simp only [Bool.and_eq_true, decide_eq_true_eq] at h
    have h2 : j ≤ i := (fs_sub hn hj1 hi).1 h.2
    exact h.1 (by rw [show i = j by omega])
  · rw [decide_eq_false he]
    cases hdi : dc i with
    | false => rw [Bool.and_false]
    | true =>
      rw [Bool.and_true]
      have hpi : p < i := by
        rcases Nat.lt_or_ge i p with h | h
        · rw [hno i h] at hdi; cases hdi
        · omega
      unfold best
      rw [Bool.not_eq_false', List.any_eq_true]
      refine ⟨gF p, List.mem_map.2 ⟨p, List.mem_filter.2 ⟨by simpa using hp, hd⟩, rfl⟩, ?_⟩
      unfold under
      simp only [Bool.and_eq_true, decide_eq_true_eq]
      exact ⟨fun h => he (gF_ne (by omega) (by omega) h), (fs_sub hn hp hi).2 (by omega)⟩
theorem fs_some (hn : n < 11) {p q : Nat} (hp : p < n) (hd : dc p = true) (hno : ∀ i, i < p → dc i = false) (hq : q < n) (hdq : dc q = true) (hnq : ∀ i, q < i → i < n → dc i = false) :
    methR (fsK n n dc ac) sUp mB dV = (gF (if ac p = true then q else p), ⟨#[]⟩) := by
  rw [fs_meth hn]
  have hr : realL (fsK n n dc ac) mB dV [gF p] = if ac p = true then [] else [gF p] := by
    unfold realL
    rw [List.filter_cons]
    have : realB (fsK n n dc ac) mB dV (gF p) = !(ac p) := by
      unfold realB accF
      show decide (bits .and .i64 (((mth (fsK n n dc ac) (letterS p) mB dV).map (·.2)).getD 0) 1024 = 0) = _
      rw [fs_mth hn hp, hd]
      cases ac p <;> decide
    rw [this]
    cases ac p <;> rfl
  have hf : fstF (fsK n n dc ac) sUp mB dV = some (gF q) := by
    unfold fstF
    rw [fs_decl hn (by omega), List.head?_map, last_of hdq n hq hnq]
    rfl
  unfold sglF
  rw [fs_most hn hp hd hno, hr, hf]
  cases ac p <;> rfl
end
end Go.Proofs.Ytccbdnlknijcbaa
