/-
  Chapter 13's law ChooseNear: plain.
-/
import Derived.Test.YteblpdcedlaedaaChP
import Derived.Test.YteblpdcedlaedaaChC
namespace Go.Proofs.Yteblpdcedlaedaa
open Go.RowKit
set_option maxRecDepth 100000

section
variable {D D' : List TD}
theorem ifs_congr (hn : D.map (·.name) = D'.map (·.name)) (hi : D.map (·.interfaces) = D'.map (·.interfaces)) (s : ByteArray) : ifs D s = ifs D' s := by
  unfold ifs
  rw [atO_congr hn s]
  cases atO D' s with
  | none => rfl
  | some k =>
    have h : (D[k]?.map (·.interfaces)) = (D'[k]?.map (·.interfaces)) := by rw [← List.getElem?_map, ← List.getElem?_map, hi]
    simp only [h]
theorem there_congr (hn : D.map (·.name) = D'.map (·.name)) (s : ByteArray) : there D s ↔ there D' s := by unfold there; rw [atO_congr hn s]
theorem ovr_congr (hn : D.map (·.name) = D'.map (·.name)) (hi : D.map (·.interfaces) = D'.map (·.interfaces)) : ∀ (f : Nat) (s : ByteArray) (busy out : List ByteArray), ovr D f s busy out = ovr D' f s busy out
  | 0, _, _, _ => by unfold ovr; rfl
  | f + 1, s, busy, out => by
    rw [ovr_succ, ovr_succ, ifs_congr hn hi]
    refine congrArg (fun g => List.foldl g out (ifs D' s)) ?_
    funext o x
    unfold stp
    simp only [there_congr hn x, ovr_congr hn hi f]
theorem allL_congr (hn : D.map (·.name) = D'.map (·.name)) (hs : D.map (·.super) = D'.map (·.super)) (hi : D.map (·.interfaces) = D'.map (·.interfaces)) (s : ByteArray) : allL D s = allL D' s := by
  have hl : D.length = D'.length := by have := congrArg List.length hn; simpa using this
  have ha : ∀ c, aboveL D c = aboveL D' c := fun c => by unfold aboveL; rw [hl, ovr_congr hn hi]
  rw [allL_eq, allL_eq, chainL_congr hn hs]
  simp only [ha]
end
def sI : ByteArray := ⟨#[73]⟩
def memI_ : MemberV := ⟨1025, mB, dV, false, 0⟩
def iD : TD := ⟨sI, ⟨#[]⟩, 1537, [], [], [memI_]⟩
def nearD (n : Nat) (M : Nat → List MemberV) : List TD := [iD] ++ rowK n n 33 [sI] M
def nearZ (n : Nat) : List TD := nearD n fun _ => []
theorem nearZ_chain : ∀ n < 11, ∀ k < n, chainL (nearZ n) (letterS k) = (List.range (n - k)).map fun i => letterS (k + i) := by decide +kernel
theorem nearZ_at : ∀ n < 11, ∀ k < n, atO (nearZ n) (letterS k) = some (k + 1) := by decide +kernel
theorem nearZ_all : ∀ n < 11, ∀ k < n, allL (nearZ n) (letterS k) = [sI] := by decide +kernel
def accK (k : Nat) : Int := match k with
  | 1 => 1
  | 2 => 2
  | 3 => 9
  | 4 => 1025
  | 5 => 0
  | _ => -1
def metK (k : Nat) : List MemberV := if k = 0 then [] else [⟨accK k, mB, dV, accK k != 1025, 0⟩]
section
variable {n : Nat} {M : Nat → List MemberV}
theorem near_n : (nearD n M).map (·.name) = (nearZ n).map (·.name) := by simp [nearD, nearZ, rowK, clsD, Function.comp_def]
theorem near_s : (nearD n M).map (·.super) = (nearZ n).map (·.super) := by simp [nearD, nearZ, rowK, clsD, Function.comp_def]
theorem near_i : (nearD n M).map (·.interfaces) = (nearZ n).map (·.interfaces) := by simp [nearD, nearZ, rowK, clsD, Function.comp_def]
theorem near_get {k : Nat} (h : k < n) : (nearD n M)[k + 1]? = some (clsD n 33 [sI] M k) := by simp [nearD, rowK, h]
theorem near_at (hn : n < 11) {k : Nat} (h : k < n) : atO (nearD n M) (letterS k) = some (k + 1) := by rw [atO_congr near_n]; exact nearZ_at n hn k h
theorem near_chain (hn : n < 11) {k : Nat} (h : k < n) : chainL (nearD n M) (letterS k) = (List.range (n - k)).map fun i => letterS (k + i) := by rw [chainL_congr near_n near_s]; exact nearZ_chain n hn k h
theorem near_all (hn : n < 11) {k : Nat} (h : k < n) : allL (nearD n M) (letterS k) = [sI] := by rw [allL_congr near_n near_s near_i]; exact nearZ_all n hn k h
theorem near_met (hn : n < 11) {k : Nat} (h : k < n) : metL (nearD n M) (letterS k) = M k := metL_at (near_at hn h) (near_get h)
theorem near_iat : atO (nearD n M) sI = some 0 := by simp [nearD, atO, iD]
theorem near_imet : metL (nearD n M) sI = [memI_] := metL_at near_iat (t := iD) (by simp [nearD])
end
theorem near_frsF {n : Nat} {kd : Nat → Nat} {tk : Int → Bool} (hn : n < 11) {k : Nat} (h : k < n) : frsF (nearD n fun i => metK (kd i)) mB dV tk (letterS k) = if kd k ≠ 0 ∧ tk (accK (kd k)) = true then some (letterS k, 0) else none := by
  have hm : metL (nearD n fun i => metK (kd i)) (letterS k) = metK (kd k) := near_met hn h
  by_cases h0 : kd k = 0
  · have h1 : metK (kd k) = [] := by unfold metK; rw [if_pos h0]
    rw [frs_no (by rw [hm, h1]; rfl), if_neg (fun e => e.1 h0)]
  · have h1 : metK (kd k) = [⟨accK (kd k), mB, dV, accK (kd k) != 1025, 0⟩] := by unfold metK; rw [if_neg h0]
    rw [frs_at (i := 0) (m := ⟨accK (kd k), mB, dV, accK (kd k) != 1025, 0⟩) (by rw [hm, h1]; simp [memAt]) (by rw [hm, h1]; rfl)]
    by_cases ht : tk (accK (kd k)) = true
    · rw [if_pos ht, if_pos ⟨h0, ht⟩]
    · rw [if_neg ht, if_neg fun e => ht e.2]
theorem near_some {n : Nat} {kd : Nat → Nat} {tk : Int → Bool} (hn : n < 11) {s p : Nat} (hs : s ≤ p) (hp : p < n) (hd : kd p ≠ 0 ∧ tk (accK (kd p)) = true) (hno : ∀ i, s ≤ i → i < p → ¬ (kd i ≠ 0 ∧ tk (accK (kd i)) = true)) :
    frsL (nearD n fun i => metK (kd i)) (chainL (nearD n fun i => metK (kd i)) (letterS s)) mB dV tk = some (letterS p, 0) := by
  unfold frsL
  rw [near_chain hn (by omega)]
  refine findSome_at (j := p - s) (x := letterS p) ?_ ?_ ?_
  · rw [List.getElem?_map, List.getElem?_range (by omega)]
    simp only [Option.map_some, Option.some.injEq]
    rw [show s + (p - s) = p by omega]
  · rw [near_frsF hn hp, if_pos hd]
  · intro i z hi hz
    rw [List.getElem?_map, List.getElem?_range (by omega)] at hz
    simp only [Option.map_some, Option.some.injEq] at hz
    subst hz
    rw [near_frsF hn (by omega), if_neg (hno _ (by omega) (by omega))]
theorem near_none {n : Nat} {kd : Nat → Nat} {tk : Int → Bool} (hn : n < 11) {s : Nat} (hs : s < n) (hno : ∀ i, s ≤ i → i < n → ¬ (kd i ≠ 0 ∧ tk (accK (kd i)) = true)) :
    frsL (nearD n fun i => metK (kd i)) (chainL (nearD n fun i => metK (kd i)) (letterS s)) mB dV tk = none := by
  unfold frsL
  rw [near_chain hn hs, List.findSome?_eq_none_iff]
  intro z hz
  obtain ⟨i, hi, rfl⟩ := List.mem_map.1 hz
  have := List.mem_range.1 hi
  rw [near_frsF hn (by omega), if_neg (hno _ (by omega) (by omega))]
theorem near_on {n : Nat} {M : Nat → List MemberV} (hn : n < 11) {s : Nat} (hs : s < n) : onR (nearD n M) (letterS s) mB dV = (gz, abB) := by
  have hr : realM (nearD n M) (mostL (nearD n M) (letterS s) mB dV) = [] := by
    unfold realM
    rw [List.filter_eq_nil_iff]
    intro f hf
    unfold mostL at hf
    have hf := (List.mem_filter.1 hf).1
    unfold declL at hf
    obtain ⟨c, hc, hd⟩ := List.mem_filterMap.1 hf
    rw [near_all hn hs] at hc
    obtain rfl : c = sI := by simpa using hc
    unfold declF at hd
    have hm : mth (nearD n M) sI mB dV = some (0, 1025) := mth_at (m := memI_) (by rw [near_imet]; simp [memAt, memI_]) (by rw [near_imet]; rfl)
    rw [hm] at hd
    simp only [Option.bind_some] at hd
    rw [if_pos (by decide)] at hd
    obtain rfl : (sI, 0) = f := by simpa using hd
    have ha : accM (nearD n M) (sI, 0) = 1025 := by unfold accM; rw [near_imet]; rfl
    rw [ha]
    decide
  unfold onR
  rw [hr]
  rfl
/-- Who is chosen by a test of flags, from a class on. -/
def outV (k p : Nat) : GR := if k = 4 then (gz, abB) else ((letterS p, 0), ⟨#[]⟩)
def outF (k p : Nat) : GR := if k = 4 then (gz, abB) else if k = 1 then ((letterS p, 0), ⟨#[]⟩) else (gz, acB)
theorem near_told {n : Nat} {kd : Nat → Nat} (hn : n < 11) {p : Nat} (hp : p < n) (h0 : kd p ≠ 0) : accO (nearD n fun i => metK (kd i)) (letterS p) 0 = accK (kd p) := by
  have h1 := accO_M (nearD n fun i => metK (kd i)) (letterS p, 0)
  rw [show (((letterS p, 0) : FV).2 : Int) = 0 from rfl] at h1
  rw [h1]
  unfold accM
  rw [near_met hn hp]
  show (((metK (kd p))[0]?.map (·.access)).getD 0) = _
  unfold metK
  rw [if_neg h0]
  rfl
theorem near_ask {n : Nat} {M : Nat → List MemberV} : memO (nearD n M) sI 0 = some memI_ := by
  unfold memO
  rw [if_pos (by decide), near_imet]
  rfl
theorem near_th {n : Nat} {M : Nat → List MemberV} (hn : n < 11) {s : Nat} (hs : s < n) : there (nearD n M) (letterS s) := by unfold there; rw [near_at hn hs]; rfl
theorem near_virt {n : Nat} {kd : Nat → Nat} (hn : n < 11) {s p : Nat} (hs : s ≤ p) (hp : p < n) (hk : kd p < 6) (hd : kd p = 1 ∨ kd p = 4 ∨ kd p = 5) (hno : ∀ i, s ≤ i → i < p → kd i = 0 ∨ kd i = 2 ∨ kd i = 3) :
    virtR (nearD n fun i => metK (kd i)) (letterS s) sI 0 = outV (kd p) p := by
  unfold virtR
  rw [if_pos (near_th hn (by omega)), near_ask]
  show (if bits .and .i64 1025 2 = 0 then (match frsL _ (chainL _ (letterS s)) mB dV tkS with | some g => toldR _ g.1 (g.2 : Nat) | none => onR _ (letterS s) mB dV) else _) = _
  rw [if_pos (by decide), near_some hn hs hp (by rcases hd with h | h | h <;> rw [h] <;> decide) (fun i h1 h2 => by rcases hno i h1 h2 with h | h | h <;> rw [h] <;> decide)]
  show toldR _ (letterS p) ((0 : Nat) : Int) = _
  unfold toldR
  rw [show ((0 : Nat) : Int) = 0 from rfl, near_told hn hp (by omega)]
  unfold outV
  rcases hd with h | h | h <;> rw [h]
  · rw [if_pos (by decide), if_neg (by decide)]
  · rw [if_neg (by decide), if_pos (by decide)]
  · rw [if_pos (by decide), if_neg (by decide)]
theorem near_virt0 {n : Nat} {kd : Nat → Nat} (hn : n < 11) {s : Nat} (hs : s < n) (hno : ∀ i, s ≤ i → i < n → kd i = 0 ∨ kd i = 2 ∨ kd i = 3) :
    virtR (nearD n fun i => metK (kd i)) (letterS s) sI 0 = (gz, abB) := by
  unfold virtR
  rw [if_pos (near_th hn hs), near_ask]
  show (if bits .and .i64 1025 2 = 0 then (match frsL _ (chainL _ (letterS s)) mB dV tkS with | some g => toldR _ g.1 (g.2 : Nat) | none => onR _ (letterS s) mB dV) else _) = _
  rw [if_pos (by decide), near_none hn hs (fun i h1 h2 => by rcases hno i h1 h2 with h | h | h <;> rw [h] <;> decide)]
  exact near_on hn hs
theorem near_sub {n : Nat} {M : Nat → List MemberV} (hn : n < 11) {s : Nat} (hs : s < n) : subB (nearD n M) (letterS s) sI := by
  unfold subB
  right
  rw [near_all hn hs]
  simp
theorem near_iface {n : Nat} {kd : Nat → Nat} (hn : n < 11) {s p : Nat} (hs : s ≤ p) (hp : p < n) (hk : kd p < 6) (hd : kd p = 1 ∨ kd p = 2 ∨ kd p = 4 ∨ kd p = 5) (hno : ∀ i, s ≤ i → i < p → kd i = 0 ∨ kd i = 3) :
    ifaceR (nearD n fun i => metK (kd i)) (letterS s) sI 0 = outF (kd p) p := by
  unfold ifaceR
  rw [if_pos (near_th hn (by omega)), near_ask]
  show (if subB _ (letterS s) sI then (match frsL _ (chainL _ (letterS s)) mB dV tkI with | some g => if bits .and .i64 (accO _ g.1 (g.2 : Nat)) 1 = 0 then (gz, acB) else toldR _ g.1 (g.2 : Nat) | none => onR _ (letterS s) mB dV) else _) = _
  rw [if_pos (near_sub hn (by omega)), near_some hn hs hp (by rcases hd with h | h | h | h <;> rw [h] <;> decide) (fun i h1 h2 => by rcases hno i h1 h2 with h | h <;> rw [h] <;> decide)]
  show (if bits .and .i64 (accO _ (letterS p) ((0 : Nat) : Int)) 1 = 0 then (gz, acB) else toldR _ (letterS p) ((0 : Nat) : Int)) = _
  unfold toldR
  rw [show ((0 : Nat) : Int) = 0 from rfl, near_told hn hp (by omega)]
  unfold outF
  rcases hd with h | h | h | h <;> rw [h]
  · rw [if_neg (by decide), if_pos (by decide), if_neg (by decide), if_pos (by decide)]
  · rw [if_pos (by decide), if_neg (by decide), if_neg (by decide)]
  · rw [if_neg (by decide), if_neg (by decide), if_pos (by decide)]
  · rw [if_pos (by decide), if_neg (by decide), if_neg (by decide)]
theorem near_iface0 {n : Nat} {kd : Nat → Nat} (hn : n < 11) {s : Nat} (hs : s < n) (hno : ∀ i, s ≤ i → i < n → kd i = 0 ∨ kd i = 3) :
    ifaceR (nearD n fun i => metK (kd i)) (letterS s) sI 0 = (gz, abB) := by
  unfold ifaceR
  rw [if_pos (near_th hn hs), near_ask]
  show (if subB _ (letterS s) sI then (match frsL _ (chainL _ (letterS s)) mB dV tkI with | some g => if bits .and .i64 (accO _ g.1 (g.2 : Nat)) 1 = 0 then (gz, acB) else toldR _ g.1 (g.2 : Nat) | none => onR _ (letterS s) mB dV) else _) = _
  rw [if_pos (near_sub hn hs), near_none hn hs (fun i h1 h2 => by rcases hno i h1 h2 with h | h <;> rw [h] <;> decide)]
  exact near_on hn hs
end Go.Proofs.Yteblpdcedlaedaa
