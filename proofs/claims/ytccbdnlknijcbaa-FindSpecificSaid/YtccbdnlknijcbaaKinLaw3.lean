/-
  Chapter 9's law KinLaws, walked; the lists' helpers.
-/
import Derived.Test.YtccbdnlknijcbaaKinLaw
import Derived.Deep.RegionHeld2
import Derived.Deep.CutBlock
namespace Go.Proofs.Ytccbdnlknijcbaa
open Go.RowKit
set_option maxRecDepth 100000

def timesL (l : List ByteArray) (s : ByteArray) : Nat := (l.filter fun x => decide (x = s)).length
theorem timesL_none {l : List ByteArray} {s : ByteArray} (h : s ∉ l) : timesL l s = 0 := by
  unfold timesL
  rw [List.filter_eq_nil_iff.2 (fun a ha => by simp; intro e; exact h (e ▸ ha))]
  rfl
theorem timesL_one : ∀ {l : List ByteArray} {s : ByteArray}, l.Nodup → s ∈ l → timesL l s = 1
  | [], s, _, h => by simp at h
  | a :: l, s, hn, h => by
    obtain ⟨h1, h2⟩ := List.nodup_cons.1 hn
    by_cases e : a = s
    · subst e
      have := timesL_none h1
      unfold timesL at this ⊢
      simp [this]
    · have hm : s ∈ l := by
        rcases List.mem_cons.1 h with h | h
        · exact absurd h.symm e
        · exact h
      have := timesL_one h2 hm
      unfold timesL at this ⊢
      simp [e, this]
theorem timesL_snoc (l : List ByteArray) (s x : ByteArray) : timesL (l ++ [x]) s = timesL l s + if x = s then 1 else 0 := by
  unfold timesL
  by_cases e : x = s <;> simp [e]

theorem above_not_self (D : List TD) (c : ByteArray) : c ∉ aboveL D c := by
  cases h : atO D c with
  | none => rw [aboveL_no h]; simp
  | some k => exact (ovr_good (f := D.length) (s := c) (good_root (by unfold there; rw [h]; rfl))).dis c (by simp)
theorem chain_head {D : List TD} {s : ByteArray} (h : there D s) : s ∈ chainL D s := by
  unfold there at h
  obtain ⟨k, hk⟩ := Option.isSome_iff_exists.1 h
  obtain ⟨t, ht, -, -⟩ := atO_some hk
  unfold chainL
  rw [chainR_step (f := D.length) hk ht (by simp)]
  exact chainR_pre.subset (by simp)
theorem sub_self (D : List TD) (s : ByteArray) : decide (subB D s s) = decide (there D s) := by
  by_cases h : there D s
  · rw [decide_eq_true h]
    exact subB_chain (chain_head h)
  · rw [decide_eq_false h]
    exact decide_eq_false (subB_no h)
theorem at_ge (D : List TD) (s : ByteArray) : decide ((0 : Int) ≤ atI D s) = decide (there D s) := by
  cases h : atO D s with
  | none => simp [atI, there, h]
  | some k => simp [atI, there, h]
theorem chain_pos (D : List TD) (s : ByteArray) : decide (0 < (chainL D s).length) = decide (there D s) := by
  by_cases h : there D s
  · rw [decide_eq_true h]
    exact decide_eq_true (List.length_pos_of_mem (chain_head h))
  · rw [decide_eq_false h, chainL_no h]
    rfl

end Go.Proofs.Ytccbdnlknijcbaa
