/-
  Chapter 9's law KinChain: the list so far.
-/
import Derived.Test.YtjljfadfepidjaaLetter
import Derived.Test.YtjljfadfepidjaaLent
namespace Go.Proofs.Ytjljfadfepidjaa
open Go.RowKit
set_option maxRecDepth 100000

/-- A type whose interfaces, if any, are one name in a block of its own. -/
def RowT (W : World) (y : TypeV) : Prop :=
  ∃ (nm sp : ByteArray) (acc : Int), nm.size ≤ maxLen ∧ sp.size ≤ maxLen ∧ (acc = 33 ∨ acc = 1537) ∧
    (y = bare nm sp acc (.slice none 0 0) [] ∨ ∃ h s, s.size ≤ maxLen ∧ y = bare nm sp acc (.slice (some ⟨h, 0, none⟩) 1 1) [s] ∧ Blk W h 9 #[.string s])
theorem RowT.ok {W : World} {y : TypeV} (h : RowT W y) : y.Ok W := by
  obtain ⟨nm, sp, acc, h1, h2, h3, h4⟩ := h
  have ha : -9223372036854775808 ≤ acc ∧ acc ≤ 9223372036854775807 := by rcases h3 with rfl | rfl <;> decide
  rcases h4 with rfl | ⟨h, s, hs, rfl, hb⟩
  · exact bare_ok h1 h2 ha Rd.nil (by simp) (by simp)
  · exact bare_ok h1 h2 ha (Rd.mk_ (by rfl) (by omega) (by decide) fun j u hu => by rw [Nat.zero_add, hb.cell j]; simpa [encS] using hu) (by intro z hz; simp at hz; subst hz; exact hs) (by simp)
theorem RowT.touch {w W : World} {y : TypeV} {S : Nat → Prop} (h : RowT w y) (ht : Touch S w W) (hs : ∀ k, S k → k < w.heap.size → TyAt w k 43) : RowT W y := by
  obtain ⟨nm, sp, acc, h1, h2, h3, h4⟩ := h
  refine ⟨nm, sp, acc, h1, h2, h3, ?_⟩
  rcases h4 with rfl | ⟨h, s, hz, rfl, hb⟩
  · exact .inl rfl
  · exact .inr ⟨h, s, hz, rfl, hb.touch ht fun e => TyAt.ne ⟨_, hb⟩ (hs h e hb.lt) (by decide) rfl⟩
end Go.Proofs.Ytjljfadfepidjaa
