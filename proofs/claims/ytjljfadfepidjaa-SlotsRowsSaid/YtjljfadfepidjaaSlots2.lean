/-
  Chapter 11: Statics by both sides, sameValues, Big, alive.
-/
import Derived.Test.YtjljfadfepidjaaSlots
namespace Go.Proofs.Ytjljfadfepidjaa
open Go.RowKit
set_option maxRecDepth 100000

theorem slots_Statics (y : TypeV) (w : World) (hr : Rd w 5 y.fieldsV y.fields.length (y.fields.flatMap encMemberV)) (hn : y.fields.length ≤ 3000) :
    Calls Try.prog 33 #[.agg (encTypeV y).toArray] w fun e w' => (∃ v, e = .returned v ∧ ∃ B, w.heap.size ≤ B ∧ w'.ownsRow B 35 2 v y.fields.length (memVals y.fields)) ∧ Kept w w' := by
  have hmf : ∀ (fn : Fn) (first cap : Array Value) (w : World), (Instr.makeFunc fn first cap).run Try.prog w = .ok (.func fn first cap) w := fun _ _ _ _ => rfl
  have C := slots_gathered y w.heap.size 43 (w.alloc (.cells (encTypeV y).toArray 43)) (Blk.new _ _ _) (hr.kept ((Below.refl _ _).alloc (Nat.le_refl _) _)) hn
  obtain ⟨_, a, c, hv, h1, h2, _⟩ := hr
  obtain ⟨n, hnn⟩ : ∃ n, n = y.fields.length := ⟨_, rfl⟩
  rw [← hnn] at C hv h1
  have HN := Lib.hid hnn
  clear hnn hn
  obtain ⟨nm, sp, acc, iv, il, fv, fl, mv, ml⟩ := y
  simp only at hv
  subst hv
  simp only [encTypeV] at C ⊢
  go_enter Try.func33, Try.ntmps33
  go_wp2_with (go_at_call 44; (refine C.mono ?_); rintro e w1 ⟨⟨v1, rfl, hr1⟩, k1⟩)
  go_ret
  refine ⟨⟨_, rfl, w.heap.size + 1, by omega, ?_⟩, Kept.trans ((Below.refl _ _).alloc (Nat.le_refl _) _) k1⟩
  have := HN.out
  subst this
  simpa using hr1

end Go.Proofs.Ytjljfadfepidjaa
