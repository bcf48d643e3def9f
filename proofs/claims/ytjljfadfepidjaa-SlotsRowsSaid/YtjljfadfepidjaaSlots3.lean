/-
  Chapter 11: sameValues, Big, alive.
-/
import Derived.Test.YtjljfadfepidjaaSlots2
namespace Go.Proofs.Ytjljfadfepidjaa
open Go.RowKit
set_option maxRecDepth 100000

theorem val_cells {w : World} {l : List ValV} {v : Value} {n : Nat} (hl : l.length = n) (hr : Rd w 2 v n (l.flatMap encVal)) {i : Nat} {m : ValV} (hm : l[i]? = some m) :
    ∃ b off c, v = .slice (some ⟨b, off, none⟩) n c ∧ c ≤ 9223372036854775807 ∧ w.cell? ⟨b, off + i * 2, none⟩ = some (.bool m.ref) ∧ w.cell? ⟨b, off + i * 2 + 1, none⟩ = some (.int .i64 m.n) := by
  have hl' := (List.getElem?_eq_some_iff.1 hm).1
  rcases hr.parts with ⟨h0, _⟩ | ⟨b, off, c, rfl, h0, h1, h2, hc⟩
  · omega
  · have hg : ∀ f u, (encVal m)[f]? = some u → f < 2 → w.cell? ⟨b, off + (i * 2 + f), none⟩ = some u := fun f u hu hf => hc _ _ (by rw [flat_get encVal 2 (fun _ => rfl) l i f m hm hf]; exact hu)
    exact ⟨b, off, c, rfl, h2, hg 0 _ rfl (by omega), hg 1 _ rfl (by omega)⟩

theorem law11_sameValues (l : List ValV) (n : Nat) (va vb : Value) (w : World) (hl : l.length = n) (ha : Rd w 2 va n (l.flatMap encVal)) (hb : Rd w 2 vb n (l.flatMap encVal)) :
    Calls Try.prog 16 #[va, vb] w fun e w' => e = .returned (.bool true) ∧ ∃ m, w' = w.drewN m := by
  have HA := Lib.hid ha
  have HB := Lib.hid hb
  have HL := Lib.hid hl
  obtain ⟨_, aa, ca, rfl, a1, a2, _⟩ := ha
  obtain ⟨_, ab, cb, rfl, b1, b2, _⟩ := hb
  clear hl
  go_enter Try.func16, Try.ntmps16
  go_wp2
  go_loopw [5] (fun s5 wr => ∃ k : Nat, k ≤ n ∧ s5 = .int .i64 k ∧ ∃ m, wr = w.drewN m) (fun s5 _ => n - (intOf s5).toNat)
  case atStart => exact ⟨0, by omega, rfl, 0, rfl⟩
  case round =>
    obtain ⟨k, hk, rfl, mm, rfl⟩ := hrel
    by_cases hlt : k < n
    · obtain ⟨m, hm⟩ : ∃ m, l[k]? = some m := ⟨_, List.getElem?_eq_getElem (show k < l.length by have := HL.out; omega)⟩
      obtain ⟨ba, oa, ca', hva, hca, x0, x1⟩ := val_cells HL.out HA.out hm
      obtain ⟨bb, ob, cb', hvb, hcb, y0, y1⟩ := val_cells HL.out HB.out hm
      simp only [Value.slice.injEq] at hva hvb
      obtain ⟨rfl, -, rfl⟩ := hva
      obtain ⟨rfl, -, rfl⟩ := hvb
      clear hm
      go_wp2
      go_quiet (fail)
      go_wp2
      go_roundw
      case rel => exact ⟨k + 1, by omega, by go_num, _, rfl⟩
      case measure => simp [intOf]; omega
    · go_wp2
      go_ret
      exact ⟨rfl, _, rfl⟩
end Go.Proofs.Ytjljfadfepidjaa
