/-
  Two types that are alike, by contract; writing over a list of types.
-/
import Derived.Test.YtmpnieokgeomcaaCoreT
namespace Go.Proofs.Ytmpnieokgeomcaa
open Go.RowKit
set_option maxRecDepth 100000

theorem mem_cells {w : World} {ms : List MemC} {b off : Nat} (hc : ∀ j u, (ms.flatMap encM)[j]? = some u → w.cell? ⟨b, off + j, none⟩ = some u) {k : Nat} {m : MemC} (hm : ms[k]? = some m) :
    w.cell? ⟨b, off + k * 5, none⟩ = some (.int .i64 m.acc) ∧ w.cell? ⟨b, off + k * 5 + 1, none⟩ = some (.string m.name) ∧ w.cell? ⟨b, off + k * 5 + 2, none⟩ = some (.string m.desc) ∧ w.cell? ⟨b, off + k * 5 + 3, none⟩ = some (.bool m.has) ∧ w.cell? ⟨b, off + k * 5 + 4, none⟩ = some (.int .i64 m.value) := by
  have hg : ∀ f u, (encM m)[f]? = some u → f < 5 → w.cell? ⟨b, off + (k * 5 + f), none⟩ = some u := fun f u hu hf => hc _ _ (by rw [flat_get encM 5 (fun _ => rfl) ms k f m hm hf]; exact hu)
  exact ⟨hg 0 _ rfl (by omega), hg 1 _ rfl (by omega), hg 2 _ rfl (by omega), hg 3 _ rfl (by omega), hg 4 _ rfl (by omega)⟩

set_option maxHeartbeats 2000000 in
theorem same_type (w : World) (t : TyC) (mv mv' : Value) (h : Rd w 5 mv t.ms.length (t.ms.flatMap encM)) (h' : Rd w 5 mv' t.ms.length (t.ms.flatMap encM)) (hl : t.ms.length ≤ 10) :
    Calls Try.prog 12 #[.agg #[.string t.name, .string t.super, .int .i64 t.acc, .slice none 0 0, .slice none 0 0, mv], .agg #[.string t.name, .string t.super, .int .i64 t.acc, .slice none 0 0, .slice none 0 0, mv']] w fun e w' => e = .returned (.bool true) ∧ Kept w w' := by
  obtain ⟨nm, sp, ac, ms⟩ := t
  dsimp only at h h' hl ⊢
  obtain ⟨m, hm⟩ : ∃ m, m = ms.length := ⟨_, rfl⟩
  rw [← hm] at h h' hl
  obtain ⟨-, a, c, rfl, h1, h2, h3⟩ := h
  obtain ⟨-, a', c', rfl, h1', h2', h3'⟩ := h'
  have HM := Lib.hid hm
  have H3 := Lib.hid h3
  have H3' := Lib.hid h3'
  have hk : Kept w ((w.alloc (.cells #[.string nm, .string sp, .int .i64 ac, .slice none 0 0, .slice none 0 0, .slice a m c] 29)).alloc (.cells #[.string nm, .string sp, .int .i64 ac, .slice none 0 0, .slice none 0 0, .slice a' m c'] 29)) := ((Below.refl _ _).alloc (Nat.le_refl _) _).alloc (by simp) _
  have hb1 : Blk ((w.alloc (.cells #[.string nm, .string sp, .int .i64 ac, .slice none 0 0, .slice none 0 0, .slice a m c] 29)).alloc (.cells #[.string nm, .string sp, .int .i64 ac, .slice none 0 0, .slice none 0 0, .slice a' m c'] 29)) w.heap.size 29 _ := (Blk.new w _ _).alloc _
  have hb2 : Blk ((w.alloc (.cells #[.string nm, .string sp, .int .i64 ac, .slice none 0 0, .slice none 0 0, .slice a m c] 29)).alloc (.cells #[.string nm, .string sp, .int .i64 ac, .slice none 0 0, .slice none 0 0, .slice a' m c'] 29)) (w.heap.size + 1) 29 #[.string nm, .string sp, .int .i64 ac, .slice none 0 0, .slice none 0 0, .slice a' m c'] := blk_atC (by simp)
  have HK := Lib.hid hk
  have HB1 := Lib.hid hb1
  have HB2 := Lib.hid hb2
  clear hm h3 h3' hk hb1 hb2
  go_enter Try.func12, Try.ntmps12
  go_wp2_with fail
  generalize ((w.alloc (.cells #[.string nm, .string sp, .int .i64 ac, .slice none 0 0, .slice none 0 0, .slice a m c] 29)).alloc (.cells #[.string nm, .string sp, .int .i64 ac, .slice none 0 0, .slice none 0 0, .slice a' m c'] 29)) = W at *
  have x3 := HB1.out.cell 3
  have x4 := HB1.out.cell 4
  have x5 := HB1.out.cell 5
  have y3 := HB2.out.cell 3
  have y4 := HB2.out.cell 4
  have y5 := HB2.out.cell 5
  simp at x3 x4 x5 y3 y4 y5
  go_loopw [5] (fun s5 wr => s5 = .int .i64 0 ∧ W = wr) (fun _ _ => 0)
  case atStart => exact ⟨rfl, rfl⟩
  case round =>
    obtain ⟨rfl, rfl⟩ := hrel
    go_wp2_with fail
    go_loopw [6] (fun s6 wr => s6 = .int .i64 0 ∧ W = wr) (fun _ _ => 0)
    case atStart => exact ⟨rfl, rfl⟩
    case round =>
      obtain ⟨rfl, rfl⟩ := hrel
      go_wp2_with fail
      go_loopw [7] (fun s7 wr => ∃ k n : Nat, k ≤ m ∧ s7 = .int .i64 k ∧ wr = W.drewN n) (fun s7 _ => m - (intOf s7).toNat)
      case atStart => exact ⟨0, 0, by omega, rfl, rfl⟩
      case round =>
        obtain ⟨k, n, hk, rfl, rfl⟩ := hrel
        by_cases hlt : k < m
        · obtain ⟨q, hq⟩ : ∃ q, ms[k]? = some q := ⟨_, List.getElem?_eq_getElem (by have := HM.out; omega)⟩
          obtain ⟨b, off, rfl, hc⟩ := H3.out (by omega)
          obtain ⟨b', off', rfl, hc'⟩ := H3'.out (by omega)
          obtain ⟨p0, p1, p2, p3, p4⟩ := mem_cells (w := W) (fun j u hu => Kept.cell HK.out (hc j u hu)) hq
          obtain ⟨q0, q1, q2, q3, q4⟩ := mem_cells (w := W) (fun j u hu => Kept.cell HK.out (hc' j u hu)) hq
          clear hc hc' hq
          go_wp2_with fail
          go_quiet (fail)
          go_wp2_with fail
          go_roundw
          case rel => exact ⟨k + 1, _, by omega, by go_num, rfl⟩
          case measure => simp [intOf]; omega
        · go_wp2_with fail
          go_ret
          exact ⟨rfl, kept_drewN HK.out n⟩
end Go.Proofs.Ytmpnieokgeomcaa
