/-
  Chapter 13's laws: the small list of types, and that it is alive.
-/
import Derived.Test.YteblpdcedlaedaaCh5
import Derived.Test.YteblpdcedlaedaaFindA
namespace Go.Proofs.Yteblpdcedlaedaa
open Go.RowKit
set_option maxRecDepth 100000

def small13V (h : Nat) : List TypeV := [mets sJ sE 1537 (.slice none 0 0) [] (.slice (some ⟨h + 1, 0, none⟩) 1 1) [memM], mets sS sE 33 (.slice (some ⟨h + 1 + 1, 0, none⟩) 1 1) [sJ] (.slice (some ⟨h + 1 + 1 + 1, 0, none⟩) 1 1) [memM], mets sC sS 33 (.slice none 0 0) [] (.slice none 0 0) []]
def small13D : List TD := [metsD sJ sE 1537 [] [memM], metsD sS sE 33 [sJ] [memM], metsD sC sS 33 [] []]
theorem law13_small (w : World) : Calls Try.prog 21 #[] w fun e w' => ∃ v, e = .returned v ∧ TyR w' v small13D ∧ Kept w w' := by
  go_enter Try.func21, Try.ntmps21
  go_wp2
  go_ret
  refine ⟨_, rfl, ?_, ?_⟩
  · obtain ⟨z1, z2, z3, z4, z5⟩ := small_sz
    refine ⟨small13V w.heap.size, rfl, rd_blk (n := 3) (cs := (small13V w.heap.size).flatMap encTypeV) (blk_at_ (by simp)) rfl (by decide), ?_, by simp [small13V]⟩
    generalize hw2 : (w.alloc (.cells (encMemberV memM).toArray 38)) = w2
    have hz : w2.heap.size = w.heap.size + 1 := by rw [← hw2]; simp
    obtain ⟨W, hW⟩ : ∃ W, W = ((w2.alloc (.cells (encMemberV memM).toArray 38)).alloc (.cells #[.string sJ] 9)).alloc (.cells (encMemberV memM).toArray 38) := ⟨_, rfl⟩
    have b1 : Blk W (w.heap.size + 1) 38 (encMemberV memM).toArray := by rw [hW]; exact ((blk_at_ (by simp [hz])).alloc _).alloc _
    have b2 : Blk W (w.heap.size + 1 + 1) 9 #[.string sJ] := by rw [hW]; exact (blk_at_ (by simp [hz])).alloc _
    have b3 : Blk W (w.heap.size + 1 + 1 + 1) 38 (encMemberV memM).toArray := by rw [hW]; exact blk_at_ (by simp [hz])
    intro y hy
    have key : ∀ o, TypeV.Ok (W.alloc o) y := by
      intro o
      simp only [small13V, List.mem_cons, List.not_mem_nil, or_false] at hy
      rcases hy with rfl | rfl | rfl
      · exact mets_ok z1 z5 (by decide) Rd.nil (by simp) (by decide) (one_mem (b1.alloc _)) (by simpa using memM_ok _) (by decide)
      · exact mets_ok z3 z5 (by decide) (one_rd (b2.alloc _)) (by simpa using z1) (by decide) (one_mem (b3.alloc _)) (by simpa using memM_ok _) (by decide)
      · exact mets_ok z4 z3 (by decide) Rd.nil (by simp) (by decide) Rd.nil (by simp) (by decide)
    subst hW
    subst hw2
    exact key _
  · refine Below.alloc (Below.alloc (Below.alloc (Below.alloc (Below.alloc (Below.refl _ _) ?_ _) ?_ _) ?_ _) ?_ _) ?_ _ <;> (try simp) <;> omega

theorem small13_facts : virtR small13D sC sJ 0 = ((sS, 0), sE) ∧ ifaceR small13D sC sJ 0 = ((sS, 0), sE) := by decide +kernel

set_option maxHeartbeats 1000000 in
theorem alive13 (w : World) : Calls Try.prog 8 #[] w fun e w' => e = .returned (.bool true) ∧ Kept w w' := by
  obtain ⟨f1, f2⟩ := small13_facts
  have R1 := Lib.hid (show resG (virtR small13D sC sJ 0) = .tuple #[.agg #[.string ⟨#[83]⟩, .int .i64 0], .string ⟨#[]⟩] by rw [f1]; rfl)
  have R2 := Lib.hid (show resG (ifaceR small13D sC sJ 0) = .tuple #[.agg #[.string ⟨#[83]⟩, .int .i64 0], .string ⟨#[]⟩] by rw [f2]; rfl)
  obtain ⟨z1, -, -, z4, -⟩ := small_sz
  clear f1 f2
  go_enter Try.func8, Try.ntmps8
  go_wp2_with fail
  refine (law13_small _).mono ?_
  rintro e w1 ⟨v1, rfl, hT1, k1⟩
  have T1 := Lib.hid hT1
  have K1 := Lib.hid k1
  clear hT1 k1
  go_wp2_with fail
  refine (ch_Virtual small13D sC sJ 0 v1 w1 T1.out z4).mono ?_
  rintro e w2 ⟨rfl, k2⟩
  rw [R1.out]
  have K2a := Lib.hid ((Kept.trans K1.out k2).alloc (Kept.trans K1.out k2).size (.cells #[.string ⟨#[83]⟩, .int .i64 0] 24))
  have B2 := Lib.hid (Blk.new w2 24 #[.string ⟨#[83]⟩, .int .i64 0])
  clear k2
  go_wp2_with fail
  refine (law13_small _).mono ?_
  rintro e w3 ⟨v3, rfl, hT3, k3⟩
  have T3 := Lib.hid hT3
  have K3 := Lib.hid (Kept.trans K2a.out k3)
  have B3 := Lib.hid (B2.out.kept k3)
  clear hT3 k3
  go_wp2_with fail
  refine (ch_Face small13D sC sJ 0 v3 w3 T3.out z4).mono ?_
  rintro e w4 ⟨rfl, k4⟩
  rw [R2.out]
  have K4 := Lib.hid (Kept.trans K3.out k4)
  have hb := B3.out.kept k4
  have x0 := hb.cell 0
  have x1 := hb.cell 1
  simp only [List.getElem?_toArray, List.getElem?_cons_succ, List.getElem?_cons_zero] at x0 x1
  have xl : w2.heap.size < w4.heap.size := hb.lt
  have xn : ¬ (w2.heap.size = w4.heap.size) := by omega
  have zl := K4.out.size
  clear k4 hb
  go_wp2_with fail
  go_ret
  exact ⟨rfl, K4.out.alloc zl _⟩
end Go.Proofs.Yteblpdcedlaedaa
