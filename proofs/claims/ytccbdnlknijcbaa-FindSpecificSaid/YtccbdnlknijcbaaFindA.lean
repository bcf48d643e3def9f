/-
  Chapter 12's laws: the small list of types, and that it is alive.
-/
import Derived.Test.YtccbdnlknijcbaaFind7
import Derived.Test.YtccbdnlknijcbaaKinLaw
namespace Go.Proofs.Ytccbdnlknijcbaa
open Go.RowKit
set_option maxRecDepth 100000

def bM : ByteArray := ⟨#[109]⟩
def bV : ByteArray := ⟨#[40, 41, 86]⟩
def memM : MemberV := ⟨1, bM, bV, true, 0⟩
def memA : MemberV := ⟨1025, bM, bV, false, 0⟩
theorem memM_ok (w : World) : MemberV.Ok w memM := ⟨by decide, by decide, by decide, by decide⟩
theorem memA_ok (w : World) : MemberV.Ok w memA := ⟨by decide, by decide, by decide, by decide⟩
/-- A type without fields, as it lies in memory. -/
def mets (name super : ByteArray) (acc : Int) (iv : Value) (is : List ByteArray) (mv : Value) (ms : List MemberV) : TypeV := ⟨name, super, acc, iv, is, .slice none 0 0, [], mv, ms⟩
theorem mets_ok {w : World} {name super : ByteArray} {acc : Int} {iv : Value} {is : List ByteArray} {mv : Value} {ms : List MemberV} (h1 : name.size ≤ maxLen) (h2 : super.size ≤ maxLen) (h3 : -9223372036854775808 ≤ acc ∧ acc ≤ 9223372036854775807) (hi : Rd w 1 iv is.length (is.flatMap encS)) (hs : ∀ s ∈ is, s.size ≤ maxLen) (hl : is.length ≤ 140737488351232)
    (hm : Rd w 5 mv ms.length (ms.flatMap encMemberV)) (hms : ∀ z ∈ ms, MemberV.Ok w z) (hml : ms.length ≤ 140737488351232) : TypeV.Ok w (mets name super acc iv is mv ms) :=
  ⟨h1, h2, h3, hi, hs, hl, Rd.nil, by simp [mets], by simp [mets], hm, hms, hml⟩
def metsD (name super : ByteArray) (acc : Int) (is : List ByteArray) (ms : List MemberV) : TD := ⟨name, super, acc, is, [], ms⟩
def small12V (h : Nat) : List TypeV := [mets sJ sE 1537 (.slice none 0 0) [] (.slice (some ⟨h + 1 + 1, 0, none⟩) 1 1) [memM], mets sK sE 1537 (.slice (some ⟨h + 1 + 1 + 1, 0, none⟩) 1 1) [sJ] (.slice (some ⟨h + 1 + 1 + 1 + 1, 0, none⟩) 1 1) [memA],
  mets sS sE 33 (.slice (some ⟨h + 1 + 1 + 1 + 1 + 1, 0, none⟩) 1 1) [sJ] (.slice none 0 0) [], mets sC sS 33 (.slice (some ⟨h + 1 + 1 + 1 + 1 + 1 + 1, 0, none⟩) 1 1) [sK] (.slice none 0 0) []]
def small12D : List TD := [metsD sJ sE 1537 [] [memM], metsD sK sE 1537 [sJ] [memA], metsD sS sE 33 [sJ] [], metsD sC sS 33 [sK] []]
theorem one_mem {w : World} {g : Nat} {m : MemberV} (h : Blk w g 31 (encMemberV m).toArray) : Rd w 5 (.slice (some ⟨g, 0, none⟩) 1 1) [m].length ([m].flatMap encMemberV) := rd_blk (cs := encMemberV m) h rfl (by decide)
theorem law12_small (w : World) : Calls Try.prog 10 #[] w fun e w' => ∃ v, e = .returned v ∧ TyR w' v small12D ∧ Kept w w' := by
  go_enter Try.func10, Try.ntmps10
  go_wp2
  go_ret
  refine ⟨_, rfl, ?_, ?_⟩
  · obtain ⟨z1, z2, z3, z4, z5⟩ := small_sz
    refine ⟨small12V w.heap.size, rfl, rd_blk (n := 4) (cs := (small12V w.heap.size).flatMap encTypeV) (blk_at_ (by simp)) rfl (by decide), ?_, by simp [small12V]⟩
    generalize hw2 : ((w.alloc (.cells (encMemberV memM).toArray 31)).alloc (.cells (encMemberV memA).toArray 31)) = w2
    have hz : w2.heap.size = w.heap.size + 1 + 1 := by rw [← hw2]; simp
    obtain ⟨W, hW⟩ : ∃ W, W = ((((w2.alloc (.cells (encMemberV memM).toArray 31)).alloc (.cells #[.string sJ] 9)).alloc (.cells (encMemberV memA).toArray 31)).alloc (.cells #[.string sJ] 9)).alloc (.cells #[.string sK] 9) := ⟨_, rfl⟩
    have b2 : Blk W (w.heap.size + 1 + 1) 31 (encMemberV memM).toArray := by rw [hW]; exact ((((blk_at_ (by simp [hz])).alloc _).alloc _).alloc _).alloc _
    have b3 : Blk W (w.heap.size + 1 + 1 + 1) 9 #[.string sJ] := by rw [hW]; exact (((blk_at_ (by simp [hz])).alloc _).alloc _).alloc _
    have b4 : Blk W (w.heap.size + 1 + 1 + 1 + 1) 31 (encMemberV memA).toArray := by rw [hW]; exact ((blk_at_ (by simp [hz])).alloc _).alloc _
    have b5 : Blk W (w.heap.size + 1 + 1 + 1 + 1 + 1) 9 #[.string sJ] := by rw [hW]; exact (blk_at_ (by simp [hz])).alloc _
    have b6 : Blk W (w.heap.size + 1 + 1 + 1 + 1 + 1 + 1) 9 #[.string sK] := by rw [hW]; exact blk_at_ (by simp [hz])
    intro y hy
    have key : ∀ o, TypeV.Ok (W.alloc o) y := by
      intro o
      simp only [small12V, List.mem_cons, List.not_mem_nil, or_false] at hy
      rcases hy with rfl | rfl | rfl | rfl
      · exact mets_ok z1 z5 (by decide) Rd.nil (by simp) (by decide) (one_mem (b2.alloc _)) (by simpa using memM_ok _) (by decide)
      · exact mets_ok z2 z5 (by decide) (one_rd (b3.alloc _)) (by simpa using z1) (by decide) (one_mem (b4.alloc _)) (by simpa using memA_ok _) (by decide)
      · exact mets_ok z3 z5 (by decide) (one_rd (b5.alloc _)) (by simpa using z1) (by decide) Rd.nil (by simp) (by decide)
      · exact mets_ok z4 z3 (by decide) (one_rd (b6.alloc _)) (by simpa using z2) (by decide) Rd.nil (by simp) (by decide)
    subst hW
    subst hw2
    exact key _
  · refine Below.alloc (Below.alloc (Below.alloc (Below.alloc (Below.alloc (Below.alloc (Below.alloc (Below.alloc (Below.refl _ _) ?_ _) ?_ _) ?_ _) ?_ _) ?_ _) ?_ _) ?_ _) ?_ _ <;> (try simp) <;> omega

theorem small12_facts : methR small12D sC bM bV = ((sJ, 0), sE) ∧ mostL small12D sC bM bV = [(sK, 0)] ∧ methR small12D sK bM bV = (f0, chB) := by decide +kernel

set_option maxHeartbeats 1000000 in
theorem alive12 (w : World) : Calls Try.prog 5 #[] w fun e w' => e = .returned (.bool true) ∧ Kept w w' := by
  obtain ⟨f1, f2, f3⟩ := small12_facts
  have r1 : resV (methR small12D sC bM bV) = .tuple #[.agg #[.string ⟨#[74]⟩, .int .i64 0], .string ⟨#[]⟩] := by rw [f1]; rfl
  have r3 : resV (methR small12D sK bM bV) = .tuple #[.agg #[.string ⟨#[]⟩, .int .i64 0], .string chB] := by rw [f3]; rfl
  have R1 := Lib.hid r1
  have R3 := Lib.hid r3
  have F2 := Lib.hid f2
  obtain ⟨-, z2, -, z4, -⟩ := small_sz
  clear f1 f2 f3 r1 r3
  unfold chB at R3
  go_enter Try.func5, Try.ntmps5
  go_wp2_with fail
  refine (law12_small _).mono ?_
  rintro e w1 ⟨v1, rfl, hT1, k1⟩
  have T1 := Lib.hid hT1
  have K1 := Lib.hid k1
  clear hT1 k1
  go_wp2_with fail
  refine (find_Method small12D sC bM bV v1 w1 T1.out z4).mono ?_
  rintro e w2 ⟨rfl, k2⟩
  rw [R1.out]
  have K2 := Lib.hid (Kept.trans K1.out k2)
  have B2 := Lib.hid (Blk.new w2 37 #[.string ⟨#[74]⟩, .int .i64 0])
  have K2a := Lib.hid ((Kept.trans K1.out k2).alloc (Kept.trans K1.out k2).size (.cells #[.string ⟨#[74]⟩, .int .i64 0] 37))
  clear k2
  go_wp2_with fail
  refine (law12_small _).mono ?_
  rintro e w3 ⟨v3, rfl, hT3, k3⟩
  have T3 := Lib.hid hT3
  have K3 := Lib.hid (Kept.trans K2a.out k3)
  have B3 := Lib.hid (B2.out.kept k3)
  clear hT3 k3
  go_wp2_with fail
  refine (find_Most small12D sC sC bM bV v3 w3 T3.out z4).mono ?_
  rintro e w4 ⟨v4, rfl, hr, k4⟩
  rw [F2.out] at hr
  have RW4 := Lib.hid hr
  have K4 := Lib.hid (Kept.trans K3.out k4)
  have B4 := Lib.hid (B3.out.kept k4)
  clear hr k4
  go_wp2_with fail
  refine (law12_small _).mono ?_
  rintro e w5 ⟨v5, rfl, hT5, k5⟩
  have T5 := Lib.hid hT5
  have K5 := Lib.hid (Kept.trans K4.out k5)
  have B5 := Lib.hid (B4.out.kept k5)
  have RW5 := Lib.hid (RW4.out.kept k5)
  clear hT5 k5
  go_wp2_with fail
  refine (find_Method small12D sK bM bV v5 w5 T5.out z2).mono ?_
  rintro e w6 ⟨rfl, k6⟩
  rw [R3.out]
  have K6 := Lib.hid (Kept.trans K5.out k6)
  have hb := B5.out.kept k6
  have hr := RW5.out.kept k6
  have x0 := hb.cell 0
  have x1 := hb.cell 1
  simp only [List.getElem?_toArray, List.getElem?_cons_succ, List.getElem?_cons_zero] at x0 x1
  have xl : w2.heap.size < w6.heap.size := hb.lt
  have xn : ¬ (w2.heap.size = w6.heap.size) := by omega
  obtain ⟨b, o, c, hv, y0, y1⟩ := fnd_cell (l := [(sK, 0)]) (k := 0) rfl hr.rd rfl
  subst hv
  have yb : b < w6.heap.size := World.block_lt_of_cell? w6 _ y0
  have yn : ¬ (b = w6.heap.size) := by omega
  unfold sK at y0
  simp only [Nat.zero_mul, Nat.add_zero] at y0
  simp only [List.length_cons, List.length_nil]
  have zl := K6.out.size
  clear k6 hb hr y1
  go_wp2_with fail
  go_ret
  exact ⟨rfl, K6.out.alloc zl _⟩
end Go.Proofs.Ytccbdnlknijcbaa
