/-
  Chapter 9's laws: the small list of types, and that it is alive; KinSubs, KinViews.
-/
import Derived.Test.YtjljfadfepidjaaKinC
import Derived.Test.YtjljfadfepidjaaBig
namespace Go.Proofs.Ytjljfadfepidjaa
open Go.RowKit
set_option maxRecDepth 100000

theorem rd_blk {w : World} {g : Nat} {t : TypeId} {cs : List Value} {sz n : Nat} (h : Blk w g t cs.toArray) (hs : cs.length = n * sz) (hn : n ≤ 9223372036854775807) : Rd w sz (.slice (some ⟨g, 0, none⟩) n n) n cs :=
  ⟨hs, _, _, rfl, Nat.le_refl _, hn, fun _ => ⟨_, _, rfl, fun j u hu => by rw [Nat.zero_add, h.cell j]; simpa using hu⟩⟩

def sJ : ByteArray := ⟨#[74]⟩
def sK : ByteArray := ⟨#[75]⟩
def sS : ByteArray := ⟨#[83]⟩
def sC : ByteArray := ⟨#[67]⟩
def sE : ByteArray := ⟨#[]⟩
/-- A type without fields and methods, as it lies in memory. -/
def bare (name super : ByteArray) (acc : Int) (iv : Value) (is : List ByteArray) : TypeV := ⟨name, super, acc, iv, is, .slice none 0 0, [], .slice none 0 0, []⟩
theorem bare_ok {w : World} {name super : ByteArray} {acc : Int} {iv : Value} {is : List ByteArray} (h1 : name.size ≤ maxLen) (h2 : super.size ≤ maxLen) (h3 : -9223372036854775808 ≤ acc ∧ acc ≤ 9223372036854775807) (hi : Rd w 1 iv is.length (is.flatMap encS)) (hs : ∀ s ∈ is, s.size ≤ maxLen) (hl : is.length ≤ 140737488351232) : TypeV.Ok w (bare name super acc iv is) :=
  ⟨h1, h2, h3, hi, hs, hl, Rd.nil, by simp [bare], by simp [bare], Rd.nil, by simp [bare], by simp [bare]⟩
def bareD (name super : ByteArray) (acc : Int) (is : List ByteArray) : TD := ⟨name, super, acc, is, [], []⟩

def smallV (h : Nat) : List TypeV := [bare sJ sE 1537 (.slice none 0 0) [], bare sK sE 1537 (.slice (some ⟨h, 0, none⟩) 1 1) [sJ], bare sS sE 33 (.slice (some ⟨h + 1, 0, none⟩) 1 1) [sJ], bare sC sS 33 (.slice (some ⟨h + 1 + 1, 0, none⟩) 1 1) [sK]]
def smallD : List TD := [bareD sJ sE 1537 [], bareD sK sE 1537 [sJ], bareD sS sE 33 [sJ], bareD sC sS 33 [sK]]
theorem small_sz : sJ.size ≤ maxLen ∧ sK.size ≤ maxLen ∧ sS.size ≤ maxLen ∧ sC.size ≤ maxLen ∧ sE.size ≤ maxLen := by decide

theorem one_rd {w : World} {g : Nat} {s : ByteArray} (h : Blk w g 9 #[.string s]) : Rd w 1 (.slice (some ⟨g, 0, none⟩) 1 1) [s].length ([s].flatMap encS) := rd_blk (cs := [.string s]) h rfl (by decide)

theorem law9_small (w : World) : Calls Try.prog 40 #[] w fun e w' => ∃ v, e = .returned v ∧ TyR w' v smallD ∧ Kept w w' := by
  go_enter Try.func40, Try.ntmps40
  go_wp2
  go_ret
  refine ⟨_, rfl, ?_, ?_⟩
  · obtain ⟨z1, z2, z3, z4, z5⟩ := small_sz
    refine ⟨smallV w.heap.size, rfl, rd_blk (n := 4) (cs := (smallV w.heap.size).flatMap encTypeV) (blk_at_ (by simp)) rfl (by decide), ?_, by simp [smallV]⟩
    have b0 : Blk ((((w.alloc (.cells #[.string sJ] 9)).alloc (.cells #[.string sJ] 9)).alloc (.cells #[.string sK] 9))) w.heap.size 9 #[.string sJ] := ((Blk.new _ _ _).alloc _).alloc _
    have b1 : Blk ((((w.alloc (.cells #[.string sJ] 9)).alloc (.cells #[.string sJ] 9)).alloc (.cells #[.string sK] 9))) (w.heap.size + 1) 9 #[.string sJ] := (blk_at_ (by simp)).alloc _
    have b2 : Blk ((((w.alloc (.cells #[.string sJ] 9)).alloc (.cells #[.string sJ] 9)).alloc (.cells #[.string sK] 9))) (w.heap.size + 1 + 1) 9 #[.string sK] := blk_at_ (by simp)
    intro y hy
    simp only [smallV, List.mem_cons, List.not_mem_nil, or_false] at hy
    rcases hy with rfl | rfl | rfl | rfl
    · exact bare_ok z1 z5 (by decide) Rd.nil (by simp) (by decide)
    · exact bare_ok z2 z5 (by decide) (one_rd (b0.alloc _)) (by simpa using z1) (by decide)
    · exact bare_ok z3 z5 (by decide) (one_rd (b1.alloc _)) (by simpa using z1) (by decide)
    · exact bare_ok z4 z3 (by decide) (one_rd (b2.alloc _)) (by simpa using z2) (by decide)
  · exact ((((Below.refl _ _).alloc (Nat.le_refl _) _).alloc (by simp) _).alloc (by simp; omega) _).alloc (by simp; omega) _

theorem small_facts : allL smallD sC = [sJ, sK] ∧ decide (subB smallD sC sJ) = true ∧ decide (subB smallD sS sK) = false ∧ atI smallD sS = 2 := by decide +kernel

set_option maxHeartbeats 1000000 in
theorem alive9 (w : World) : Calls Try.prog 19 #[] w fun e w' => e = .returned (.bool true) ∧ Kept w w' := by
  obtain ⟨f1, f2, f3, f4⟩ := small_facts
  have F1 := Lib.hid f1
  have F2 := Lib.hid f2
  have F3 := Lib.hid f3
  have F4 := Lib.hid f4
  obtain ⟨-, -, z3, z4, -⟩ := small_sz
  clear f1 f2 f3 f4
  go_enter Try.func19, Try.ntmps19
  go_wp2_with fail
  refine (law9_small _).mono ?_
  rintro e w1 ⟨v1, rfl, hT1, k1⟩
  have T1 := Lib.hid hT1
  have K1 := Lib.hid k1
  clear hT1 k1
  go_wp2_with fail
  refine (kin_All smallD sC v1 w1 T1.out z4).mono ?_
  rintro e w2 ⟨v2, rfl, hr, k2⟩
  have K2 := Lib.hid (Kept.trans K1.out k2)
  rw [F1.out] at hr
  have hrd := hr.has
  obtain ⟨b, o, c, hv, x0⟩ := str_cell (k := 0) (s := sJ) rfl hrd rfl
  obtain ⟨b', o', c', hv', x1⟩ := str_cell (k := 1) (s := sK) rfl hrd rfl
  subst hv
  simp only [Value.slice.injEq, Option.some.injEq, Addr.mk.injEq] at hv'
  obtain ⟨⟨rfl, rfl, -⟩, -, rfl⟩ := hv'
  clear hr k2 hrd
  unfold sJ at x0
  unfold sK at x1
  simp only [Nat.add_zero] at x0
  simp only [List.length_cons, List.length_nil]
  go_wp2_with fail
  refine (law9_small _).mono ?_
  rintro e w3 ⟨v3, rfl, hT3, k3⟩
  have T3 := Lib.hid hT3
  have K3 := Lib.hid (Kept.trans K2.out k3)
  clear hT3 k3 x0 x1
  go_wp2_with fail
  have c4 := kin_Sub smallD sC sJ v3 w3 T3.out z4
  rw [F2.out] at c4
  refine c4.mono ?_
  rintro e w4 ⟨rfl, k4⟩
  have K4 := Lib.hid (Kept.trans K3.out k4)
  clear c4 k4
  go_wp2_with fail
  refine (law9_small _).mono ?_
  rintro e w5 ⟨v5, rfl, hT5, k5⟩
  have T5 := Lib.hid hT5
  have K5 := Lib.hid (Kept.trans K4.out k5)
  clear hT5 k5
  go_wp2_with fail
  have c6 := kin_Sub smallD sS sK v5 w5 T5.out z3
  rw [F3.out] at c6
  refine c6.mono ?_
  rintro e w6 ⟨rfl, k6⟩
  have K6 := Lib.hid (Kept.trans K5.out k6)
  clear c6 k6
  go_wp2_with fail
  refine (law9_small _).mono ?_
  rintro e w7 ⟨v7, rfl, hT7, k7⟩
  have T7 := Lib.hid hT7
  have K7 := Lib.hid (Kept.trans K6.out k7)
  clear hT7 k7
  go_wp2_with fail
  have c8 := kin_At smallD sS v7 w7 T7.out
  rw [F4.out] at c8
  refine c8.mono ?_
  rintro e w8 ⟨rfl, rfl⟩
  clear c8
  go_wp2_with fail
  go_ret
  exact ⟨rfl, K7.out⟩

/-- What Big leaves: false, and the list can be read. -/
theorem tyR_of {w : World} {l : List TypeV} {v : Value} (hr : Rd w 6 v l.length (l.flatMap encTypeV)) (hok : ∀ y ∈ l, TypeV.Ok w y) (h : l.length ≤ 60) : TyR w v (l.map TypeV.d) := ⟨l, rfl, hr, hok, by omega⟩

end Go.Proofs.Ytjljfadfepidjaa
