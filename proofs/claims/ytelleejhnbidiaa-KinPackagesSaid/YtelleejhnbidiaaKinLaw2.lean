/-
  Chapter 9's laws KinViews and KinPackages, walked.
-/
import Derived.Test.YtelleejhnbidiaaKinLaw
namespace Go.Proofs.Ytelleejhnbidiaa
open Go.RowKit
set_option maxRecDepth 100000

set_option maxHeartbeats 2000000 in
theorem walk_KinViews (l : List TypeV) (v : Value) (a b : ByteArray) (acc : Int) (w : World) (hr : Rd w 6 v l.length (l.flatMap encTypeV)) (hok : ∀ y ∈ l, TypeV.Ok w y) (hlen : l.length ≤ 140737488351232) (ha : a.size ≤ maxLen) (hb : b.size ≤ maxLen) (_ : (Lit.int .i64 acc).wf = true) :
    Calls Try.prog 10 #[v, .string a, .string b, .int .i64 acc] w fun e w' => e = .returned (.bool true) ∧ Below w.heap.size w w' := by
  have HR := Lib.hid hr
  have HOK := Lib.hid hok
  clear hr hok
  go_enter Try.func10, Try.ntmps10
  go_wp2_with fail
  refine (alive9 _).mono ?_
  rintro e w1 ⟨rfl, k1⟩
  have K1 := Lib.hid k1
  clear k1
  go_wp2_with fail
  refine (law9_Big l v w1 (HR.out.kept K1.out) (fun y hy => Ok.keep_ (HOK.out y hy) K1.out) hlen).mono ?_
  rintro e w2 ⟨h2, m2, hw2⟩
  have K2 := Lib.hid (show Kept w w2 by rw [hw2]; exact kept_drewN K1.out m2)
  clear hw2
  rcases h2 with rfl | ⟨rfl, h60, -⟩
  · go_wp2_with fail
    go_ret
    exact ⟨rfl, K2.out⟩
  · have hT := tyR_of (HR.out.kept K2.out) (fun y hy => Ok.keep_ (HOK.out y hy) K2.out) h60
    have HT := Lib.hid hT
    clear hT
    by_cases h6 : 600 < a.size
    · go_wp2_with fail
      go_ret
      exact ⟨rfl, K2.out⟩
    by_cases h7 : 600 < b.size
    · go_wp2_with fail
      go_ret
      exact ⟨rfl, K2.out⟩
    go_wp2_with fail
    refine (kin_Sees _ a b v w2 HT.out ha hb).mono ?_
    rintro e w3 ⟨rfl, rfl⟩
    go_wp2_with fail
    refine (ref9_Sees _ a b v w2 HT.out ha hb).mono ?_
    rintro e w3 ⟨rfl, rfl⟩
    generalize seesB (l.map TypeV.d) a b = q1
    go_wp2_with fail
    refine (kin_Allows _ a b acc v w2 HT.out ha hb).mono ?_
    rintro e w3 ⟨rfl, k3⟩
    have K3 := Lib.hid (Kept.trans K2.out k3)
    have T3 := Lib.hid (HT.out.kept k3)
    clear k3
    go_wp2_with fail
    refine (ref9_Allows _ a b acc v w3 T3.out ha hb).mono ?_
    rintro e w4 ⟨rfl, k4⟩
    have K4 := Lib.hid (Kept.trans K3.out k4)
    clear k4
    generalize allowsB (l.map TypeV.d) a b acc = q2
    go_wp2_with fail
    go_ret
    exact ⟨rfl, K4.out⟩

def pA : ByteArray := ⟨#[112, 47, 65]⟩
def pB : ByteArray := ⟨#[112, 47, 66]⟩
def qC : ByteArray := ⟨#[113, 47, 67]⟩
def qD : ByteArray := ⟨#[113, 47, 68]⟩
def pX : ByteArray := ⟨#[112, 47, 88]⟩
def rE : ByteArray := ⟨#[69]⟩
def packV : List TypeV := [bare pA sE 32 (.slice none 0 0) [], bare pB pA 33 (.slice none 0 0) [], bare qC pB 33 (.slice none 0 0) [], bare qD sE 33 (.slice none 0 0) [], bare rE sE 32 (.slice none 0 0) []]
def packD : List TD := [bareD pA sE 32 [], bareD pB pA 33 [], bareD qC pB 33 [], bareD qD sE 33 [], bareD rE sE 32 []]
theorem pack_sz : pA.size ≤ maxLen ∧ pB.size ≤ maxLen ∧ qC.size ≤ maxLen ∧ qD.size ≤ maxLen ∧ pX.size ≤ maxLen ∧ rE.size ≤ maxLen ∧ sE.size ≤ maxLen := by decide
theorem pack_sees : seesB packD qD pA = false ∧ seesB packD pB pA = true ∧ seesB packD rE pB = true ∧ seesB packD pB rE = false ∧ seesB packD pB pX = false := by decide +kernel
theorem pack_near : near pB pA = true ∧ near qC pA = false ∧ near qD pA = false ∧ near pA pA = true ∧ (pB.toList == pA.toList) = false ∧ (qC.toList == pA.toList) = false ∧ (qD.toList == pA.toList) = false ∧ (pA.toList == pA.toList) = true ∧ decide (subB packD qC pA) = true ∧ decide (subB packD qD pA) = false := by decide +kernel

set_option maxHeartbeats 4000000 in
theorem walk_KinPackages (acc : Int) (w : World) (_ : (Lit.int .i64 acc).wf = true) :
    Calls Try.prog 11 #[.int .i64 acc] w fun e w' => e = .returned (.bool true) ∧ Below w.heap.size w w' := by
  obtain ⟨s1, s2, s3, s4, s5⟩ := pack_sees
  obtain ⟨zA, zB, zC, zD, zX, zE, z0⟩ := pack_sz
  have S1 := Lib.hid s1
  have S2 := Lib.hid s2
  have S3 := Lib.hid s3
  have S4 := Lib.hid s4
  have S5 := Lib.hid s5
  have eB : allowsB packD pB pA acc = if bits .and .i64 acc 1 = 0 then (if bits .and .i64 acc 4 = 0 then (if bits .and .i64 acc 2 = 0 then true else false) else true) else true := by
    rw [allowsB, pack_near.1, pack_near.2.2.2.2.1]
    rfl
  have eC : allowsB packD qC pA acc = if bits .and .i64 acc 1 = 0 then (if bits .and .i64 acc 4 = 0 then (if bits .and .i64 acc 2 = 0 then false else false) else true) else true := by
    rw [allowsB, pack_near.2.1, pack_near.2.2.2.2.2.1, pack_near.2.2.2.2.2.2.2.2.1]
    rfl
  have eD : allowsB packD qD pA acc = if bits .and .i64 acc 1 = 0 then (if bits .and .i64 acc 4 = 0 then (if bits .and .i64 acc 2 = 0 then false else false) else false) else true := by
    rw [allowsB, pack_near.2.2.1, pack_near.2.2.2.2.2.2.1, pack_near.2.2.2.2.2.2.2.2.2]
    rfl
  have eA : allowsB packD pA pA acc = if bits .and .i64 acc 1 = 0 then (if bits .and .i64 acc 4 = 0 then (if bits .and .i64 acc 2 = 0 then true else true) else true) else true := by
    rw [allowsB, pack_near.2.2.2.1, pack_near.2.2.2.2.2.2.2.1]
    rfl
  have EA := Lib.hid eA
  have EB := Lib.hid eB
  have EC := Lib.hid eC
  have ED := Lib.hid eD
  clear s1 s2 s3 s4 s5 eA eB eC eD
  go_enter Try.func11, Try.ntmps11
  go_wp2_with fail
  refine (alive9 _).mono ?_
  rintro e w1 ⟨rfl, k1⟩
  have K1 := Lib.hid k1
  have z1 := k1.size
  clear k1
  go_wp2_with fail
  have hT : TyR (w1.alloc (.cells (packV.flatMap encTypeV).toArray 25)) (.slice (some ⟨w1.heap.size, 0, none⟩) 5 5) packD := by
    refine ⟨packV, rfl, rd_blk (n := 5) (Blk.new _ _ _) rfl (by decide), ?_, by decide⟩
    intro y hy
    simp only [packV, List.mem_cons, List.not_mem_nil, or_false] at hy
    rcases hy with rfl | rfl | rfl | rfl | rfl
    · exact bare_ok zA z0 (by decide) Rd.nil (by simp) (by decide)
    · exact bare_ok zB zA (by decide) Rd.nil (by simp) (by decide)
    · exact bare_ok zC zB (by decide) Rd.nil (by simp) (by decide)
    · exact bare_ok zD z0 (by decide) Rd.nil (by simp) (by decide)
    · exact bare_ok zE z0 (by decide) Rd.nil (by simp) (by decide)
  have HT := Lib.hid hT
  have k2 : Kept w (w1.alloc (.cells (packV.flatMap encTypeV).toArray 25)) := K1.out.alloc z1 _
  have K2 := Lib.hid k2
  clear hT k2
  refine (kin_Sees packD qD pA _ (w1.alloc (.cells (packV.flatMap encTypeV).toArray 25)) HT.out zD zA).mono ?_
  rw [S1.out]
  generalize hw2 : (w1.alloc (.cells (packV.flatMap encTypeV).toArray 25)) = w2 at *
  clear hw2
  rintro e w3 ⟨rfl, rfl⟩
  go_wp2_with fail
  have c := kin_Sees packD pB pA _ w2 HT.out zB zA
  rw [S2.out] at c
  refine c.mono ?_
  rintro e w3 ⟨rfl, rfl⟩
  clear c
  go_wp2_with fail
  have c := kin_Sees packD rE pB _ w2 HT.out zE zB
  rw [S3.out] at c
  refine c.mono ?_
  rintro e w3 ⟨rfl, rfl⟩
  clear c
  go_wp2_with fail
  have c := kin_Sees packD pB rE _ w2 HT.out zB zE
  rw [S4.out] at c
  refine c.mono ?_
  rintro e w3 ⟨rfl, rfl⟩
  clear c
  go_wp2_with fail
  have c := kin_Sees packD pB pX _ w2 HT.out zB zX
  rw [S5.out] at c
  refine c.mono ?_
  rintro e w3 ⟨rfl, rfl⟩
  clear c
  go_wp2_with fail
  refine (kin_Allows packD pB pA acc _ w2 HT.out zB zA).mono ?_
  rintro e w3 ⟨rfl, k3⟩
  have K3 := Lib.hid (Kept.trans K2.out k3)
  have T3 := Lib.hid (HT.out.kept k3)
  clear k3
  go_wp2_with fail
  refine (kin_Allows packD qC pA acc _ w3 T3.out zC zA).mono ?_
  rintro e w4 ⟨rfl, k4⟩
  have K4 := Lib.hid (Kept.trans K3.out k4)
  have T4 := Lib.hid (T3.out.kept k4)
  clear k4
  go_wp2_with fail
  refine (kin_Allows packD qD pA acc _ w4 T4.out zD zA).mono ?_
  rintro e w5 ⟨rfl, k5⟩
  have K5 := Lib.hid (Kept.trans K4.out k5)
  have T5 := Lib.hid (T4.out.kept k5)
  clear k5
  go_wp2_with fail
  refine (kin_Allows packD pA pA acc _ w5 T5.out zA zA).mono ?_
  rintro e w6 ⟨rfl, k6⟩
  have K6 := Lib.hid (Kept.trans K5.out k6)
  clear k6
  rw [EA.out, EB.out, EC.out, ED.out]
  by_cases h1 : bits .and .i64 acc 1 = 0
  · by_cases h4 : bits .and .i64 acc 4 = 0
    · by_cases h2 : bits .and .i64 acc 2 = 0
      · simp only [if_pos h1, if_pos h2, if_pos h4]
        go_wp2_with fail
        go_ret
        exact ⟨rfl, K6.out⟩
      · simp only [if_neg h2, if_pos h1, if_pos h4]
        go_wp2_with fail
        go_ret
        exact ⟨rfl, K6.out⟩
    · simp only [if_neg h4, if_pos h1]
      go_wp2_with fail
      go_ret
      exact ⟨rfl, K6.out⟩
  · simp only [if_neg h1]
    go_wp2_with fail
    go_ret
    exact ⟨rfl, K6.out⟩
end Go.Proofs.Ytelleejhnbidiaa
