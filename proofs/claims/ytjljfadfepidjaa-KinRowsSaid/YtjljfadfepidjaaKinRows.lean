/-
  Chapter 9's law KinRows, walked.
-/
import Derived.Test.YtjljfadfepidjaaKinLaw3
import Derived.Test.YtjljfadfepidjaaStay
namespace Go.Proofs.Ytjljfadfepidjaa
open Go.RowKit
set_option maxRecDepth 100000

theorem wipe_new {B : Nat} {xs : List Value} {v : Value} {n : Nat} {w0 w w' : World} (hk : Kept w0 w) (hb : w0.heap.size ≤ B) (h : Row w B 9 1 v n xs) (ht : Touch (fun k => v.ownBlock = some k) w w') : Kept w0 w' :=
  Below.trans hk (ht.below (fun b hb' => by have := (h.lt b hb').1; omega) hk.size)

set_option maxHeartbeats 8000000 in
theorem walk_KinRows (l : List TypeV) (v : Value) (a o : ByteArray) (w : World) (hr : Rd w 6 v l.length (l.flatMap encTypeV)) (hok : ∀ y ∈ l, TypeV.Ok w y) (hlen : l.length ≤ 140737488351232) (ha : a.size ≤ maxLen) (ho : o.size ≤ maxLen) :
    Calls Try.prog 5 #[v, .string a, .string o] w fun e w' => e = .returned (.bool true) ∧ Below w.heap.size w w' := by
  have HR := Lib.hid hr
  have HOK := Lib.hid hok
  clear hr hok
  go_enter Try.func5, Try.ntmps5
  go_wp2_with fail
  refine (alive9 _).mono ?_
  rintro e w1 ⟨rfl, k1⟩
  have K1 := Lib.hid k1
  clear k1
  go_wp2_with fail
  refine (law9_Big l v w1 (HR.out.kept K1.out) (fun y hy => Ok.keep_ (HOK.out y hy) K1.out) hlen).mono ?_
  rintro e w2 ⟨h2, m2, hw2⟩
  have K2 := Lib.hid (show Kept w w2 by rw [hw2]; exact kept_drewN K1.out m2)
  clear hw2
  rcases h2 with rfl | ⟨rfl, h60, hct⟩
  · go_wp2_with fail
    go_ret
    exact ⟨rfl, K2.out⟩
  · have hT := tyR_of (HR.out.kept K2.out) (fun y hy => Ok.keep_ (HOK.out y hy) K2.out) h60
    have HT := Lib.hid hT
    have HCT := Lib.hid hct
    clear hT hct
    go_wp2_with fail
    refine (law9_Lent l v w2 (HR.out.kept K2.out) (fun y hy => Ok.keep_ (HOK.out y hy) K2.out) h60 HCT.out).mono ?_
    rintro e w3 ⟨L', g, c, rfl, hF, k3⟩
    have F3 := Lib.hid hF
    have K3 := Lib.hid (Kept.trans K2.out k3)
    have K23 := Lib.hid k3
    have T3 := Lib.hid (hF.tyR (fun y hy => Ok.keep_ (HOK.out y hy) (Kept.trans K2.out k3)) (by omega))
    clear hF k3
    obtain ⟨vf, hvf⟩ : ∃ vf, vf = Value.slice (some ⟨g, 0, none⟩) l.length c := ⟨_, rfl⟩
    rw [← hvf] at T3 ⊢
    have HVF := Lib.hid hvf
    clear hvf
    obtain ⟨D, hD⟩ : ∃ D, D = l.map TypeV.d := ⟨_, rfl⟩
    rw [← hD] at T3 HT
    have hDl : D.length ≤ 60 := by rw [hD, List.length_map]; exact h60
    clear hD
    go_wp2_with fail
    refine (kin_At D a vf w3 T3.out).mono ?_
    rintro e w3' ⟨rfl, rfl⟩
    generalize hat : atI D a = ix
    have HAT := Lib.hid hat
    clear hat
    go_wp2_with fail
    refine (kin_Chain D a vf w3 T3.out ha).mono ?_
    rintro e w4 ⟨va, rfl, ra, k4⟩
    have RA4 : Hid (Row w4 _ _ _ va _ _) := Lib.hid ra
    have T4 := Lib.hid (T3.out.kept k4)
    have K34 := Lib.hid k4
    clear ra k4
    go_wp2_with fail
    refine (kin_Above D a vf w4 T4.out ha).mono ?_
    rintro e w5 ⟨vb, rfl, rb, k5⟩
    have RB5 : Hid (Row w5 _ _ _ vb _ _) := Lib.hid rb
    have T5 := Lib.hid (T4.out.kept k5)
    have K35 := Lib.hid (Kept.trans K34.out k5)
    have K45 := Lib.hid k5
    clear rb k5
    go_wp2_with fail
    refine (kin_All D a vf w5 T5.out ha).mono ?_
    rintro e w6 ⟨vc, rfl, rc, k6⟩
    have RC6 : Hid (Row w6 _ _ _ vc _ _) := Lib.hid rc
    have K36 := Lib.hid (Kept.trans K35.out k6)
    have K46 := Lib.hid (Kept.trans K45.out k6)
    have K56 := Lib.hid k6
    clear rc k6
    have hst := law9_Stay l L' w2.heap.size l.length g c v w6 (F3.out.kept K36.out) (HR.out.kept (Kept.trans K3.out K36.out)) (fun y hy => Ok.keep_ (HOK.out y hy) (Kept.trans K3.out K36.out)) h60 HCT.out
    rw [← HVF.out] at hst
    have HST := Lib.hid hst
    clear hst
    go_wp2_with fail
    refine HST.out.mono ?_
    rintro e w7 ⟨rfl, k7⟩
    have K67 := Lib.hid k7
    have K07 := Lib.hid (Kept.trans (Kept.trans K3.out K36.out) k7)
    have T7 := Lib.hid (HT.out.kept (Kept.trans (Kept.trans K23.out K36.out) k7))
    clear k7
    go_wp2_with fail
    refine (kin_Chain D o v w7 T7.out ho).mono ?_
    rintro e w8 ⟨v8, rfl, r8, k8⟩
    have R8 : Hid (Row w8 _ _ _ v8 _ _) := Lib.hid r8
    have K8 := Lib.hid k8
    have h8 : (chainL D o).length ≤ 1000000 := by have := (chainL_nms D o).le; omega
    clear r8 k8
    go_wp2_with fail
    refine (law9_wipe _ _ v8 _ w8 R8.out h8).mono ?_
    rintro e w9 ⟨⟨q9, rfl⟩, t9⟩
    have K79 := Lib.hid (wipe_new K8.out (Nat.le_refl _) R8.out t9)
    have T9 := Lib.hid (T7.out.kept K79.out)
    clear t9
    go_wp2_with fail
    refine (kin_Above D o v w9 T9.out ho).mono ?_
    rintro e w10 ⟨v10, rfl, r10, k10⟩
    have R10 : Hid (Row w10 _ _ _ v10 _ _) := Lib.hid r10
    have K10 := Lib.hid k10
    have h10 : (aboveL D o).length ≤ 1000000 := by have := (aboveL_nms D o).le; omega
    clear r10 k10
    go_wp2_with fail
    refine (law9_wipe _ _ v10 _ w10 R10.out h10).mono ?_
    rintro e w11 ⟨⟨q11, rfl⟩, t11⟩
    have K911 := Lib.hid (wipe_new K10.out (Nat.le_refl _) R10.out t11)
    have T11 := Lib.hid (T9.out.kept K911.out)
    clear t11
    go_wp2_with fail
    refine (kin_All D o v w11 T11.out ho).mono ?_
    rintro e w12 ⟨v12, rfl, r12, k12⟩
    have R12 : Hid (Row w12 _ _ _ v12 _ _) := Lib.hid r12
    have K12 := Lib.hid k12
    have h12 : (allL D o).length ≤ 1000000 := by have := (allL_nms D o).le; omega
    clear r12 k12
    go_wp2_with fail
    refine (law9_wipe _ _ v12 _ w12 R12.out h12).mono ?_
    rintro e w13 ⟨⟨q13, rfl⟩, t13⟩
    have K1113 := Lib.hid (wipe_new K12.out (Nat.le_refl _) R12.out t13)
    have K713 := Lib.hid (Kept.trans (Kept.trans K79.out K911.out) K1113.out)
    have T13 := Lib.hid (T11.out.kept K1113.out)
    have RA13 := Lib.hid (RA4.out.kept (Kept.trans (Kept.trans K46.out K67.out) K713.out))
    have RB13 := Lib.hid (RB5.out.kept (Kept.trans (Kept.trans K56.out K67.out) K713.out))
    have RC13 := Lib.hid (RC6.out.kept (Kept.trans K67.out K713.out))
    clear t13
    go_wp2_with fail
    refine (ref9_At D a v w13 T13.out).mono ?_
    rintro e w14 ⟨rfl, rfl⟩
    rw [HAT.out]
    go_wp2_with fail
    refine (ref9_Chain D a v w13 T13.out ha).mono ?_
    rintro e w15 ⟨v15, rfl, r15, k15⟩
    have R15 : Hid (Row w15 _ _ _ v15 _ _) := Lib.hid r15
    have K15 := Lib.hid k15
    have h15 : (chainL D a).length ≤ 1000000 := by have := (chainL_nms D a).le; omega
    clear r15 k15
    go_wp2_with fail
    refine (law9_same (chainL D a) va v15 _ w15 rfl (RA13.out.kept K15.out).rd R15.out.rd h15).mono ?_
    rintro e w16 ⟨rfl, m16, hw16⟩
    have K16 := Lib.hid (show Kept w13 w16 by rw [hw16]; exact kept_drewN K15.out m16)
    have T16 := Lib.hid (T13.out.kept K16.out)
    clear hw16
    go_wp2_with fail
    refine (ref9_Above D a v w16 T16.out ha).mono ?_
    rintro e w17 ⟨v17, rfl, r17, k17⟩
    have R17 : Hid (Row w17 _ _ _ v17 _ _) := Lib.hid r17
    have K17 := Lib.hid (Kept.trans K16.out k17)
    have h17 : (aboveL D a).length ≤ 1000000 := by have := (aboveL_nms D a).le; omega
    clear r17 k17
    go_wp2_with fail
    refine (law9_same (aboveL D a) vb v17 _ w17 rfl (RB13.out.kept K17.out).rd R17.out.rd h17).mono ?_
    rintro e w18 ⟨rfl, m18, hw18⟩
    have K18 := Lib.hid (show Kept w13 w18 by rw [hw18]; exact kept_drewN K17.out m18)
    have T18 := Lib.hid (T13.out.kept K18.out)
    clear hw18
    go_wp2_with fail
    refine (ref9_All D a v w18 T18.out ha).mono ?_
    rintro e w19 ⟨v19, rfl, r19, k19⟩
    have R19 : Hid (Row w19 _ _ _ v19 _ _) := Lib.hid r19
    have K19 := Lib.hid (Kept.trans K18.out k19)
    have h19 : (allL D a).length ≤ 1000000 := by have := (allL_nms D a).le; omega
    clear r19 k19
    go_wp2_with fail
    refine (law9_same (allL D a) vc v19 _ w19 rfl (RC13.out.kept K19.out).rd R19.out.rd h19).mono ?_
    rintro e w20 ⟨rfl, m20, hw20⟩
    have K20 := Lib.hid (show Kept w13 w20 by rw [hw20]; exact kept_drewN K19.out m20)
    clear hw20
    go_wp2_with fail
    go_ret
    exact ⟨rfl, Kept.trans (Kept.trans K07.out K713.out) K20.out⟩
end Go.Proofs.Ytjljfadfepidjaa
