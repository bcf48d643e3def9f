/-
  Chapter 13's law ChooseSpecial, walked.
-/
import Derived.Test.YtpggibohfdamjaaChA
import Derived.Test.YtpggibohfdamjaaCh9
import Derived.Test.YtpggibohfdamjaaOpenRef
import Derived.Test.YtpggibohfdamjaaStay
namespace Go.Proofs.Ytpggibohfdamjaa
open Go.RowKit
set_option maxRecDepth 100000

set_option maxHeartbeats 8000000 in
theorem walk_ChooseSpecial (l : List TypeV) (v : Value) (cls : ByteArray) (r : RefV) (w : World) (hr : Rd w 6 v l.length (l.flatMap encTypeV)) (hok : ∀ y ∈ l, TypeV.Ok w y) (hlen : l.length ≤ 140737488351232) (hcs : cls.size ≤ maxLen) (hrk : RefV.Ok w r) :
    Calls Try.prog 4 #[v, .string cls, .agg (encRefV r).toArray] w fun e w' => e = .returned (.bool true) ∧ Below w.heap.size w w' := by
  obtain ⟨rc, rn, rd⟩ := r
  show Calls Try.prog 4 #[v, .string cls, .agg #[.string rc, .string rn, .string rd]] w _
  have HRC := Lib.hid (show rc.size ≤ maxLen from hrk.cls_)
  have HCS := Lib.hid hcs
  have HR := Lib.hid hr
  have HOK := Lib.hid hok
  have b0 := Blk.new w 39 #[.string rc, .string rn, .string rd]
  have k0 : Kept w (w.alloc (.cells #[.string rc, .string rn, .string rd] 39)) := (Below.refl _ _).alloc (Nat.le_refl _) _
  have K0 := Lib.hid k0
  have B0 := Lib.hid b0
  clear hr hok hrk hcs b0 k0
  go_enter Try.func4, Try.ntmps4
  go_wp2_with fail
  generalize (w.alloc (.cells #[.string rc, .string rn, .string rd] 39)) = W at *
  refine (alive13 _).mono ?_
  rintro e w1 ⟨rfl, k1⟩
  have K1 := Lib.hid (Kept.trans K0.out k1)
  have B1 := Lib.hid (B0.out.kept k1)
  clear k1
  go_wp2_with fail
  refine (law9_Big l v w1 (HR.out.kept K1.out) (fun y hy => Ok.keep_ (HOK.out y hy) K1.out) hlen).mono ?_
  rintro e w2 ⟨h2, m2, hw2⟩
  have K12 := Lib.hid (show Kept w1 w2 by rw [hw2]; exact kept_drewN (Below.refl _ _) m2)
  have K2 := Lib.hid (Kept.trans K1.out K12.out)
  clear hw2
  rcases h2 with rfl | ⟨rfl, h60, hct⟩
  · go_wp2_with fail
    go_ret
    exact ⟨rfl, K2.out⟩
  · have hT := tyR_of (HR.out.kept K2.out) (fun y hy => Ok.keep_ (HOK.out y hy) K2.out) h60
    have HT := Lib.hid hT
    have HCT := Lib.hid hct
    clear hT hct
    go_wp2_with fail
    refine (law9_Lent l v w2 (HR.out.kept K2.out) (fun y hy => Ok.keep_ (HOK.out y hy) K2.out) h60 HCT.out).mono ?_
    rintro e w3 ⟨L', g, c, rfl, hF, k3⟩
    have F3 := Lib.hid hF
    have K3 := Lib.hid (Kept.trans K2.out k3)
    have K23 := Lib.hid k3
    have T3 := Lib.hid (hF.tyR (fun y hy => Ok.keep_ (HOK.out y hy) (Kept.trans K2.out k3)) (by omega))
    have hb3 := B1.out.kept (Kept.trans K12.out k3)
    have B3 := Lib.hid hb3
    clear hF k3
    obtain ⟨vf, hvf⟩ : ∃ vf, vf = Value.slice (some ⟨g, 0, none⟩) l.length c := ⟨_, rfl⟩
    rw [← hvf] at T3 ⊢
    have HVF := Lib.hid hvf
    clear hvf
    obtain ⟨D, hD⟩ : ∃ D, D = l.map TypeV.d := ⟨_, rfl⟩
    rw [← hD] at T3 HT
    clear hD
    have K33 := Lib.hid (Below.refl w3.heap.size w3)
    have hbq := B3.out.kept K33.out
    have q0 := hbq.cell 0
    have q1 := hbq.cell 1
    have q2 := hbq.cell 2
    simp only [List.getElem?_toArray, List.getElem?_cons_succ, List.getElem?_cons_zero] at q0 q1 q2
    have zq := hbq.lt
    clear hbq
    go_wp2_with fail
    refine (ch_Special D cls rc rn rd vf _ (T3.out.kept K33.out) HCS.out HRC.out).mono ?_
    rintro e w4 ⟨rfl, k⟩
    obtain ⟨rx, hrx⟩ : ∃ x, x = specR D cls rc rn rd := ⟨_, rfl⟩
    rw [← hrx]
    have Hrx := Lib.hid hrx
    have KNrx := Lib.hid (Kept.trans K33.out k)
    have KSrx := Lib.hid k
    have Brx := Lib.hid (Blk.new w4 24 #[.string rx.1.1, .int .i64 rx.1.2])
    have KArx := Lib.hid ((Kept.trans K33.out k).alloc (Kept.trans K33.out k).size (.cells #[.string rx.1.1, .int .i64 rx.1.2] 24))
    have znrx : w.heap.size < w4.heap.size := by have := k.size; first | omega | (simp at this; omega)
    have zmrx : ¬ (w.heap.size = w4.heap.size) := by omega
    clear k hrx q0 q1 q2 zq
    unfold resG
    have hbq := B3.out.kept KArx.out
    have q0 := hbq.cell 0
    have q1 := hbq.cell 1
    have q2 := hbq.cell 2
    simp only [List.getElem?_toArray, List.getElem?_cons_succ, List.getElem?_cons_zero] at q0 q1 q2
    have zq := hbq.lt
    clear hbq
    go_wp2_with fail
    refine (ref13_Special D cls rc rn rd v _ (HT.out.kept (Kept.trans K23.out KArx.out)) HCS.out HRC.out).mono ?_
    rintro e w8 ⟨rfl, k⟩
    obtain ⟨ru, hru⟩ : ∃ x, x = specR D cls rc rn rd := ⟨_, rfl⟩
    rw [← hru]
    have Hru := Lib.hid hru
    have KNru := Lib.hid (Kept.trans KArx.out k)
    have KSru := Lib.hid k
    have Bru := Lib.hid (Blk.new w8 24 #[.string ru.1.1, .int .i64 ru.1.2])
    have KAru := Lib.hid ((Kept.trans KArx.out k).alloc (Kept.trans KArx.out k).size (.cells #[.string ru.1.1, .int .i64 ru.1.2] 24))
    have znru : w.heap.size < w8.heap.size := by have := k.size; first | omega | (simp at this; omega)
    have zmru : ¬ (w.heap.size = w8.heap.size) := by omega
    have Brxn := (Brx.out.kept k).alloc (.cells #[.string ru.1.1, .int .i64 ru.1.2] 24)
    clear Brx
    have Brx := Lib.hid Brxn
    clear Brxn
    clear k hru q0 q1 q2 zq
    unfold resG
    have hst := law9_Stay l L' w2.heap.size l.length g c v (w8.alloc (.cells #[.string ru.1.1, .int .i64 ru.1.2] 24)) (F3.out.kept KAru.out) (HR.out.kept (Kept.trans K3.out KAru.out)) (fun y hy => Ok.keep_ (HOK.out y hy) (Kept.trans K3.out KAru.out)) h60 HCT.out
    rw [← HVF.out] at hst
    have HST := Lib.hid hst
    clear hst
    go_wp2_with fail
    refine HST.out.mono ?_
    rintro e w7 ⟨rfl, k7⟩
    have K7 := Lib.hid (Kept.trans KAru.out k7)
    have KS7 := Lib.hid k7
    have Brxn := Brx.out.kept k7
    clear Brx
    have Brx := Lib.hid Brxn
    clear Brxn
    have Brun := Bru.out.kept k7
    clear Bru
    have Bru := Lib.hid Brun
    clear Brun
    clear k7
    obtain rfl : ru = rx := Hru.out.trans Hrx.out.symm
    have c0rx := Brx.out.cell 0
    have c1rx := Brx.out.cell 1
    have lrx : w4.heap.size < w7.heap.size := Brx.out.lt
    have c0ru := Bru.out.cell 0
    have c1ru := Bru.out.cell 1
    have lru : w8.heap.size < w7.heap.size := Bru.out.lt
    simp only [List.getElem?_toArray, List.getElem?_cons_succ, List.getElem?_cons_zero] at c0rx c1rx c0ru c1ru
    go_wp2_with fail
    go_ret
    exact ⟨rfl, Kept.trans K3.out K7.out⟩
end Go.Proofs.Ytpggibohfdamjaa
