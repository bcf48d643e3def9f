/-
  Chapter 13's law ChooseVirtual, walked.
-/
import Derived.Test.YteblpdcedlaedaaChA
import Derived.Test.YteblpdcedlaedaaCh7
import Derived.Test.YteblpdcedlaedaaOpenRef
import Derived.Test.YteblpdcedlaedaaStay
namespace Go.Proofs.Yteblpdcedlaedaa
open Go.RowKit
set_option maxRecDepth 100000

set_option maxHeartbeats 8000000 in
theorem walk_ChooseVirtual (l : List TypeV) (v : Value) (cls : ByteArray) (f : FoundV) (w : World) (hr : Rd w 6 v l.length (l.flatMap encTypeV)) (hok : ∀ y ∈ l, TypeV.Ok w y) (hlen : l.length ≤ 140737488351232) (hcs : cls.size ≤ maxLen) (hrk : FoundV.Ok w f) :
    Calls Try.prog 3 #[v, .string cls, .agg (encFoundV f).toArray] w fun e w' => e = .returned (.bool true) ∧ Below w.heap.size w w' := by
  obtain ⟨fc, fi⟩ := f
  show Calls Try.prog 3 #[v, .string cls, .agg #[.string fc, .int .i64 fi]] w _
  have HFC := Lib.hid (show fc.size ≤ maxLen from hrk.cls_)
  have HCS := Lib.hid hcs
  have HR := Lib.hid hr
  have HOK := Lib.hid hok
  have b0 := Blk.new w 24 #[.string fc, .int .i64 fi]
  have k0 : Kept w (w.alloc (.cells #[.string fc, .int .i64 fi] 24)) := (Below.refl _ _).alloc (Nat.le_refl _) _
  have K0 := Lib.hid k0
  have B0 := Lib.hid b0
  clear hr hok hrk hcs b0 k0
  go_enter Try.func3, Try.ntmps3
  go_wp2_with fail
  generalize (w.alloc (.cells #[.string fc, .int .i64 fi] 24)) = W at *
  refine (alive13 _).mono ?_
  rintro e w1 ⟨rfl, k1⟩
  have K1 := Lib.hid (Kept.trans K0.out k1)
  have B1 := Lib.hid (B0.out.kept k1)
  clear k1
  go_wp2_with fail
  refine (law9_Big l v w1 (HR.out.kept K1.out) (fun y hy => Ok.keep_ (HOK.out y hy) K1.out) hlen).mono ?_
  rintro e w2 ⟨h2, m2, hw2⟩
  have K12 := Lib.hid (show Kept w1 w2 by rw [hw2]; exact kept_drewN (Below.refl _ _) m2)
  have K2 := Lib.hid (Kept.trans K1.out K12.out)
  clear hw2
  rcases h2 with rfl | ⟨rfl, h60, hct⟩
  · go_wp2_with fail
    go_ret
    exact ⟨rfl, K2.out⟩
  · have hT := tyR_of (HR.out.kept K2.out) (fun y hy => Ok.keep_ (HOK.out y hy) K2.out) h60
    have HT := Lib.hid hT
    have HCT := Lib.hid hct
    clear hT hct
    go_wp2_with fail
    refine (law9_Lent l v w2 (HR.out.kept K2.out) (fun y hy => Ok.keep_ (HOK.out y hy) K2.out) h60 HCT.out).mono ?_
    rintro e w3 ⟨L', g, c, rfl, hF, k3⟩
    have F3 := Lib.hid hF
    have K3 := Lib.hid (Kept.trans K2.out k3)
    have K23 := Lib.hid k3
    have T3 := Lib.hid (hF.tyR (fun y hy => Ok.keep_ (HOK.out y hy) (Kept.trans K2.out k3)) (by omega))
    have hb3 := B1.out.kept (Kept.trans K12.out k3)
    have B3 := Lib.hid hb3
    clear hF k3
    obtain ⟨vf, hvf⟩ : ∃ vf, vf = Value.slice (some ⟨g, 0, none⟩) l.length c := ⟨_, rfl⟩
    rw [← hvf] at T3 ⊢
    have HVF := Lib.hid hvf
    clear hvf
    obtain ⟨D, hD⟩ : ∃ D, D = l.map TypeV.d := ⟨_, rfl⟩
    rw [← hD] at T3 HT
    clear hD
    have K33 := Lib.hid (Below.refl w3.heap.size w3)
    have hbq := B3.out.kept K33.out
    have q0 := hbq.cell 0
    have q1 := hbq.cell 1
    simp only [List.getElem?_toArray, List.getElem?_cons_succ, List.getElem?_cons_zero] at q0 q1
    have zq := hbq.lt
    clear hbq
    go_wp2_with fail
    refine (ch_Virtual D cls fc fi vf _ (T3.out.kept K33.out) HCS.out).mono ?_
    rintro e w4 ⟨rfl, k⟩
    obtain ⟨rx, hrx⟩ : ∃ x, x = virtR D cls fc fi := ⟨_, rfl⟩
    rw [← hrx]
    have Hrx := Lib.hid hrx
    have KNrx := Lib.hid (Kept.trans K33.out k)
    have KSrx := Lib.hid k
    have Brx := Lib.hid (Blk.new w4 24 #[.string rx.1.1, .int .i64 rx.1.2])
    have KArx := Lib.hid ((Kept.trans K33.out k).alloc (Kept.trans K33.out k).size (.cells #[.string rx.1.1, .int .i64 rx.1.2] 24))
    have znrx : w.heap.size < w4.heap.size := by have := k.size; first | omega | (simp at this; omega)
    have zmrx : ¬ (w.heap.size = w4.heap.size) := by omega
    clear k hrx q0 q1 zq
    unfold resG
    have hbq := B3.out.kept KArx.out
    have q0 := hbq.cell 0
    have q1 := hbq.cell 1
    simp only [List.getElem?_toArray, List.getElem?_cons_succ, List.getElem?_cons_zero] at q0 q1
    have zq := hbq.lt
    clear hbq
    go_wp2_with fail
    refine (ch_Face D cls fc fi vf _ (T3.out.kept KArx.out) HCS.out).mono ?_
    rintro e w5 ⟨rfl, k⟩
    obtain ⟨ry, hry⟩ : ∃ x, x = ifaceR D cls fc fi := ⟨_, rfl⟩
    rw [← hry]
    have Hry := Lib.hid hry
    have KNry := Lib.hid (Kept.trans KArx.out k)
    have KSry := Lib.hid k
    have Bry := Lib.hid (Blk.new w5 24 #[.string ry.1.1, .int .i64 ry.1.2])
    have KAry := Lib.hid ((Kept.trans KArx.out k).alloc (Kept.trans KArx.out k).size (.cells #[.string ry.1.1, .int .i64 ry.1.2] 24))
    have znry : w.heap.size < w5.heap.size := by have := k.size; first | omega | (simp at this; omega)
    have zmry : ¬ (w.heap.size = w5.heap.size) := by omega
    have Brxn := (Brx.out.kept k).alloc (.cells #[.string ry.1.1, .int .i64 ry.1.2] 24)
    clear Brx
    have Brx := Lib.hid Brxn
    clear Brxn
    clear k hry q0 q1 zq
    unfold resG
    have hst := law9_Stay l L' w2.heap.size l.length g c v (w5.alloc (.cells #[.string ry.1.1, .int .i64 ry.1.2] 24)) (F3.out.kept KAry.out) (HR.out.kept (Kept.trans K3.out KAry.out)) (fun y hy => Ok.keep_ (HOK.out y hy) (Kept.trans K3.out KAry.out)) h60 HCT.out
    rw [← HVF.out] at hst
    have HST := Lib.hid hst
    clear hst
    go_wp2_with fail
    refine HST.out.mono ?_
    rintro e w7 ⟨rfl, k7⟩
    have K7 := Lib.hid (Kept.trans KAry.out k7)
    have KS7 := Lib.hid k7
    have Brxn := Brx.out.kept k7
    clear Brx
    have Brx := Lib.hid Brxn
    clear Brxn
    have Bryn := Bry.out.kept k7
    clear Bry
    have Bry := Lib.hid Bryn
    clear Bryn
    clear k7
    have hbq := B3.out.kept K7.out
    have q0 := hbq.cell 0
    have q1 := hbq.cell 1
    simp only [List.getElem?_toArray, List.getElem?_cons_succ, List.getElem?_cons_zero] at q0 q1
    have zq := hbq.lt
    clear hbq
    go_wp2_with fail
    refine (ref13_Virtual D cls fc fi v _ (HT.out.kept (Kept.trans K23.out K7.out)) HCS.out).mono ?_
    rintro e w8 ⟨rfl, k⟩
    obtain ⟨ru, hru⟩ : ∃ x, x = virtR D cls fc fi := ⟨_, rfl⟩
    rw [← hru]
    have Hru := Lib.hid hru
    have KNru := Lib.hid (Kept.trans K7.out k)
    have KSru := Lib.hid k
    have Bru := Lib.hid (Blk.new w8 24 #[.string ru.1.1, .int .i64 ru.1.2])
    have KAru := Lib.hid ((Kept.trans K7.out k).alloc (Kept.trans K7.out k).size (.cells #[.string ru.1.1, .int .i64 ru.1.2] 24))
    have znru : w.heap.size < w8.heap.size := by have := k.size; first | omega | (simp at this; omega)
    have zmru : ¬ (w.heap.size = w8.heap.size) := by omega
    have Brxn := (Brx.out.kept k).alloc (.cells #[.string ru.1.1, .int .i64 ru.1.2] 24)
    clear Brx
    have Brx := Lib.hid Brxn
    clear Brxn
    have Bryn := (Bry.out.kept k).alloc (.cells #[.string ru.1.1, .int .i64 ru.1.2] 24)
    clear Bry
    have Bry := Lib.hid Bryn
    clear Bryn
    clear k hru q0 q1 zq
    unfold resG
    have hbq := B3.out.kept KAru.out
    have q0 := hbq.cell 0
    have q1 := hbq.cell 1
    simp only [List.getElem?_toArray, List.getElem?_cons_succ, List.getElem?_cons_zero] at q0 q1
    have zq := hbq.lt
    clear hbq
    go_wp2_with fail
    refine (ref13_Face D cls fc fi v _ (HT.out.kept (Kept.trans K23.out KAru.out)) HCS.out HFC.out).mono ?_
    rintro e w9 ⟨rfl, k⟩
    obtain ⟨rv, hrv⟩ : ∃ x, x = ifaceR D cls fc fi := ⟨_, rfl⟩
    rw [← hrv]
    have Hrv := Lib.hid hrv
    have KNrv := Lib.hid (Kept.trans KAru.out k)
    have KSrv := Lib.hid k
    have Brv := Lib.hid (Blk.new w9 24 #[.string rv.1.1, .int .i64 rv.1.2])
    have KArv := Lib.hid ((Kept.trans KAru.out k).alloc (Kept.trans KAru.out k).size (.cells #[.string rv.1.1, .int .i64 rv.1.2] 24))
    have znrv : w.heap.size < w9.heap.size := by have := k.size; first | omega | (simp at this; omega)
    have zmrv : ¬ (w.heap.size = w9.heap.size) := by omega
    have Brxn := (Brx.out.kept k).alloc (.cells #[.string rv.1.1, .int .i64 rv.1.2] 24)
    clear Brx
    have Brx := Lib.hid Brxn
    clear Brxn
    have Bryn := (Bry.out.kept k).alloc (.cells #[.string rv.1.1, .int .i64 rv.1.2] 24)
    clear Bry
    have Bry := Lib.hid Bryn
    clear Bryn
    have Brun := (Bru.out.kept k).alloc (.cells #[.string rv.1.1, .int .i64 rv.1.2] 24)
    clear Bru
    have Bru := Lib.hid Brun
    clear Brun
    clear k hrv q0 q1 zq
    unfold resG
    obtain rfl : ru = rx := Hru.out.trans Hrx.out.symm
    obtain rfl : rv = ry := Hrv.out.trans Hry.out.symm
    have c0rx := Brx.out.cell 0
    have c1rx := Brx.out.cell 1
    have lrx : w4.heap.size < (w9.alloc (.cells #[.string rv.1.1, .int .i64 rv.1.2] 24)).heap.size := Brx.out.lt
    have c0ry := Bry.out.cell 0
    have c1ry := Bry.out.cell 1
    have lry : w5.heap.size < (w9.alloc (.cells #[.string rv.1.1, .int .i64 rv.1.2] 24)).heap.size := Bry.out.lt
    have c0ru := Bru.out.cell 0
    have c1ru := Bru.out.cell 1
    have lru : w8.heap.size < (w9.alloc (.cells #[.string rv.1.1, .int .i64 rv.1.2] 24)).heap.size := Bru.out.lt
    simp only [List.getElem?_toArray, List.getElem?_cons_succ, List.getElem?_cons_zero] at c0rx c1rx c0ry c1ry c0ru c1ru
    go_wp2_with fail
    go_ret
    exact ⟨rfl, Kept.trans K3.out KArv.out⟩
end Go.Proofs.Yteblpdcedlaedaa
