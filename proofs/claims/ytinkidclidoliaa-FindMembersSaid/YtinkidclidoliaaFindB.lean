/-
  Chapter 12's law FindMembers, walked.
-/
import Derived.Test.YtinkidclidoliaaFindA
import Derived.Test.YtinkidclidoliaaFindR6
import Derived.Test.YtinkidclidoliaaFindG
import Derived.Test.YtinkidclidoliaaOpenRef
import Derived.Test.YtinkidclidoliaaStay
namespace Go.Proofs.Ytinkidclidoliaa
open Go.RowKit
set_option maxRecDepth 100000

theorem count_ifs {l : List TypeV} (h : ∀ y ∈ l, y.count ≤ 3000) : ∀ t ∈ l.map TypeV.d, t.interfaces.length ≤ 3000 := by
  intro t ht
  obtain ⟨y, hy, rfl⟩ := List.mem_map.1 ht
  have := h y hy
  unfold TypeV.count at this
  simp only [TypeV.d]
  omega

set_option maxHeartbeats 8000000 in
theorem walk_FindMembers (l : List TypeV) (v : Value) (r : RefV) (w : World) (hr : Rd w 6 v l.length (l.flatMap encTypeV)) (hok : ∀ y ∈ l, TypeV.Ok w y) (hlen : l.length ≤ 140737488351232) (hrk : RefV.Ok w r) :
    Calls Try.prog 6 #[v, .agg (encRefV r).toArray] w fun e w' => e = .returned (.bool true) ∧ Below w.heap.size w w' := by
  obtain ⟨rc, rn, rd⟩ := r
  show Calls Try.prog 6 #[v, .agg #[.string rc, .string rn, .string rd]] w _
  obtain ⟨hrc, hrn, hrd⟩ := hrk
  have HRC := Lib.hid (show rc.size ≤ maxLen from hrc)
  have HRN := Lib.hid (show rn.size ≤ maxLen from hrn)
  have HRD := Lib.hid (show rd.size ≤ maxLen from hrd)
  have HR := Lib.hid hr
  have HOK := Lib.hid hok
  have b0 := Blk.new w 24 #[.string rc, .string rn, .string rd]
  have k0 : Kept w (w.alloc (.cells #[.string rc, .string rn, .string rd] 24)) := (Below.refl _ _).alloc (Nat.le_refl _) _
  have K0 := Lib.hid k0
  have B0 := Lib.hid b0
  clear hr hok hrc hrn hrd b0 k0
  go_enter Try.func6, Try.ntmps6
  go_wp2_with fail
  generalize (w.alloc (.cells #[.string rc, .string rn, .string rd] 24)) = W at *
  refine (alive12 _).mono ?_
  rintro e w1 ⟨rfl, k1⟩
  have K1 := Lib.hid (Kept.trans K0.out k1)
  have B1 := Lib.hid (B0.out.kept k1)
  clear k1
  go_wp2_with fail
  refine (law9_Big l v w1 (HR.out.kept K1.out) (fun y hy => Ok.keep_ (HOK.out y hy) K1.out) hlen).mono ?_
  rintro e w2 ⟨h2, m2, hw2⟩
  have K12 := Lib.hid (show Kept w1 w2 by rw [hw2]; exact kept_drewN (Below.refl _ _) m2)
  have K2 := Lib.hid (Kept.trans K1.out K12.out)
  clear hw2
  rcases h2 with rfl | ⟨rfl, h60, hct⟩
  · go_wp2_with fail
    go_ret
    exact ⟨rfl, K2.out⟩
  · have hT := tyR_of (HR.out.kept K2.out) (fun y hy => Ok.keep_ (HOK.out y hy) K2.out) h60
    have HT := Lib.hid hT
    have HCT := Lib.hid hct
    clear hT hct
    go_wp2_with fail
    refine (law9_Lent l v w2 (HR.out.kept K2.out) (fun y hy => Ok.keep_ (HOK.out y hy) K2.out) h60 HCT.out).mono ?_
    rintro e w3 ⟨L', g, c, rfl, hF, k3⟩
    have F3 := Lib.hid hF
    have K3 := Lib.hid (Kept.trans K2.out k3)
    have K23 := Lib.hid k3
    have T3 := Lib.hid (hF.tyR (fun y hy => Ok.keep_ (HOK.out y hy) (Kept.trans K2.out k3)) (by omega))
    have hb3 := B1.out.kept (Kept.trans K12.out k3)
    have B3 := Lib.hid hb3
    clear hF k3
    obtain ⟨vf, hvf⟩ : ∃ vf, vf = Value.slice (some ⟨g, 0, none⟩) l.length c := ⟨_, rfl⟩
    rw [← hvf] at T3 ⊢
    have HVF := Lib.hid hvf
    clear hvf
    have hci := count_ifs HCT.out
    obtain ⟨D, hD⟩ : ∃ D, D = l.map TypeV.d := ⟨_, rfl⟩
    rw [← hD] at T3 HT hci
    have HCI := Lib.hid hci
    clear hD hci
    have K33 := Lib.hid (Below.refl w3.heap.size w3)
    have hbq := B3.out.kept K33.out
    have q0 := hbq.cell 0
    have q1 := hbq.cell 1
    have q2 := hbq.cell 2
    simp only [List.getElem?_toArray, List.getElem?_cons_succ, List.getElem?_cons_zero] at q0 q1 q2
    have zq := hbq.lt
    clear hbq
    go_wp2_with fail
    refine (find_Field D rc rn rd vf _ (T3.out.kept K33.out) HRC.out HRN.out HRD.out HCI.out).mono ?_
    rintro e w4 ⟨rfl, k⟩
    obtain ⟨rx, hrx⟩ : ∃ x, x = fieldR D rc rn rd := ⟨_, rfl⟩
    rw [← hrx]
    have Hrx := Lib.hid hrx
    have KNrx := Lib.hid (Kept.trans K33.out k)
    have KSrx := Lib.hid k
    have Brx := Lib.hid (Blk.new w4 30 #[.string rx.1.1, .int .i64 rx.1.2])
    have KArx := Lib.hid ((Kept.trans K33.out k).alloc (Kept.trans K33.out k).size (.cells #[.string rx.1.1, .int .i64 rx.1.2] 30))
    have znrx : w.heap.size < w4.heap.size := by have := k.size; first | omega | (simp at this; omega)
    have zmrx : ¬ (w.heap.size = w4.heap.size) := by omega
    clear k hrx q0 q1 q2 zq
    unfold resV
    have hbq := B3.out.kept KArx.out
    have q0 := hbq.cell 0
    have q1 := hbq.cell 1
    have q2 := hbq.cell 2
    simp only [List.getElem?_toArray, List.getElem?_cons_succ, List.getElem?_cons_zero] at q0 q1 q2
    have zq := hbq.lt
    clear hbq
    go_wp2_with fail
    refine (find_Method D rc rn rd vf _ (T3.out.kept KArx.out) HRC.out).mono ?_
    rintro e w5 ⟨rfl, k⟩
    obtain ⟨ry, hry⟩ : ∃ x, x = methR D rc rn rd := ⟨_, rfl⟩
    rw [← hry]
    have Hry := Lib.hid hry
    have KNry := Lib.hid (Kept.trans KArx.out k)
    have KSry := Lib.hid k
    have Bry := Lib.hid (Blk.new w5 30 #[.string ry.1.1, .int .i64 ry.1.2])
    have KAry := Lib.hid ((Kept.trans KArx.out k).alloc (Kept.trans KArx.out k).size (.cells #[.string ry.1.1, .int .i64 ry.1.2] 30))
    have znry : w.heap.size < w5.heap.size := by have := k.size; first | omega | (simp at this; omega)
    have zmry : ¬ (w.heap.size = w5.heap.size) := by omega
    have Brxn := (Brx.out.kept k).alloc (.cells #[.string ry.1.1, .int .i64 ry.1.2] 30)
    clear Brx
    have Brx := Lib.hid Brxn
    clear Brxn
    clear k hry q0 q1 q2 zq
    unfold resV
    have hbq := B3.out.kept KAry.out
    have q0 := hbq.cell 0
    have q1 := hbq.cell 1
    have q2 := hbq.cell 2
    simp only [List.getElem?_toArray, List.getElem?_cons_succ, List.getElem?_cons_zero] at q0 q1 q2
    have zq := hbq.lt
    clear hbq
    go_wp2_with fail
    refine (find_Face D rc rn rd vf _ (T3.out.kept KAry.out) HRC.out).mono ?_
    rintro e w6 ⟨rfl, k⟩
    obtain ⟨rz, hrz⟩ : ∃ x, x = faceR D rc rn rd := ⟨_, rfl⟩
    rw [← hrz]
    have Hrz := Lib.hid hrz
    have KNrz := Lib.hid (Kept.trans KAry.out k)
    have KSrz := Lib.hid k
    have Brz := Lib.hid (Blk.new w6 30 #[.string rz.1.1, .int .i64 rz.1.2])
    have KArz := Lib.hid ((Kept.trans KAry.out k).alloc (Kept.trans KAry.out k).size (.cells #[.string rz.1.1, .int .i64 rz.1.2] 30))
    have znrz : w.heap.size < w6.heap.size := by have := k.size; first | omega | (simp at this; omega)
    have zmrz : ¬ (w.heap.size = w6.heap.size) := by omega
    have Brxn := (Brx.out.kept k).alloc (.cells #[.string rz.1.1, .int .i64 rz.1.2] 30)
    clear Brx
    have Brx := Lib.hid Brxn
    clear Brxn
    have Bryn := (Bry.out.kept k).alloc (.cells #[.string rz.1.1, .int .i64 rz.1.2] 30)
    clear Bry
    have Bry := Lib.hid Bryn
    clear Bryn
    clear k hrz q0 q1 q2 zq
    unfold resV
    have hst := law9_Stay l L' w2.heap.size l.length g c v (w6.alloc (.cells #[.string rz.1.1, .int .i64 rz.1.2] 30)) (F3.out.kept KArz.out) (HR.out.kept (Kept.trans K3.out KArz.out)) (fun y hy => Ok.keep_ (HOK.out y hy) (Kept.trans K3.out KArz.out)) h60 HCT.out
    rw [← HVF.out] at hst
    have HST := Lib.hid hst
    clear hst
    go_wp2_with fail
    refine HST.out.mono ?_
    rintro e w7 ⟨rfl, k7⟩
    have K7 := Lib.hid (Kept.trans KArz.out k7)
    have KS7 := Lib.hid k7
    have Brxn := Brx.out.kept k7
    clear Brx
    have Brx := Lib.hid Brxn
    clear Brxn
    have Bryn := Bry.out.kept k7
    clear Bry
    have Bry := Lib.hid Bryn
    clear Bryn
    have Brzn := Brz.out.kept k7
    clear Brz
    have Brz := Lib.hid Brzn
    clear Brzn
    clear k7
    have hbq := B3.out.kept K7.out
    have q0 := hbq.cell 0
    have q1 := hbq.cell 1
    have q2 := hbq.cell 2
    simp only [List.getElem?_toArray, List.getElem?_cons_succ, List.getElem?_cons_zero] at q0 q1 q2
    have zq := hbq.lt
    clear hbq
    go_wp2_with fail
    refine (ref12_Field D rc rn rd v _ (HT.out.kept (Kept.trans K23.out K7.out)) HRC.out).mono ?_
    rintro e w8 ⟨rfl, k⟩
    obtain ⟨ru, hru⟩ : ∃ x, x = fieldR D rc rn rd := ⟨_, rfl⟩
    rw [← hru]
    have Hru := Lib.hid hru
    have KNru := Lib.hid (Kept.trans K7.out k)
    have KSru := Lib.hid k
    have Bru := Lib.hid (Blk.new w8 30 #[.string ru.1.1, .int .i64 ru.1.2])
    have KAru := Lib.hid ((Kept.trans K7.out k).alloc (Kept.trans K7.out k).size (.cells #[.string ru.1.1, .int .i64 ru.1.2] 30))
    have znru : w.heap.size < w8.heap.size := by have := k.size; first | omega | (simp at this; omega)
    have zmru : ¬ (w.heap.size = w8.heap.size) := by omega
    have Brxn := (Brx.out.kept k).alloc (.cells #[.string ru.1.1, .int .i64 ru.1.2] 30)
    clear Brx
    have Brx := Lib.hid Brxn
    clear Brxn
    have Bryn := (Bry.out.kept k).alloc (.cells #[.string ru.1.1, .int .i64 ru.1.2] 30)
    clear Bry
    have Bry := Lib.hid Bryn
    clear Bryn
    have Brzn := (Brz.out.kept k).alloc (.cells #[.string ru.1.1, .int .i64 ru.1.2] 30)
    clear Brz
    have Brz := Lib.hid Brzn
    clear Brzn
    clear k hru q0 q1 q2 zq
    unfold resV
    have hbq := B3.out.kept KAru.out
    have q0 := hbq.cell 0
    have q1 := hbq.cell 1
    have q2 := hbq.cell 2
    simp only [List.getElem?_toArray, List.getElem?_cons_succ, List.getElem?_cons_zero] at q0 q1 q2
    have zq := hbq.lt
    clear hbq
    go_wp2_with fail
    refine (ref12_Method D rc rn rd v _ (HT.out.kept (Kept.trans K23.out KAru.out)) HRC.out).mono ?_
    rintro e w9 ⟨rfl, k⟩
    obtain ⟨rv, hrv⟩ : ∃ x, x = methR D rc rn rd := ⟨_, rfl⟩
    rw [← hrv]
    have Hrv := Lib.hid hrv
    have KNrv := Lib.hid (Kept.trans KAru.out k)
    have KSrv := Lib.hid k
    have Brv := Lib.hid (Blk.new w9 30 #[.string rv.1.1, .int .i64 rv.1.2])
    have KArv := Lib.hid ((Kept.trans KAru.out k).alloc (Kept.trans KAru.out k).size (.cells #[.string rv.1.1, .int .i64 rv.1.2] 30))
    have znrv : w.heap.size < w9.heap.size := by have := k.size; first | omega | (simp at this; omega)
    have zmrv : ¬ (w.heap.size = w9.heap.size) := by omega
    have Brxn := (Brx.out.kept k).alloc (.cells #[.string rv.1.1, .int .i64 rv.1.2] 30)
    clear Brx
    have Brx := Lib.hid Brxn
    clear Brxn
    have Bryn := (Bry.out.kept k).alloc (.cells #[.string rv.1.1, .int .i64 rv.1.2] 30)
    clear Bry
    have Bry := Lib.hid Bryn
    clear Bryn
    have Brzn := (Brz.out.kept k).alloc (.cells #[.string rv.1.1, .int .i64 rv.1.2] 30)
    clear Brz
    have Brz := Lib.hid Brzn
    clear Brzn
    have Brun := (Bru.out.kept k).alloc (.cells #[.string rv.1.1, .int .i64 rv.1.2] 30)
    clear Bru
    have Bru := Lib.hid Brun
    clear Brun
    clear k hrv q0 q1 q2 zq
    unfold resV
    have hbq := B3.out.kept KArv.out
    have q0 := hbq.cell 0
    have q1 := hbq.cell 1
    have q2 := hbq.cell 2
    simp only [List.getElem?_toArray, List.getElem?_cons_succ, List.getElem?_cons_zero] at q0 q1 q2
    have zq := hbq.lt
    clear hbq
    go_wp2_with fail
    refine (ref12_Face D rc rn rd v _ (HT.out.kept (Kept.trans K23.out KArv.out)) HRC.out).mono ?_
    rintro e w10 ⟨rfl, k⟩
    obtain ⟨rs, hrs⟩ : ∃ x, x = faceR D rc rn rd := ⟨_, rfl⟩
    rw [← hrs]
    have Hrs := Lib.hid hrs
    have KNrs := Lib.hid (Kept.trans KArv.out k)
    have KSrs := Lib.hid k
    have Brs := Lib.hid (Blk.new w10 30 #[.string rs.1.1, .int .i64 rs.1.2])
    have KArs := Lib.hid ((Kept.trans KArv.out k).alloc (Kept.trans KArv.out k).size (.cells #[.string rs.1.1, .int .i64 rs.1.2] 30))
    have znrs : w.heap.size < w10.heap.size := by have := k.size; first | omega | (simp at this; omega)
    have zmrs : ¬ (w.heap.size = w10.heap.size) := by omega
    have Brxn := (Brx.out.kept k).alloc (.cells #[.string rs.1.1, .int .i64 rs.1.2] 30)
    clear Brx
    have Brx := Lib.hid Brxn
    clear Brxn
    have Bryn := (Bry.out.kept k).alloc (.cells #[.string rs.1.1, .int .i64 rs.1.2] 30)
    clear Bry
    have Bry := Lib.hid Bryn
    clear Bryn
    have Brzn := (Brz.out.kept k).alloc (.cells #[.string rs.1.1, .int .i64 rs.1.2] 30)
    clear Brz
    have Brz := Lib.hid Brzn
    clear Brzn
    have Brun := (Bru.out.kept k).alloc (.cells #[.string rs.1.1, .int .i64 rs.1.2] 30)
    clear Bru
    have Bru := Lib.hid Brun
    clear Brun
    have Brvn := (Brv.out.kept k).alloc (.cells #[.string rs.1.1, .int .i64 rs.1.2] 30)
    clear Brv
    have Brv := Lib.hid Brvn
    clear Brvn
    clear k hrs q0 q1 q2 zq
    unfold resV
    obtain rfl : ru = rx := Hru.out.trans Hrx.out.symm
    obtain rfl : rv = ry := Hrv.out.trans Hry.out.symm
    obtain rfl : rs = rz := Hrs.out.trans Hrz.out.symm
    have c0rx := Brx.out.cell 0
    have c1rx := Brx.out.cell 1
    have lrx : w4.heap.size < (w10.alloc (.cells #[.string rs.1.1, .int .i64 rs.1.2] 30)).heap.size := Brx.out.lt
    have c0ry := Bry.out.cell 0
    have c1ry := Bry.out.cell 1
    have lry : w5.heap.size < (w10.alloc (.cells #[.string rs.1.1, .int .i64 rs.1.2] 30)).heap.size := Bry.out.lt
    have c0rz := Brz.out.cell 0
    have c1rz := Brz.out.cell 1
    have lrz : w6.heap.size < (w10.alloc (.cells #[.string rs.1.1, .int .i64 rs.1.2] 30)).heap.size := Brz.out.lt
    have c0ru := Bru.out.cell 0
    have c1ru := Bru.out.cell 1
    have lru : w8.heap.size < (w10.alloc (.cells #[.string rs.1.1, .int .i64 rs.1.2] 30)).heap.size := Bru.out.lt
    have c0rv := Brv.out.cell 0
    have c1rv := Brv.out.cell 1
    have lrv : w9.heap.size < (w10.alloc (.cells #[.string rs.1.1, .int .i64 rs.1.2] 30)).heap.size := Brv.out.lt
    simp only [List.getElem?_toArray, List.getElem?_cons_succ, List.getElem?_cons_zero] at c0rx c1rx c0ry c1ry c0rz c1rz c0ru c1ru c0rv c1rv
    go_wp2_with fail
    go_ret
    exact ⟨rfl, Kept.trans K3.out KArs.out⟩
end Go.Proofs.Ytinkidclidoliaa
