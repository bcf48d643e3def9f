/-
  Chapter 12's law FindThere, walked.
-/
import Derived.Test.YtinkidclidoliaaFindC
import Derived.Test.YtinkidclidoliaaOpenRef
namespace Go.Proofs.Ytinkidclidoliaa
open Go.RowKit
set_option maxRecDepth 100000

theorem count_ifs_ {l : List TypeV} (h : ∀ y ∈ l, y.count ≤ 3000) : ∀ t ∈ l.map TypeV.d, t.interfaces.length ≤ 3000 := by
  intro t ht
  obtain ⟨y, hy, rfl⟩ := List.mem_map.1 ht
  have := h y hy
  unfold TypeV.count at this
  simp only [TypeV.d]
  omega


set_option maxHeartbeats 20000000 in
theorem walk_FindThere1 (l : List TypeV) (v : Value) (r : RefV) (w : World) (hr : Rd w 6 v l.length (l.flatMap encTypeV)) (hok : ∀ y ∈ l, TypeV.Ok w y) (hlen : l.length ≤ 140737488351232) (hrk : RefV.Ok w r) (ff : FV) (hfl : fieldL (l.map TypeV.d) r.cls r.name r.desc = some ff) :
    Calls Try.prog 7 #[v, .agg (encRefV r).toArray] w fun e w' => e = .returned (.bool true) ∧ Below w.heap.size w w' := by
  obtain ⟨rc, rn, rd⟩ := r
  show Calls Try.prog 7 #[v, .agg #[.string rc, .string rn, .string rd]] w _
  obtain ⟨hrc, hrn, hrd⟩ := hrk
  have HRC := Lib.hid (show rc.size ≤ maxLen from hrc)
  have HRN := Lib.hid (show rn.size ≤ maxLen from hrn)
  have HRD := Lib.hid (show rd.size ≤ maxLen from hrd)
  have HR := Lib.hid hr
  have HOK := Lib.hid hok
  have b0 := Blk.new w 24 #[.string rc, .string rn, .string rd]
  have k0 : Kept w (w.alloc (.cells #[.string rc, .string rn, .string rd] 24)) := (Below.refl _ _).alloc (Nat.le_refl _) _
  have K0 := Lib.hid k0
  have B0 := Lib.hid b0
  clear hr hok hrc hrn hrd b0 k0
  go_enter Try.func7, Try.ntmps7
  go_wp2_with fail
  generalize (w.alloc (.cells #[.string rc, .string rn, .string rd] 24)) = W at *
  refine (alive12 _).mono ?_
  rintro e w1 ⟨rfl, k1⟩
  have K1 := Lib.hid (Kept.trans K0.out k1)
  have B1 := Lib.hid (B0.out.kept k1)
  clear k1
  go_wp2_with fail
  refine (law9_Big l v w1 (HR.out.kept K1.out) (fun y hy => Ok.keep_ (HOK.out y hy) K1.out) hlen).mono ?_
  rintro e w2 ⟨h2, m2, hw2⟩
  have K12 := Lib.hid (show Kept w1 w2 by rw [hw2]; exact kept_drewN (Below.refl _ _) m2)
  have K2 := Lib.hid (Kept.trans K1.out K12.out)
  clear hw2
  rcases h2 with rfl | ⟨rfl, h60, hct⟩
  · go_wp2_with fail
    go_ret
    exact ⟨rfl, K2.out⟩
  · have hT := tyR_of (HR.out.kept K2.out) (fun y hy => Ok.keep_ (HOK.out y hy) K2.out) h60
    have HT := Lib.hid hT
    have hci := count_ifs_ hct
    obtain ⟨D, hD⟩ : ∃ D, D = l.map TypeV.d := ⟨_, rfl⟩
    rw [← hD] at HT hci hfl
    have HCI := Lib.hid hci
    have BR := Lib.hid (B1.out.kept K12.out)
    have KT := Lib.hid (Below.refl w2.heap.size w2)
    have hDl := HT.out.len
    clear hT hct hD hci
    have hq := BR.out
    have q0 := hq.cell 0
    have q1 := hq.cell 1
    have q2 := hq.cell 2
    simp only [List.getElem?_toArray, List.getElem?_cons_succ, List.getElem?_cons_zero] at q0 q1 q2
    have zq := hq.lt
    have zm := KT.out.size
    have zn : ¬ (w.heap.size = (w2).heap.size) := by omega
    clear hq
    go_wp2_with fail
    refine (find_Field D rc rn rd _ _ (HT.out.kept KT.out) HRC.out HRN.out HRD.out HCI.out).mono ?_
    rintro e x3 ⟨rfl, k⟩
    clear q0 q1 q2 zq zm zn
    have BRn := BR.out.kept k
    clear BR
    have BR := Lib.hid BRn
    clear BRn
    have KTn := Kept.trans KT.out k
    clear KT
    have KT := Lib.hid KTn
    clear KTn k
    unfold fieldR
    skip
    rw [hfl]
    obtain ⟨hth, hme⟩ := field_some hfl
    have hrc := field_at hfl
    unfold there at hrc
    obtain ⟨ka, hka⟩ := Option.isSome_iff_exists.1 hrc
    obtain ⟨t, ht, -, hkl⟩ := atO_some hka
    have HTF := Lib.hid hth
    have HMF := Lib.hid hme
    have HKA := Lib.hid (atI_some hka)
    have hk0 : (0 : Int) ≤ (ka : Int) := by omega
    clear hfl hth hme hrc hka ht
    unfold fldRes resV
    simp only
    have BRn := BR.out.alloc (.cells #[.string ff.1, .int .i64 ff.2] 30)
    clear BR
    have BR := Lib.hid BRn
    clear BRn
    have KTn := KT.out.alloc KT.out.size (.cells #[.string ff.1, .int .i64 ff.2] 30)
    clear KT
    have KT := Lib.hid KTn
    clear KTn
    have BF := Lib.hid (Blk.new x3 30 #[.string ff.1, .int .i64 ff.2])
    have hq := BR.out
    have q0 := hq.cell 0
    have q1 := hq.cell 1
    have q2 := hq.cell 2
    simp only [List.getElem?_toArray, List.getElem?_cons_succ, List.getElem?_cons_zero] at q0 q1 q2
    have zq := hq.lt
    have zm := KT.out.size
    have zn : ¬ (w.heap.size = ((x3.alloc (.cells #[.string ff.1, .int .i64 ff.2] 30))).heap.size) := by omega
    clear hq
    have cBF := BF.out.cell 0
    have dBF := BF.out.cell 1
    simp only [List.getElem?_toArray, List.getElem?_cons_succ, List.getElem?_cons_zero] at cBF dBF
    have lBF := BF.out.lt
    go_wp2_with fail
    refine (law12_declares D ff rc rn rd true _ _ (HT.out.kept KT.out) HTF.out HMF.out).mono ?_
    rintro e x4 ⟨rfl, k⟩
    clear q0 q1 q2 zq zm zn cBF dBF lBF
    have BFn := BF.out.kept k
    clear BF
    have BF := Lib.hid BFn
    clear BFn
    have BRn := BR.out.kept k
    clear BR
    have BR := Lib.hid BRn
    clear BRn
    have KTn := Kept.trans KT.out k
    clear KT
    have KT := Lib.hid KTn
    clear KTn k
    have CA := kin_At D rc _ x4 (HT.out.kept KT.out)
    rw [HKA.out] at CA
    have CA := Lib.hid CA
    have hq := BR.out
    have q0 := hq.cell 0
    have q1 := hq.cell 1
    have q2 := hq.cell 2
    simp only [List.getElem?_toArray, List.getElem?_cons_succ, List.getElem?_cons_zero] at q0 q1 q2
    have zq := hq.lt
    have zm := KT.out.size
    have zn : ¬ (w.heap.size = (x4).heap.size) := by omega
    clear hq
    have cBF := BF.out.cell 0
    have dBF := BF.out.cell 1
    simp only [List.getElem?_toArray, List.getElem?_cons_succ, List.getElem?_cons_zero] at cBF dBF
    have lBF := BF.out.lt
    go_wp2_with fail
    refine CA.out.mono ?_
    rintro e xa ⟨rfl, rfl⟩
    clear CA
    go_wp2_with fail
    go_quiet (fail)
    clear q0 q1 q2 zq zm zn cBF dBF lBF
    rename_i nq
    have k : Kept x4 ((x4).drewN nq) := kept_drewN (Below.refl _ _) nq
    generalize (x4).drewN nq = x5 at *
    have BFn := BF.out.kept k
    clear BF
    have BF := Lib.hid BFn
    clear BFn
    have BRn := BR.out.kept k
    clear BR
    have BR := Lib.hid BRn
    clear BRn
    have KTn := Kept.trans KT.out k
    clear KT
    have KT := Lib.hid KTn
    clear KTn k
    have hq := BR.out
    have q0 := hq.cell 0
    have q1 := hq.cell 1
    have q2 := hq.cell 2
    simp only [List.getElem?_toArray, List.getElem?_cons_succ, List.getElem?_cons_zero] at q0 q1 q2
    have zq := hq.lt
    have zm := KT.out.size
    have zn : ¬ (w.heap.size = (x5).heap.size) := by omega
    clear hq
    have cBF := BF.out.cell 0
    have dBF := BF.out.cell 1
    simp only [List.getElem?_toArray, List.getElem?_cons_succ, List.getElem?_cons_zero] at cBF dBF
    have lBF := BF.out.lt
    go_wp2_with fail
    refine (find_Method D rc rn rd _ _ (HT.out.kept KT.out) HRC.out).mono ?_
    rintro e x6 ⟨rfl, k⟩
    clear q0 q1 q2 zq zm zn cBF dBF lBF
    have BFn := BF.out.kept k
    clear BF
    have BF := Lib.hid BFn
    clear BFn
    have BRn := BR.out.kept k
    clear BR
    have BR := Lib.hid BRn
    clear BRn
    have KTn := Kept.trans KT.out k
    clear KT
    have KT := Lib.hid KTn
    clear KTn k
    rcases meth_cases D rc rn rd with ⟨fm, hf, hd, hs⟩ | ⟨em, hf, he⟩
    · rw [hf]
      unfold resV
      have HDM := Lib.hid hd
      have HSM := Lib.hid hs
      clear hf hd hs
      have BFn := BF.out.alloc (.cells #[.string fm.1, .int .i64 fm.2] 30)
      clear BF
      have BF := Lib.hid BFn
      clear BFn
      have BRn := BR.out.alloc (.cells #[.string fm.1, .int .i64 fm.2] 30)
      clear BR
      have BR := Lib.hid BRn
      clear BRn
      have KTn := KT.out.alloc KT.out.size (.cells #[.string fm.1, .int .i64 fm.2] 30)
      clear KT
      have KT := Lib.hid KTn
      clear KTn
      have BM := Lib.hid (Blk.new x6 30 #[.string fm.1, .int .i64 fm.2])
      have hq := BR.out
      have q0 := hq.cell 0
      have q1 := hq.cell 1
      have q2 := hq.cell 2
      simp only [List.getElem?_toArray, List.getElem?_cons_succ, List.getElem?_cons_zero] at q0 q1 q2
      have zq := hq.lt
      have zm := KT.out.size
      have zn : ¬ (w.heap.size = ((x6.alloc (.cells #[.string fm.1, .int .i64 fm.2] 30))).heap.size) := by omega
      clear hq
      have cBF := BF.out.cell 0
      have dBF := BF.out.cell 1
      simp only [List.getElem?_toArray, List.getElem?_cons_succ, List.getElem?_cons_zero] at cBF dBF
      have lBF := BF.out.lt
      have cBM := BM.out.cell 0
      have dBM := BM.out.cell 1
      simp only [List.getElem?_toArray, List.getElem?_cons_succ, List.getElem?_cons_zero] at cBM dBM
      have lBM := BM.out.lt
      go_wp2_with fail
      refine (law12_declares D fm rc rn rd false _ _ (HT.out.kept KT.out) HDM.out.th (by exact HDM.out.at_)).mono ?_
      rintro e x7 ⟨rfl, k⟩
      clear q0 q1 q2 zq zm zn cBF dBF lBF cBM dBM lBM
      have BFn := BF.out.kept k
      clear BF
      have BF := Lib.hid BFn
      clear BFn
      have BMn := BM.out.kept k
      clear BM
      have BM := Lib.hid BMn
      clear BMn
      have BRn := BR.out.kept k
      clear BR
      have BR := Lib.hid BRn
      clear BRn
      have KTn := Kept.trans KT.out k
      clear KT
      have KT := Lib.hid KTn
      clear KTn k
      have CS := kin_Sub D rc fm.1 _ _ (HT.out.kept KT.out) HRC.out
      rw [decide_eq_true HSM.out] at CS
      have CS := Lib.hid CS
      have hq := BR.out
      have q0 := hq.cell 0
      have q1 := hq.cell 1
      have q2 := hq.cell 2
      simp only [List.getElem?_toArray, List.getElem?_cons_succ, List.getElem?_cons_zero] at q0 q1 q2
      have zq := hq.lt
      have zm := KT.out.size
      have zn : ¬ (w.heap.size = (x7).heap.size) := by omega
      clear hq
      have cBF := BF.out.cell 0
      have dBF := BF.out.cell 1
      simp only [List.getElem?_toArray, List.getElem?_cons_succ, List.getElem?_cons_zero] at cBF dBF
      have lBF := BF.out.lt
      have cBM := BM.out.cell 0
      have dBM := BM.out.cell 1
      simp only [List.getElem?_toArray, List.getElem?_cons_succ, List.getElem?_cons_zero] at cBM dBM
      have lBM := BM.out.lt
      go_wp2_with fail
      refine (CS.out).mono ?_
      rintro e x8 ⟨rfl, k⟩
      clear q0 q1 q2 zq zm zn cBF dBF lBF cBM dBM lBM
      have BFn := BF.out.kept k
      clear BF
      have BF := Lib.hid BFn
      clear BFn
      have BMn := BM.out.kept k
      clear BM
      have BM := Lib.hid BMn
      clear BMn
      have BRn := BR.out.kept k
      clear BR
      have BR := Lib.hid BRn
      clear BRn
      have KTn := Kept.trans KT.out k
      clear KT
      have KT := Lib.hid KTn
      clear KTn k
      clear CS
      have hq := BR.out
      have q0 := hq.cell 0
      have q1 := hq.cell 1
      have q2 := hq.cell 2
      simp only [List.getElem?_toArray, List.getElem?_cons_succ, List.getElem?_cons_zero] at q0 q1 q2
      have zq := hq.lt
      have zm := KT.out.size
      have zn : ¬ (w.heap.size = (x8).heap.size) := by omega
      clear hq
      have cBF := BF.out.cell 0
      have dBF := BF.out.cell 1
      simp only [List.getElem?_toArray, List.getElem?_cons_succ, List.getElem?_cons_zero] at cBF dBF
      have lBF := BF.out.lt
      have cBM := BM.out.cell 0
      have dBM := BM.out.cell 1
      simp only [List.getElem?_toArray, List.getElem?_cons_succ, List.getElem?_cons_zero] at cBM dBM
      have lBM := BM.out.lt
      go_wp2_with fail
      refine (find_Face D rc rn rd _ _ (HT.out.kept KT.out) HRC.out).mono ?_
      rintro e x9 ⟨rfl, k⟩
      clear q0 q1 q2 zq zm zn cBF dBF lBF cBM dBM lBM
      have BFn := BF.out.kept k
      clear BF
      have BF := Lib.hid BFn
      clear BFn
      have BMn := BM.out.kept k
      clear BM
      have BM := Lib.hid BMn
      clear BMn
      have BRn := BR.out.kept k
      clear BR
      have BR := Lib.hid BRn
      clear BRn
      have KTn := Kept.trans KT.out k
      clear KT
      have KT := Lib.hid KTn
      clear KTn k
      rcases face_cases D rc rn rd with ⟨fi, hf, hd, hs⟩ | ⟨ei, hf, he⟩
      · rw [hf]
        unfold resV
        have HD := Lib.hid hd
        by_cases hsb : subB D rc fi.1
        · have HSB := Lib.hid hsb
          clear hf hd hs hsb
          have BFn := BF.out.alloc (.cells #[.string fi.1, .int .i64 fi.2] 30)
          clear BF
          have BF := Lib.hid BFn
          clear BFn
          have BMn := BM.out.alloc (.cells #[.string fi.1, .int .i64 fi.2] 30)
          clear BM
          have BM := Lib.hid BMn
          clear BMn
          have BRn := BR.out.alloc (.cells #[.string fi.1, .int .i64 fi.2] 30)
          clear BR
          have BR := Lib.hid BRn
          clear BRn
          have KTn := KT.out.alloc KT.out.size (.cells #[.string fi.1, .int .i64 fi.2] 30)
          clear KT
          have KT := Lib.hid KTn
          clear KTn
          have BI := Lib.hid (Blk.new x9 30 #[.string fi.1, .int .i64 fi.2])
          have hq := BR.out
          have q0 := hq.cell 0
          have q1 := hq.cell 1
          have q2 := hq.cell 2
          simp only [List.getElem?_toArray, List.getElem?_cons_succ, List.getElem?_cons_zero] at q0 q1 q2
          have zq := hq.lt
          have zm := KT.out.size
          have zn : ¬ (w.heap.size = ((x9.alloc (.cells #[.string fi.1, .int .i64 fi.2] 30))).heap.size) := by omega
          clear hq
          have cBF := BF.out.cell 0
          have dBF := BF.out.cell 1
          simp only [List.getElem?_toArray, List.getElem?_cons_succ, List.getElem?_cons_zero] at cBF dBF
          have lBF := BF.out.lt
          have cBM := BM.out.cell 0
          have dBM := BM.out.cell 1
          simp only [List.getElem?_toArray, List.getElem?_cons_succ, List.getElem?_cons_zero] at cBM dBM
          have lBM := BM.out.lt
          have cBI := BI.out.cell 0
          have dBI := BI.out.cell 1
          simp only [List.getElem?_toArray, List.getElem?_cons_succ, List.getElem?_cons_zero] at cBI dBI
          have lBI := BI.out.lt
          go_wp2_with fail
          refine (law12_declares D fi rc rn rd false _ _ (HT.out.kept KT.out) HD.out.th (by exact HD.out.at_)).mono ?_
          rintro e x10 ⟨rfl, k⟩
          clear q0 q1 q2 zq zm zn cBF dBF lBF cBM dBM lBM cBI dBI lBI
          have BFn := BF.out.kept k
          clear BF
          have BF := Lib.hid BFn
          clear BFn
          have BMn := BM.out.kept k
          clear BM
          have BM := Lib.hid BMn
          clear BMn
          have BIn := BI.out.kept k
          clear BI
          have BI := Lib.hid BIn
          clear BIn
          have BRn := BR.out.kept k
          clear BR
          have BR := Lib.hid BRn
          clear BRn
          have KTn := Kept.trans KT.out k
          clear KT
          have KT := Lib.hid KTn
          clear KTn k
          have CS := kin_Sub D rc fi.1 _ _ (HT.out.kept KT.out) HRC.out
          rw [decide_eq_true HSB.out] at CS
          have CS := Lib.hid CS
          have hq := BR.out
          have q0 := hq.cell 0
          have q1 := hq.cell 1
          have q2 := hq.cell 2
          simp only [List.getElem?_toArray, List.getElem?_cons_succ, List.getElem?_cons_zero] at q0 q1 q2
          have zq := hq.lt
          have zm := KT.out.size
          have zn : ¬ (w.heap.size = (x10).heap.size) := by omega
          clear hq
          have cBF := BF.out.cell 0
          have dBF := BF.out.cell 1
          simp only [List.getElem?_toArray, List.getElem?_cons_succ, List.getElem?_cons_zero] at cBF dBF
          have lBF := BF.out.lt
          have cBM := BM.out.cell 0
          have dBM := BM.out.cell 1
          simp only [List.getElem?_toArray, List.getElem?_cons_succ, List.getElem?_cons_zero] at cBM dBM
          have lBM := BM.out.lt
          have cBI := BI.out.cell 0
          have dBI := BI.out.cell 1
          simp only [List.getElem?_toArray, List.getElem?_cons_succ, List.getElem?_cons_zero] at cBI dBI
          have lBI := BI.out.lt
          go_wp2_with fail
          refine (CS.out).mono ?_
          rintro e x11 ⟨rfl, k⟩
          clear q0 q1 q2 zq zm zn cBF dBF lBF cBM dBM lBM cBI dBI lBI
          have BFn := BF.out.kept k
          clear BF
          have BF := Lib.hid BFn
          clear BFn
          have BMn := BM.out.kept k
          clear BM
          have BM := Lib.hid BMn
          clear BMn
          have BIn := BI.out.kept k
          clear BI
          have BI := Lib.hid BIn
          clear BIn
          have BRn := BR.out.kept k
          clear BR
          have BR := Lib.hid BRn
          clear BRn
          have KTn := Kept.trans KT.out k
          clear KT
          have KT := Lib.hid KTn
          clear KTn k
          clear CS
          have hq := BR.out
          have q0 := hq.cell 0
          have q1 := hq.cell 1
          have q2 := hq.cell 2
          simp only [List.getElem?_toArray, List.getElem?_cons_succ, List.getElem?_cons_zero] at q0 q1 q2
          have zq := hq.lt
          have zm := KT.out.size
          have zn : ¬ (w.heap.size = (x11).heap.size) := by omega
          clear hq
          have cBF := BF.out.cell 0
          have dBF := BF.out.cell 1
          simp only [List.getElem?_toArray, List.getElem?_cons_succ, List.getElem?_cons_zero] at cBF dBF
          have lBF := BF.out.lt
          have cBM := BM.out.cell 0
          have dBM := BM.out.cell 1
          simp only [List.getElem?_toArray, List.getElem?_cons_succ, List.getElem?_cons_zero] at cBM dBM
          have lBM := BM.out.lt
          have cBI := BI.out.cell 0
          have dBI := BI.out.cell 1
          simp only [List.getElem?_toArray, List.getElem?_cons_succ, List.getElem?_cons_zero] at cBI dBI
          have lBI := BI.out.lt
          go_wp2_with fail
          go_ret
          exact ⟨rfl, Kept.trans K2.out KT.out⟩
        · have HSB := Lib.hid hsb
          have HOB := Lib.hid (show fi.1.toList = [106, 97, 118, 97, 47, 108, 97, 110, 103, 47, 79, 98, 106, 101, 99, 116] by rw [hs.resolve_left hsb]; simp [objB, ByteArray.toList_eq])
          clear hf hd hs hsb
          have BFn := BF.out.alloc (.cells #[.string fi.1, .int .i64 fi.2] 30)
          clear BF
          have BF := Lib.hid BFn
          clear BFn
          have BMn := BM.out.alloc (.cells #[.string fi.1, .int .i64 fi.2] 30)
          clear BM
          have BM := Lib.hid BMn
          clear BMn
          have BRn := BR.out.alloc (.cells #[.string fi.1, .int .i64 fi.2] 30)
          clear BR
          have BR := Lib.hid BRn
          clear BRn
          have KTn := KT.out.alloc KT.out.size (.cells #[.string fi.1, .int .i64 fi.2] 30)
          clear KT
          have KT := Lib.hid KTn
          clear KTn
          have BI := Lib.hid (Blk.new x9 30 #[.string fi.1, .int .i64 fi.2])
          have hq := BR.out
          have q0 := hq.cell 0
          have q1 := hq.cell 1
          have q2 := hq.cell 2
          simp only [List.getElem?_toArray, List.getElem?_cons_succ, List.getElem?_cons_zero] at q0 q1 q2
          have zq := hq.lt
          have zm := KT.out.size
          have zn : ¬ (w.heap.size = ((x9.alloc (.cells #[.string fi.1, .int .i64 fi.2] 30))).heap.size) := by omega
          clear hq
          have cBF := BF.out.cell 0
          have dBF := BF.out.cell 1
          simp only [List.getElem?_toArray, List.getElem?_cons_succ, List.getElem?_cons_zero] at cBF dBF
          have lBF := BF.out.lt
          have cBM := BM.out.cell 0
          have dBM := BM.out.cell 1
          simp only [List.getElem?_toArray, List.getElem?_cons_succ, List.getElem?_cons_zero] at cBM dBM
          have lBM := BM.out.lt
          have cBI := BI.out.cell 0
          have dBI := BI.out.cell 1
          simp only [List.getElem?_toArray, List.getElem?_cons_succ, List.getElem?_cons_zero] at cBI dBI
          have lBI := BI.out.lt
          go_wp2_with fail
          refine (law12_declares D fi rc rn rd false _ _ (HT.out.kept KT.out) HD.out.th (by exact HD.out.at_)).mono ?_
          rintro e x10 ⟨rfl, k⟩
          clear q0 q1 q2 zq zm zn cBF dBF lBF cBM dBM lBM cBI dBI lBI
          have BFn := BF.out.kept k
          clear BF
          have BF := Lib.hid BFn
          clear BFn
          have BMn := BM.out.kept k
          clear BM
          have BM := Lib.hid BMn
          clear BMn
          have BIn := BI.out.kept k
          clear BI
          have BI := Lib.hid BIn
          clear BIn
          have BRn := BR.out.kept k
          clear BR
          have BR := Lib.hid BRn
          clear BRn
          have KTn := Kept.trans KT.out k
          clear KT
          have KT := Lib.hid KTn
          clear KTn k
          have CS := kin_Sub D rc fi.1 _ _ (HT.out.kept KT.out) HRC.out
          rw [decide_eq_false HSB.out] at CS
          have CS := Lib.hid CS
          have hq := BR.out
          have q0 := hq.cell 0
          have q1 := hq.cell 1
          have q2 := hq.cell 2
          simp only [List.getElem?_toArray, List.getElem?_cons_succ, List.getElem?_cons_zero] at q0 q1 q2
          have zq := hq.lt
          have zm := KT.out.size
          have zn : ¬ (w.heap.size = (x10).heap.size) := by omega
          clear hq
          have cBF := BF.out.cell 0
          have dBF := BF.out.cell 1
          simp only [List.getElem?_toArray, List.getElem?_cons_succ, List.getElem?_cons_zero] at cBF dBF
          have lBF := BF.out.lt
          have cBM := BM.out.cell 0
          have dBM := BM.out.cell 1
          simp only [List.getElem?_toArray, List.getElem?_cons_succ, List.getElem?_cons_zero] at cBM dBM
          have lBM := BM.out.lt
          have cBI := BI.out.cell 0
          have dBI := BI.out.cell 1
          simp only [List.getElem?_toArray, List.getElem?_cons_succ, List.getElem?_cons_zero] at cBI dBI
          have lBI := BI.out.lt
          go_wp2_with fail
          refine (CS.out).mono ?_
          rintro e x11 ⟨rfl, k⟩
          clear q0 q1 q2 zq zm zn cBF dBF lBF cBM dBM lBM cBI dBI lBI
          have BFn := BF.out.kept k
          clear BF
          have BF := Lib.hid BFn
          clear BFn
          have BMn := BM.out.kept k
          clear BM
          have BM := Lib.hid BMn
          clear BMn
          have BIn := BI.out.kept k
          clear BI
          have BI := Lib.hid BIn
          clear BIn
          have BRn := BR.out.kept k
          clear BR
          have BR := Lib.hid BRn
          clear BRn
          have KTn := Kept.trans KT.out k
          clear KT
          have KT := Lib.hid KTn
          clear KTn k
          clear CS
          have hob := HOB.out
          have hq := BR.out
          have q0 := hq.cell 0
          have q1 := hq.cell 1
          have q2 := hq.cell 2
          simp only [List.getElem?_toArray, List.getElem?_cons_succ, List.getElem?_cons_zero] at q0 q1 q2
          have zq := hq.lt
          have zm := KT.out.size
          have zn : ¬ (w.heap.size = (x11).heap.size) := by omega
          clear hq
          have cBF := BF.out.cell 0
          have dBF := BF.out.cell 1
          simp only [List.getElem?_toArray, List.getElem?_cons_succ, List.getElem?_cons_zero] at cBF dBF
          have lBF := BF.out.lt
          have cBM := BM.out.cell 0
          have dBM := BM.out.cell 1
          simp only [List.getElem?_toArray, List.getElem?_cons_succ, List.getElem?_cons_zero] at cBM dBM
          have lBM := BM.out.lt
          have cBI := BI.out.cell 0
          have dBI := BI.out.cell 1
          simp only [List.getElem?_toArray, List.getElem?_cons_succ, List.getElem?_cons_zero] at cBI dBI
          have lBI := BI.out.lt
          go_wp2_with fail
          go_ret
          exact ⟨rfl, Kept.trans K2.out KT.out⟩
      · rw [hf]
        unfold resV f0
        have hei := he
        unfold ErrB at hei
        clear hf he
        have BFn := BF.out.alloc (.cells #[.string ⟨#[]⟩, .int .i64 0] 30)
        clear BF
        have BF := Lib.hid BFn
        clear BFn
        have BMn := BM.out.alloc (.cells #[.string ⟨#[]⟩, .int .i64 0] 30)
        clear BM
        have BM := Lib.hid BMn
        clear BMn
        have BRn := BR.out.alloc (.cells #[.string ⟨#[]⟩, .int .i64 0] 30)
        clear BR
        have BR := Lib.hid BRn
        clear BRn
        have KTn := KT.out.alloc KT.out.size (.cells #[.string ⟨#[]⟩, .int .i64 0] 30)
        clear KT
        have KT := Lib.hid KTn
        clear KTn
        have BI := Lib.hid (Blk.new x9 30 #[.string ⟨#[]⟩, .int .i64 0])
        have hq := BR.out
        have q0 := hq.cell 0
        have q1 := hq.cell 1
        have q2 := hq.cell 2
        simp only [List.getElem?_toArray, List.getElem?_cons_succ, List.getElem?_cons_zero] at q0 q1 q2
        have zq := hq.lt
        have zm := KT.out.size
        have zn : ¬ (w.heap.size = ((x9.alloc (.cells #[.string ⟨#[]⟩, .int .i64 0] 30))).heap.size) := by omega
        clear hq
        have cBF := BF.out.cell 0
        have dBF := BF.out.cell 1
        simp only [List.getElem?_toArray, List.getElem?_cons_succ, List.getElem?_cons_zero] at cBF dBF
        have lBF := BF.out.lt
        have cBM := BM.out.cell 0
        have dBM := BM.out.cell 1
        simp only [List.getElem?_toArray, List.getElem?_cons_succ, List.getElem?_cons_zero] at cBM dBM
        have lBM := BM.out.lt
        have cBI := BI.out.cell 0
        have dBI := BI.out.cell 1
        simp only [List.getElem?_toArray, List.getElem?_cons_succ, List.getElem?_cons_zero] at cBI dBI
        have lBI := BI.out.lt
        go_wp2_with fail
        go_ret
        exact ⟨rfl, Kept.trans K2.out KT.out⟩
    · rw [hf]
      unfold resV f0
      have hem := he
      unfold ErrB at hem
      clear hf he
      have BFn := BF.out.alloc (.cells #[.string ⟨#[]⟩, .int .i64 0] 30)
      clear BF
      have BF := Lib.hid BFn
      clear BFn
      have BRn := BR.out.alloc (.cells #[.string ⟨#[]⟩, .int .i64 0] 30)
      clear BR
      have BR := Lib.hid BRn
      clear BRn
      have KTn := KT.out.alloc KT.out.size (.cells #[.string ⟨#[]⟩, .int .i64 0] 30)
      clear KT
      have KT := Lib.hid KTn
      clear KTn
      have BM := Lib.hid (Blk.new x6 30 #[.string ⟨#[]⟩, .int .i64 0])
      have hq := BR.out
      have q0 := hq.cell 0
      have q1 := hq.cell 1
      have q2 := hq.cell 2
      simp only [List.getElem?_toArray, List.getElem?_cons_succ, List.getElem?_cons_zero] at q0 q1 q2
      have zq := hq.lt
      have zm := KT.out.size
      have zn : ¬ (w.heap.size = ((x6.alloc (.cells #[.string ⟨#[]⟩, .int .i64 0] 30))).heap.size) := by omega
      clear hq
      have cBF := BF.out.cell 0
      have dBF := BF.out.cell 1
      simp only [List.getElem?_toArray, List.getElem?_cons_succ, List.getElem?_cons_zero] at cBF dBF
      have lBF := BF.out.lt
      have cBM := BM.out.cell 0
      have dBM := BM.out.cell 1
      simp only [List.getElem?_toArray, List.getElem?_cons_succ, List.getElem?_cons_zero] at cBM dBM
      have lBM := BM.out.lt
      go_wp2_with fail
      refine (find_Face D rc rn rd _ _ (HT.out.kept KT.out) HRC.out).mono ?_
      rintro e x7 ⟨rfl, k⟩
      clear q0 q1 q2 zq zm zn cBF dBF lBF cBM dBM lBM
      have BFn := BF.out.kept k
      clear BF
      have BF := Lib.hid BFn
      clear BFn
      have BMn := BM.out.kept k
      clear BM
      have BM := Lib.hid BMn
      clear BMn
      have BRn := BR.out.kept k
      clear BR
      have BR := Lib.hid BRn
      clear BRn
      have KTn := Kept.trans KT.out k
      clear KT
      have KT := Lib.hid KTn
      clear KTn k
      rcases face_cases D rc rn rd with ⟨fi, hf, hd, hs⟩ | ⟨ei, hf, he⟩
      · rw [hf]
        unfold resV
        have HD := Lib.hid hd
        by_cases hsb : subB D rc fi.1
        · have HSB := Lib.hid hsb
          clear hf hd hs hsb
          have BFn := BF.out.alloc (.cells #[.string fi.1, .int .i64 fi.2] 30)
          clear BF
          have BF := Lib.hid BFn
          clear BFn
          have BMn := BM.out.alloc (.cells #[.string fi.1, .int .i64 fi.2] 30)
          clear BM
          have BM := Lib.hid BMn
          clear BMn
          have BRn := BR.out.alloc (.cells #[.string fi.1, .int .i64 fi.2] 30)
          clear BR
          have BR := Lib.hid BRn
          clear BRn
          have KTn := KT.out.alloc KT.out.size (.cells #[.string fi.1, .int .i64 fi.2] 30)
          clear KT
          have KT := Lib.hid KTn
          clear KTn
          have BI := Lib.hid (Blk.new x7 30 #[.string fi.1, .int .i64 fi.2])
          have hq := BR.out
          have q0 := hq.cell 0
          have q1 := hq.cell 1
          have q2 := hq.cell 2
          simp only [List.getElem?_toArray, List.getElem?_cons_succ, List.getElem?_cons_zero] at q0 q1 q2
          have zq := hq.lt
          have zm := KT.out.size
          have zn : ¬ (w.heap.size = ((x7.alloc (.cells #[.string fi.1, .int .i64 fi.2] 30))).heap.size) := by omega
          clear hq
          have cBF := BF.out.cell 0
          have dBF := BF.out.cell 1
          simp only [List.getElem?_toArray, List.getElem?_cons_succ, List.getElem?_cons_zero] at cBF dBF
          have lBF := BF.out.lt
          have cBM := BM.out.cell 0
          have dBM := BM.out.cell 1
          simp only [List.getElem?_toArray, List.getElem?_cons_succ, List.getElem?_cons_zero] at cBM dBM
          have lBM := BM.out.lt
          have cBI := BI.out.cell 0
          have dBI := BI.out.cell 1
          simp only [List.getElem?_toArray, List.getElem?_cons_succ, List.getElem?_cons_zero] at cBI dBI
          have lBI := BI.out.lt
          go_wp2_with fail
          refine (law12_declares D fi rc rn rd false _ _ (HT.out.kept KT.out) HD.out.th (by exact HD.out.at_)).mono ?_
          rintro e x8 ⟨rfl, k⟩
          clear q0 q1 q2 zq zm zn cBF dBF lBF cBM dBM lBM cBI dBI lBI
          have BFn := BF.out.kept k
          clear BF
          have BF := Lib.hid BFn
          clear BFn
          have BMn := BM.out.kept k
          clear BM
          have BM := Lib.hid BMn
          clear BMn
          have BIn := BI.out.kept k
          clear BI
          have BI := Lib.hid BIn
          clear BIn
          have BRn := BR.out.kept k
          clear BR
          have BR := Lib.hid BRn
          clear BRn
          have KTn := Kept.trans KT.out k
          clear KT
          have KT := Lib.hid KTn
          clear KTn k
          have CS := kin_Sub D rc fi.1 _ _ (HT.out.kept KT.out) HRC.out
          rw [decide_eq_true HSB.out] at CS
          have CS := Lib.hid CS
          have hq := BR.out
          have q0 := hq.cell 0
          have q1 := hq.cell 1
          have q2 := hq.cell 2
          simp only [List.getElem?_toArray, List.getElem?_cons_succ, List.getElem?_cons_zero] at q0 q1 q2
          have zq := hq.lt
          have zm := KT.out.size
          have zn : ¬ (w.heap.size = (x8).heap.size) := by omega
          clear hq
          have cBF := BF.out.cell 0
          have dBF := BF.out.cell 1
          simp only [List.getElem?_toArray, List.getElem?_cons_succ, List.getElem?_cons_zero] at cBF dBF
          have lBF := BF.out.lt
          have cBM := BM.out.cell 0
          have dBM := BM.out.cell 1
          simp only [List.getElem?_toArray, List.getElem?_cons_succ, List.getElem?_cons_zero] at cBM dBM
          have lBM := BM.out.lt
          have cBI := BI.out.cell 0
          have dBI := BI.out.cell 1
          simp only [List.getElem?_toArray, List.getElem?_cons_succ, List.getElem?_cons_zero] at cBI dBI
          have lBI := BI.out.lt
          go_wp2_with fail
          refine (CS.out).mono ?_
          rintro e x9 ⟨rfl, k⟩
          clear q0 q1 q2 zq zm zn cBF dBF lBF cBM dBM lBM cBI dBI lBI
          have BFn := BF.out.kept k
          clear BF
          have BF := Lib.hid BFn
          clear BFn
          have BMn := BM.out.kept k
          clear BM
          have BM := Lib.hid BMn
          clear BMn
          have BIn := BI.out.kept k
          clear BI
          have BI := Lib.hid BIn
          clear BIn
          have BRn := BR.out.kept k
          clear BR
          have BR := Lib.hid BRn
          clear BRn
          have KTn := Kept.trans KT.out k
          clear KT
          have KT := Lib.hid KTn
          clear KTn k
          clear CS
          have hq := BR.out
          have q0 := hq.cell 0
          have q1 := hq.cell 1
          have q2 := hq.cell 2
          simp only [List.getElem?_toArray, List.getElem?_cons_succ, List.getElem?_cons_zero] at q0 q1 q2
          have zq := hq.lt
          have zm := KT.out.size
          have zn : ¬ (w.heap.size = (x9).heap.size) := by omega
          clear hq
          have cBF := BF.out.cell 0
          have dBF := BF.out.cell 1
          simp only [List.getElem?_toArray, List.getElem?_cons_succ, List.getElem?_cons_zero] at cBF dBF
          have lBF := BF.out.lt
          have cBM := BM.out.cell 0
          have dBM := BM.out.cell 1
          simp only [List.getElem?_toArray, List.getElem?_cons_succ, List.getElem?_cons_zero] at cBM dBM
          have lBM := BM.out.lt
          have cBI := BI.out.cell 0
          have dBI := BI.out.cell 1
          simp only [List.getElem?_toArray, List.getElem?_cons_succ, List.getElem?_cons_zero] at cBI dBI
          have lBI := BI.out.lt
          go_wp2_with fail
          go_ret
          exact ⟨rfl, Kept.trans K2.out KT.out⟩
        · have HSB := Lib.hid hsb
          have HOB := Lib.hid (show fi.1.toList = [106, 97, 118, 97, 47, 108, 97, 110, 103, 47, 79, 98, 106, 101, 99, 116] by rw [hs.resolve_left hsb]; simp [objB, ByteArray.toList_eq])
          clear hf hd hs hsb
          have BFn := BF.out.alloc (.cells #[.string fi.1, .int .i64 fi.2] 30)
          clear BF
          have BF := Lib.hid BFn
          clear BFn
          have BMn := BM.out.alloc (.cells #[.string fi.1, .int .i64 fi.2] 30)
          clear BM
          have BM := Lib.hid BMn
          clear BMn
          have BRn := BR.out.alloc (.cells #[.string fi.1, .int .i64 fi.2] 30)
          clear BR
          have BR := Lib.hid BRn
          clear BRn
          have KTn := KT.out.alloc KT.out.size (.cells #[.string fi.1, .int .i64 fi.2] 30)
          clear KT
          have KT := Lib.hid KTn
          clear KTn
          have BI := Lib.hid (Blk.new x7 30 #[.string fi.1, .int .i64 fi.2])
          have hq := BR.out
          have q0 := hq.cell 0
          have q1 := hq.cell 1
          have q2 := hq.cell 2
          simp only [List.getElem?_toArray, List.getElem?_cons_succ, List.getElem?_cons_zero] at q0 q1 q2
          have zq := hq.lt
          have zm := KT.out.size
          have zn : ¬ (w.heap.size = ((x7.alloc (.cells #[.string fi.1, .int .i64 fi.2] 30))).heap.size) := by omega
          clear hq
          have cBF := BF.out.cell 0
          have dBF := BF.out.cell 1
          simp only [List.getElem?_toArray, List.getElem?_cons_succ, List.getElem?_cons_zero] at cBF dBF
          have lBF := BF.out.lt
          have cBM := BM.out.cell 0
          have dBM := BM.out.cell 1
          simp only [List.getElem?_toArray, List.getElem?_cons_succ, List.getElem?_cons_zero] at cBM dBM
          have lBM := BM.out.lt
          have cBI := BI.out.cell 0
          have dBI := BI.out.cell 1
          simp only [List.getElem?_toArray, List.getElem?_cons_succ, List.getElem?_cons_zero] at cBI dBI
          have lBI := BI.out.lt
          go_wp2_with fail
          refine (law12_declares D fi rc rn rd false _ _ (HT.out.kept KT.out) HD.out.th (by exact HD.out.at_)).mono ?_
          rintro e x8 ⟨rfl, k⟩
          clear q0 q1 q2 zq zm zn cBF dBF lBF cBM dBM lBM cBI dBI lBI
          have BFn := BF.out.kept k
          clear BF
          have BF := Lib.hid BFn
          clear BFn
          have BMn := BM.out.kept k
          clear BM
          have BM := Lib.hid BMn
          clear BMn
          have BIn := BI.out.kept k
          clear BI
          have BI := Lib.hid BIn
          clear BIn
          have BRn := BR.out.kept k
          clear BR
          have BR := Lib.hid BRn
          clear BRn
          have KTn := Kept.trans KT.out k
          clear KT
          have KT := Lib.hid KTn
          clear KTn k
          have CS := kin_Sub D rc fi.1 _ _ (HT.out.kept KT.out) HRC.out
          rw [decide_eq_false HSB.out] at CS
          have CS := Lib.hid CS
          have hq := BR.out
          have q0 := hq.cell 0
          have q1 := hq.cell 1
          have q2 := hq.cell 2
          simp only [List.getElem?_toArray, List.getElem?_cons_succ, List.getElem?_cons_zero] at q0 q1 q2
          have zq := hq.lt
          have zm := KT.out.size
          have zn : ¬ (w.heap.size = (x8).heap.size) := by omega
          clear hq
          have cBF := BF.out.cell 0
          have dBF := BF.out.cell 1
          simp only [List.getElem?_toArray, List.getElem?_cons_succ, List.getElem?_cons_zero] at cBF dBF
          have lBF := BF.out.lt
          have cBM := BM.out.cell 0
          have dBM := BM.out.cell 1
          simp only [List.getElem?_toArray, List.getElem?_cons_succ, List.getElem?_cons_zero] at cBM dBM
          have lBM := BM.out.lt
          have cBI := BI.out.cell 0
          have dBI := BI.out.cell 1
          simp only [List.getElem?_toArray, List.getElem?_cons_succ, List.getElem?_cons_zero] at cBI dBI
          have lBI := BI.out.lt
          go_wp2_with fail
          refine (CS.out).mono ?_
          rintro e x9 ⟨rfl, k⟩
          clear q0 q1 q2 zq zm zn cBF dBF lBF cBM dBM lBM cBI dBI lBI
          have BFn := BF.out.kept k
          clear BF
          have BF := Lib.hid BFn
          clear BFn
          have BMn := BM.out.kept k
          clear BM
          have BM := Lib.hid BMn
          clear BMn
          have BIn := BI.out.kept k
          clear BI
          have BI := Lib.hid BIn
          clear BIn
          have BRn := BR.out.kept k
          clear BR
          have BR := Lib.hid BRn
          clear BRn
          have KTn := Kept.trans KT.out k
          clear KT
          have KT := Lib.hid KTn
          clear KTn k
          clear CS
          have hob := HOB.out
          have hq := BR.out
          have q0 := hq.cell 0
          have q1 := hq.cell 1
          have q2 := hq.cell 2
          simp only [List.getElem?_toArray, List.getElem?_cons_succ, List.getElem?_cons_zero] at q0 q1 q2
          have zq := hq.lt
          have zm := KT.out.size
          have zn : ¬ (w.heap.size = (x9).heap.size) := by omega
          clear hq
          have cBF := BF.out.cell 0
          have dBF := BF.out.cell 1
          simp only [List.getElem?_toArray, List.getElem?_cons_succ, List.getElem?_cons_zero] at cBF dBF
          have lBF := BF.out.lt
          have cBM := BM.out.cell 0
          have dBM := BM.out.cell 1
          simp only [List.getElem?_toArray, List.getElem?_cons_succ, List.getElem?_cons_zero] at cBM dBM
          have lBM := BM.out.lt
          have cBI := BI.out.cell 0
          have dBI := BI.out.cell 1
          simp only [List.getElem?_toArray, List.getElem?_cons_succ, List.getElem?_cons_zero] at cBI dBI
          have lBI := BI.out.lt
          go_wp2_with fail
          go_ret
          exact ⟨rfl, Kept.trans K2.out KT.out⟩
      · rw [hf]
        unfold resV f0
        have hei := he
        unfold ErrB at hei
        clear hf he
        have BFn := BF.out.alloc (.cells #[.string ⟨#[]⟩, .int .i64 0] 30)
        clear BF
        have BF := Lib.hid BFn
        clear BFn
        have BMn := BM.out.alloc (.cells #[.string ⟨#[]⟩, .int .i64 0] 30)
        clear BM
        have BM := Lib.hid BMn
        clear BMn
        have BRn := BR.out.alloc (.cells #[.string ⟨#[]⟩, .int .i64 0] 30)
        clear BR
        have BR := Lib.hid BRn
        clear BRn
        have KTn := KT.out.alloc KT.out.size (.cells #[.string ⟨#[]⟩, .int .i64 0] 30)
        clear KT
        have KT := Lib.hid KTn
        clear KTn
        have BI := Lib.hid (Blk.new x7 30 #[.string ⟨#[]⟩, .int .i64 0])
        have hq := BR.out
        have q0 := hq.cell 0
        have q1 := hq.cell 1
        have q2 := hq.cell 2
        simp only [List.getElem?_toArray, List.getElem?_cons_succ, List.getElem?_cons_zero] at q0 q1 q2
        have zq := hq.lt
        have zm := KT.out.size
        have zn : ¬ (w.heap.size = ((x7.alloc (.cells #[.string ⟨#[]⟩, .int .i64 0] 30))).heap.size) := by omega
        clear hq
        have cBF := BF.out.cell 0
        have dBF := BF.out.cell 1
        simp only [List.getElem?_toArray, List.getElem?_cons_succ, List.getElem?_cons_zero] at cBF dBF
        have lBF := BF.out.lt
        have cBM := BM.out.cell 0
        have dBM := BM.out.cell 1
        simp only [List.getElem?_toArray, List.getElem?_cons_succ, List.getElem?_cons_zero] at cBM dBM
        have lBM := BM.out.lt
        have cBI := BI.out.cell 0
        have dBI := BI.out.cell 1
        simp only [List.getElem?_toArray, List.getElem?_cons_succ, List.getElem?_cons_zero] at cBI dBI
        have lBI := BI.out.lt
        go_wp2_with fail
        go_ret
        exact ⟨rfl, Kept.trans K2.out KT.out⟩

set_option maxHeartbeats 20000000 in
theorem walk_FindThere2 (l : List TypeV) (v : Value) (r : RefV) (w : World) (hr : Rd w 6 v l.length (l.flatMap encTypeV)) (hok : ∀ y ∈ l, TypeV.Ok w y) (hlen : l.length ≤ 140737488351232) (hrk : RefV.Ok w r) (hfl : fieldL (l.map TypeV.d) r.cls r.name r.desc = none) (hka : atO (l.map TypeV.d) r.cls = none) :
    Calls Try.prog 7 #[v, .agg (encRefV r).toArray] w fun e w' => e = .returned (.bool true) ∧ Below w.heap.size w w' := by
  obtain ⟨rc, rn, rd⟩ := r
  show Calls Try.prog 7 #[v, .agg #[.string rc, .string rn, .string rd]] w _
  obtain ⟨hrc, hrn, hrd⟩ := hrk
  have HRC := Lib.hid (show rc.size ≤ maxLen from hrc)
  have HRN := Lib.hid (show rn.size ≤ maxLen from hrn)
  have HRD := Lib.hid (show rd.size ≤ maxLen from hrd)
  have HR := Lib.hid hr
  have HOK := Lib.hid hok
  have b0 := Blk.new w 24 #[.string rc, .string rn, .string rd]
  have k0 : Kept w (w.alloc (.cells #[.string rc, .string rn, .string rd] 24)) := (Below.refl _ _).alloc (Nat.le_refl _) _
  have K0 := Lib.hid k0
  have B0 := Lib.hid b0
  clear hr hok hrc hrn hrd b0 k0
  go_enter Try.func7, Try.ntmps7
  go_wp2_with fail
  generalize (w.alloc (.cells #[.string rc, .string rn, .string rd] 24)) = W at *
  refine (alive12 _).mono ?_
  rintro e w1 ⟨rfl, k1⟩
  have K1 := Lib.hid (Kept.trans K0.out k1)
  have B1 := Lib.hid (B0.out.kept k1)
  clear k1
  go_wp2_with fail
  refine (law9_Big l v w1 (HR.out.kept K1.out) (fun y hy => Ok.keep_ (HOK.out y hy) K1.out) hlen).mono ?_
  rintro e w2 ⟨h2, m2, hw2⟩
  have K12 := Lib.hid (show Kept w1 w2 by rw [hw2]; exact kept_drewN (Below.refl _ _) m2)
  have K2 := Lib.hid (Kept.trans K1.out K12.out)
  clear hw2
  rcases h2 with rfl | ⟨rfl, h60, hct⟩
  · go_wp2_with fail
    go_ret
    exact ⟨rfl, K2.out⟩
  · have hT := tyR_of (HR.out.kept K2.out) (fun y hy => Ok.keep_ (HOK.out y hy) K2.out) h60
    have HT := Lib.hid hT
    have hci := count_ifs_ hct
    obtain ⟨D, hD⟩ : ∃ D, D = l.map TypeV.d := ⟨_, rfl⟩
    rw [← hD] at HT hci hfl hka
    have HCI := Lib.hid hci
    have BR := Lib.hid (B1.out.kept K12.out)
    have KT := Lib.hid (Below.refl w2.heap.size w2)
    have hDl := HT.out.len
    clear hT hct hD hci
    have hq := BR.out
    have q0 := hq.cell 0
    have q1 := hq.cell 1
    have q2 := hq.cell 2
    simp only [List.getElem?_toArray, List.getElem?_cons_succ, List.getElem?_cons_zero] at q0 q1 q2
    have zq := hq.lt
    have zm := KT.out.size
    have zn : ¬ (w.heap.size = (w2).heap.size) := by omega
    clear hq
    go_wp2_with fail
    refine (find_Field D rc rn rd _ _ (HT.out.kept KT.out) HRC.out HRN.out HRD.out HCI.out).mono ?_
    rintro e x3 ⟨rfl, k⟩
    clear q0 q1 q2 zq zm zn
    have BRn := BR.out.kept k
    clear BR
    have BR := Lib.hid BRn
    clear BRn
    have KTn := Kept.trans KT.out k
    clear KT
    have KT := Lib.hid KTn
    clear KTn k
    unfold fieldR
    skip
    rw [hfl]
    have HFN := Lib.hid hfl
    unfold fldRes resV f0
    simp only
    obtain ⟨ef, hef⟩ : ∃ e, e = nfB := ⟨_, rfl⟩
    have heE : ef.toList.isEmpty = false := by rw [hef]; exact nf_err
    rw [← hef]
    clear hfl hef
    have BRn := BR.out.alloc (.cells #[.string ⟨#[]⟩, .int .i64 0] 30)
    clear BR
    have BR := Lib.hid BRn
    clear BRn
    have KTn := KT.out.alloc KT.out.size (.cells #[.string ⟨#[]⟩, .int .i64 0] 30)
    clear KT
    have KT := Lib.hid KTn
    clear KTn
    have BF := Lib.hid (Blk.new x3 30 #[.string ⟨#[]⟩, .int .i64 0])
    have CA := kin_At D rc _ (x3.alloc (.cells #[.string ⟨#[]⟩, .int .i64 0] 30)) (HT.out.kept KT.out)
    rw [atI_none hka] at CA
    have CA := Lib.hid CA
    clear hka
    have hq := BR.out
    have q0 := hq.cell 0
    have q1 := hq.cell 1
    have q2 := hq.cell 2
    simp only [List.getElem?_toArray, List.getElem?_cons_succ, List.getElem?_cons_zero] at q0 q1 q2
    have zq := hq.lt
    have zm := KT.out.size
    have zn : ¬ (w.heap.size = ((x3.alloc (.cells #[.string ⟨#[]⟩, .int .i64 0] 30))).heap.size) := by omega
    clear hq
    have cBF := BF.out.cell 0
    have dBF := BF.out.cell 1
    simp only [List.getElem?_toArray, List.getElem?_cons_succ, List.getElem?_cons_zero] at cBF dBF
    have lBF := BF.out.lt
    go_wp2_with fail
    refine CA.out.mono ?_
    rintro e xa ⟨rfl, rfl⟩
    clear CA
    go_wp2_with fail
    go_quiet (fail)
    clear q0 q1 q2 zq zm zn cBF dBF lBF
    rename_i nq
    have k : Kept (x3.alloc (.cells #[.string ⟨#[]⟩, .int .i64 0] 30)) (((x3.alloc (.cells #[.string ⟨#[]⟩, .int .i64 0] 30))).drewN nq) := kept_drewN (Below.refl _ _) nq
    generalize ((x3.alloc (.cells #[.string ⟨#[]⟩, .int .i64 0] 30))).drewN nq = x4 at *
    have BFn := BF.out.kept k
    clear BF
    have BF := Lib.hid BFn
    clear BFn
    have BRn := BR.out.kept k
    clear BR
    have BR := Lib.hid BRn
    clear BRn
    have KTn := Kept.trans KT.out k
    clear KT
    have KT := Lib.hid KTn
    clear KTn k
    have hq := BR.out
    have q0 := hq.cell 0
    have q1 := hq.cell 1
    have q2 := hq.cell 2
    simp only [List.getElem?_toArray, List.getElem?_cons_succ, List.getElem?_cons_zero] at q0 q1 q2
    have zq := hq.lt
    have zm := KT.out.size
    have zn : ¬ (w.heap.size = (x4).heap.size) := by omega
    clear hq
    have cBF := BF.out.cell 0
    have dBF := BF.out.cell 1
    simp only [List.getElem?_toArray, List.getElem?_cons_succ, List.getElem?_cons_zero] at cBF dBF
    have lBF := BF.out.lt
    go_wp2_with fail
    refine (find_Method D rc rn rd _ _ (HT.out.kept KT.out) HRC.out).mono ?_
    rintro e x5 ⟨rfl, k⟩
    clear q0 q1 q2 zq zm zn cBF dBF lBF
    have BFn := BF.out.kept k
    clear BF
    have BF := Lib.hid BFn
    clear BFn
    have BRn := BR.out.kept k
    clear BR
    have BR := Lib.hid BRn
    clear BRn
    have KTn := Kept.trans KT.out k
    clear KT
    have KT := Lib.hid KTn
    clear KTn k
    rcases meth_cases D rc rn rd with ⟨fm, hf, hd, hs⟩ | ⟨em, hf, he⟩
    · rw [hf]
      unfold resV
      have HDM := Lib.hid hd
      have HSM := Lib.hid hs
      clear hf hd hs
      have BFn := BF.out.alloc (.cells #[.string fm.1, .int .i64 fm.2] 30)
      clear BF
      have BF := Lib.hid BFn
      clear BFn
      have BRn := BR.out.alloc (.cells #[.string fm.1, .int .i64 fm.2] 30)
      clear BR
      have BR := Lib.hid BRn
      clear BRn
      have KTn := KT.out.alloc KT.out.size (.cells #[.string fm.1, .int .i64 fm.2] 30)
      clear KT
      have KT := Lib.hid KTn
      clear KTn
      have BM := Lib.hid (Blk.new x5 30 #[.string fm.1, .int .i64 fm.2])
      have hq := BR.out
      have q0 := hq.cell 0
      have q1 := hq.cell 1
      have q2 := hq.cell 2
      simp only [List.getElem?_toArray, List.getElem?_cons_succ, List.getElem?_cons_zero] at q0 q1 q2
      have zq := hq.lt
      have zm := KT.out.size
      have zn : ¬ (w.heap.size = ((x5.alloc (.cells #[.string fm.1, .int .i64 fm.2] 30))).heap.size) := by omega
      clear hq
      have cBF := BF.out.cell 0
      have dBF := BF.out.cell 1
      simp only [List.getElem?_toArray, List.getElem?_cons_succ, List.getElem?_cons_zero] at cBF dBF
      have lBF := BF.out.lt
      have cBM := BM.out.cell 0
      have dBM := BM.out.cell 1
      simp only [List.getElem?_toArray, List.getElem?_cons_succ, List.getElem?_cons_zero] at cBM dBM
      have lBM := BM.out.lt
      go_wp2_with fail
      refine (law12_declares D fm rc rn rd false _ _ (HT.out.kept KT.out) HDM.out.th (by exact HDM.out.at_)).mono ?_
      rintro e x6 ⟨rfl, k⟩
      clear q0 q1 q2 zq zm zn cBF dBF lBF cBM dBM lBM
      have BFn := BF.out.kept k
      clear BF
      have BF := Lib.hid BFn
      clear BFn
      have BMn := BM.out.kept k
      clear BM
      have BM := Lib.hid BMn
      clear BMn
      have BRn := BR.out.kept k
      clear BR
      have BR := Lib.hid BRn
      clear BRn
      have KTn := Kept.trans KT.out k
      clear KT
      have KT := Lib.hid KTn
      clear KTn k
      have CS := kin_Sub D rc fm.1 _ _ (HT.out.kept KT.out) HRC.out
      rw [decide_eq_true HSM.out] at CS
      have CS := Lib.hid CS
      have hq := BR.out
      have q0 := hq.cell 0
      have q1 := hq.cell 1
      have q2 := hq.cell 2
      simp only [List.getElem?_toArray, List.getElem?_cons_succ, List.getElem?_cons_zero] at q0 q1 q2
      have zq := hq.lt
      have zm := KT.out.size
      have zn : ¬ (w.heap.size = (x6).heap.size) := by omega
      clear hq
      have cBF := BF.out.cell 0
      have dBF := BF.out.cell 1
      simp only [List.getElem?_toArray, List.getElem?_cons_succ, List.getElem?_cons_zero] at cBF dBF
      have lBF := BF.out.lt
      have cBM := BM.out.cell 0
      have dBM := BM.out.cell 1
      simp only [List.getElem?_toArray, List.getElem?_cons_succ, List.getElem?_cons_zero] at cBM dBM
      have lBM := BM.out.lt
      go_wp2_with fail
      refine (CS.out).mono ?_
      rintro e x7 ⟨rfl, k⟩
      clear q0 q1 q2 zq zm zn cBF dBF lBF cBM dBM lBM
      have BFn := BF.out.kept k
      clear BF
      have BF := Lib.hid BFn
      clear BFn
      have BMn := BM.out.kept k
      clear BM
      have BM := Lib.hid BMn
      clear BMn
      have BRn := BR.out.kept k
      clear BR
      have BR := Lib.hid BRn
      clear BRn
      have KTn := Kept.trans KT.out k
      clear KT
      have KT := Lib.hid KTn
      clear KTn k
      clear CS
      have hq := BR.out
      have q0 := hq.cell 0
      have q1 := hq.cell 1
      have q2 := hq.cell 2
      simp only [List.getElem?_toArray, List.getElem?_cons_succ, List.getElem?_cons_zero] at q0 q1 q2
      have zq := hq.lt
      have zm := KT.out.size
      have zn : ¬ (w.heap.size = (x7).heap.size) := by omega
      clear hq
      have cBF := BF.out.cell 0
      have dBF := BF.out.cell 1
      simp only [List.getElem?_toArray, List.getElem?_cons_succ, List.getElem?_cons_zero] at cBF dBF
      have lBF := BF.out.lt
      have cBM := BM.out.cell 0
      have dBM := BM.out.cell 1
      simp only [List.getElem?_toArray, List.getElem?_cons_succ, List.getElem?_cons_zero] at cBM dBM
      have lBM := BM.out.lt
      go_wp2_with fail
      refine (find_Face D rc rn rd _ _ (HT.out.kept KT.out) HRC.out).mono ?_
      rintro e x8 ⟨rfl, k⟩
      clear q0 q1 q2 zq zm zn cBF dBF lBF cBM dBM lBM
      have BFn := BF.out.kept k
      clear BF
      have BF := Lib.hid BFn
      clear BFn
      have BMn := BM.out.kept k
      clear BM
      have BM := Lib.hid BMn
      clear BMn
      have BRn := BR.out.kept k
      clear BR
      have BR := Lib.hid BRn
      clear BRn
      have KTn := Kept.trans KT.out k
      clear KT
      have KT := Lib.hid KTn
      clear KTn k
      rcases face_cases D rc rn rd with ⟨fi, hf, hd, hs⟩ | ⟨ei, hf, he⟩
      · rw [hf]
        unfold resV
        have HD := Lib.hid hd
        by_cases hsb : subB D rc fi.1
        · have HSB := Lib.hid hsb
          clear hf hd hs hsb
          have BFn := BF.out.alloc (.cells #[.string fi.1, .int .i64 fi.2] 30)
          clear BF
          have BF := Lib.hid BFn
          clear BFn
          have BMn := BM.out.alloc (.cells #[.string fi.1, .int .i64 fi.2] 30)
          clear BM
          have BM := Lib.hid BMn
          clear BMn
          have BRn := BR.out.alloc (.cells #[.string fi.1, .int .i64 fi.2] 30)
          clear BR
          have BR := Lib.hid BRn
          clear BRn
          have KTn := KT.out.alloc KT.out.size (.cells #[.string fi.1, .int .i64 fi.2] 30)
          clear KT
          have KT := Lib.hid KTn
          clear KTn
          have BI := Lib.hid (Blk.new x8 30 #[.string fi.1, .int .i64 fi.2])
          have hq := BR.out
          have q0 := hq.cell 0
          have q1 := hq.cell 1
          have q2 := hq.cell 2
          simp only [List.getElem?_toArray, List.getElem?_cons_succ, List.getElem?_cons_zero] at q0 q1 q2
          have zq := hq.lt
          have zm := KT.out.size
          have zn : ¬ (w.heap.size = ((x8.alloc (.cells #[.string fi.1, .int .i64 fi.2] 30))).heap.size) := by omega
          clear hq
          have cBF := BF.out.cell 0
          have dBF := BF.out.cell 1
          simp only [List.getElem?_toArray, List.getElem?_cons_succ, List.getElem?_cons_zero] at cBF dBF
          have lBF := BF.out.lt
          have cBM := BM.out.cell 0
          have dBM := BM.out.cell 1
          simp only [List.getElem?_toArray, List.getElem?_cons_succ, List.getElem?_cons_zero] at cBM dBM
          have lBM := BM.out.lt
          have cBI := BI.out.cell 0
          have dBI := BI.out.cell 1
          simp only [List.getElem?_toArray, List.getElem?_cons_succ, List.getElem?_cons_zero] at cBI dBI
          have lBI := BI.out.lt
          go_wp2_with fail
          refine (law12_declares D fi rc rn rd false _ _ (HT.out.kept KT.out) HD.out.th (by exact HD.out.at_)).mono ?_
          rintro e x9 ⟨rfl, k⟩
          clear q0 q1 q2 zq zm zn cBF dBF lBF cBM dBM lBM cBI dBI lBI
          have BFn := BF.out.kept k
          clear BF
          have BF := Lib.hid BFn
          clear BFn
          have BMn := BM.out.kept k
          clear BM
          have BM := Lib.hid BMn
          clear BMn
          have BIn := BI.out.kept k
          clear BI
          have BI := Lib.hid BIn
          clear BIn
          have BRn := BR.out.kept k
          clear BR
          have BR := Lib.hid BRn
          clear BRn
          have KTn := Kept.trans KT.out k
          clear KT
          have KT := Lib.hid KTn
          clear KTn k
          have CS := kin_Sub D rc fi.1 _ _ (HT.out.kept KT.out) HRC.out
          rw [decide_eq_true HSB.out] at CS
          have CS := Lib.hid CS
          have hq := BR.out
          have q0 := hq.cell 0
          have q1 := hq.cell 1
          have q2 := hq.cell 2
          simp only [List.getElem?_toArray, List.getElem?_cons_succ, List.getElem?_cons_zero] at q0 q1 q2
          have zq := hq.lt
          have zm := KT.out.size
          have zn : ¬ (w.heap.size = (x9).heap.size) := by omega
          clear hq
          have cBF := BF.out.cell 0
          have dBF := BF.out.cell 1
          simp only [List.getElem?_toArray, List.getElem?_cons_succ, List.getElem?_cons_zero] at cBF dBF
          have lBF := BF.out.lt
          have cBM := BM.out.cell 0
          have dBM := BM.out.cell 1
          simp only [List.getElem?_toArray, List.getElem?_cons_succ, List.getElem?_cons_zero] at cBM dBM
          have lBM := BM.out.lt
          have cBI := BI.out.cell 0
          have dBI := BI.out.cell 1
          simp only [List.getElem?_toArray, List.getElem?_cons_succ, List.getElem?_cons_zero] at cBI dBI
          have lBI := BI.out.lt
          go_wp2_with fail
          refine (CS.out).mono ?_
          rintro e x10 ⟨rfl, k⟩
          clear q0 q1 q2 zq zm zn cBF dBF lBF cBM dBM lBM cBI dBI lBI
          have BFn := BF.out.kept k
          clear BF
          have BF := Lib.hid BFn
          clear BFn
          have BMn := BM.out.kept k
          clear BM
          have BM := Lib.hid BMn
          clear BMn
          have BIn := BI.out.kept k
          clear BI
          have BI := Lib.hid BIn
          clear BIn
          have BRn := BR.out.kept k
          clear BR
          have BR := Lib.hid BRn
          clear BRn
          have KTn := Kept.trans KT.out k
          clear KT
          have KT := Lib.hid KTn
          clear KTn k
          clear CS
          have hq := BR.out
          have q0 := hq.cell 0
          have q1 := hq.cell 1
          have q2 := hq.cell 2
          simp only [List.getElem?_toArray, List.getElem?_cons_succ, List.getElem?_cons_zero] at q0 q1 q2
          have zq := hq.lt
          have zm := KT.out.size
          have zn : ¬ (w.heap.size = (x10).heap.size) := by omega
          clear hq
          have cBF := BF.out.cell 0
          have dBF := BF.out.cell 1
          simp only [List.getElem?_toArray, List.getElem?_cons_succ, List.getElem?_cons_zero] at cBF dBF
          have lBF := BF.out.lt
          have cBM := BM.out.cell 0
          have dBM := BM.out.cell 1
          simp only [List.getElem?_toArray, List.getElem?_cons_succ, List.getElem?_cons_zero] at cBM dBM
          have lBM := BM.out.lt
          have cBI := BI.out.cell 0
          have dBI := BI.out.cell 1
          simp only [List.getElem?_toArray, List.getElem?_cons_succ, List.getElem?_cons_zero] at cBI dBI
          have lBI := BI.out.lt
          go_wp2_with fail
          go_ret
          exact ⟨rfl, Kept.trans K2.out KT.out⟩
        · have HSB := Lib.hid hsb
          have HOB := Lib.hid (show fi.1.toList = [106, 97, 118, 97, 47, 108, 97, 110, 103, 47, 79, 98, 106, 101, 99, 116] by rw [hs.resolve_left hsb]; simp [objB, ByteArray.toList_eq])
          clear hf hd hs hsb
          have BFn := BF.out.alloc (.cells #[.string fi.1, .int .i64 fi.2] 30)
          clear BF
          have BF := Lib.hid BFn
          clear BFn
          have BMn := BM.out.alloc (.cells #[.string fi.1, .int .i64 fi.2] 30)
          clear BM
          have BM := Lib.hid BMn
          clear BMn
          have BRn := BR.out.alloc (.cells #[.string fi.1, .int .i64 fi.2] 30)
          clear BR
          have BR := Lib.hid BRn
          clear BRn
          have KTn := KT.out.alloc KT.out.size (.cells #[.string fi.1, .int .i64 fi.2] 30)
          clear KT
          have KT := Lib.hid KTn
          clear KTn
          have BI := Lib.hid (Blk.new x8 30 #[.string fi.1, .int .i64 fi.2])
          have hq := BR.out
          have q0 := hq.cell 0
          have q1 := hq.cell 1
          have q2 := hq.cell 2
          simp only [List.getElem?_toArray, List.getElem?_cons_succ, List.getElem?_cons_zero] at q0 q1 q2
          have zq := hq.lt
          have zm := KT.out.size
          have zn : ¬ (w.heap.size = ((x8.alloc (.cells #[.string fi.1, .int .i64 fi.2] 30))).heap.size) := by omega
          clear hq
          have cBF := BF.out.cell 0
          have dBF := BF.out.cell 1
          simp only [List.getElem?_toArray, List.getElem?_cons_succ, List.getElem?_cons_zero] at cBF dBF
          have lBF := BF.out.lt
          have cBM := BM.out.cell 0
          have dBM := BM.out.cell 1
          simp only [List.getElem?_toArray, List.getElem?_cons_succ, List.getElem?_cons_zero] at cBM dBM
          have lBM := BM.out.lt
          have cBI := BI.out.cell 0
          have dBI := BI.out.cell 1
          simp only [List.getElem?_toArray, List.getElem?_cons_succ, List.getElem?_cons_zero] at cBI dBI
          have lBI := BI.out.lt
          go_wp2_with fail
          refine (law12_declares D fi rc rn rd false _ _ (HT.out.kept KT.out) HD.out.th (by exact HD.out.at_)).mono ?_
          rintro e x9 ⟨rfl, k⟩
          clear q0 q1 q2 zq zm zn cBF dBF lBF cBM dBM lBM cBI dBI lBI
          have BFn := BF.out.kept k
          clear BF
          have BF := Lib.hid BFn
          clear BFn
          have BMn := BM.out.kept k
          clear BM
          have BM := Lib.hid BMn
          clear BMn
          have BIn := BI.out.kept k
          clear BI
          have BI := Lib.hid BIn
          clear BIn
          have BRn := BR.out.kept k
          clear BR
          have BR := Lib.hid BRn
          clear BRn
          have KTn := Kept.trans KT.out k
          clear KT
          have KT := Lib.hid KTn
          clear KTn k
          have CS := kin_Sub D rc fi.1 _ _ (HT.out.kept KT.out) HRC.out
          rw [decide_eq_false HSB.out] at CS
          have CS := Lib.hid CS
          have hq := BR.out
          have q0 := hq.cell 0
          have q1 := hq.cell 1
          have q2 := hq.cell 2
          simp only [List.getElem?_toArray, List.getElem?_cons_succ, List.getElem?_cons_zero] at q0 q1 q2
          have zq := hq.lt
          have zm := KT.out.size
          have zn : ¬ (w.heap.size = (x9).heap.size) := by omega
          clear hq
          have cBF := BF.out.cell 0
          have dBF := BF.out.cell 1
          simp only [List.getElem?_toArray, List.getElem?_cons_succ, List.getElem?_cons_zero] at cBF dBF
          have lBF := BF.out.lt
          have cBM := BM.out.cell 0
          have dBM := BM.out.cell 1
          simp only [List.getElem?_toArray, List.getElem?_cons_succ, List.getElem?_cons_zero] at cBM dBM
          have lBM := BM.out.lt
          have cBI := BI.out.cell 0
          have dBI := BI.out.cell 1
          simp only [List.getElem?_toArray, List.getElem?_cons_succ, List.getElem?_cons_zero] at cBI dBI
          have lBI := BI.out.lt
          go_wp2_with fail
          refine (CS.out).mono ?_
          rintro e x10 ⟨rfl, k⟩
          clear q0 q1 q2 zq zm zn cBF dBF lBF cBM dBM lBM cBI dBI lBI
          have BFn := BF.out.kept k
          clear BF
          have BF := Lib.hid BFn
          clear BFn
          have BMn := BM.out.kept k
          clear BM
          have BM := Lib.hid BMn
          clear BMn
          have BIn := BI.out.kept k
          clear BI
          have BI := Lib.hid BIn
          clear BIn
          have BRn := BR.out.kept k
          clear BR
          have BR := Lib.hid BRn
          clear BRn
          have KTn := Kept.trans KT.out k
          clear KT
          have KT := Lib.hid KTn
          clear KTn k
          clear CS
          have hob := HOB.out
          have hq := BR.out
          have q0 := hq.cell 0
          have q1 := hq.cell 1
          have q2 := hq.cell 2
          simp only [List.getElem?_toArray, List.getElem?_cons_succ, List.getElem?_cons_zero] at q0 q1 q2
          have zq := hq.lt
          have zm := KT.out.size
          have zn : ¬ (w.heap.size = (x10).heap.size) := by omega
          clear hq
          have cBF := BF.out.cell 0
          have dBF := BF.out.cell 1
          simp only [List.getElem?_toArray, List.getElem?_cons_succ, List.getElem?_cons_zero] at cBF dBF
          have lBF := BF.out.lt
          have cBM := BM.out.cell 0
          have dBM := BM.out.cell 1
          simp only [List.getElem?_toArray, List.getElem?_cons_succ, List.getElem?_cons_zero] at cBM dBM
          have lBM := BM.out.lt
          have cBI := BI.out.cell 0
          have dBI := BI.out.cell 1
          simp only [List.getElem?_toArray, List.getElem?_cons_succ, List.getElem?_cons_zero] at cBI dBI
          have lBI := BI.out.lt
          go_wp2_with fail
          go_ret
          exact ⟨rfl, Kept.trans K2.out KT.out⟩
      · rw [hf]
        unfold resV f0
        have hei := he
        unfold ErrB at hei
        clear hf he
        have BFn := BF.out.alloc (.cells #[.string ⟨#[]⟩, .int .i64 0] 30)
        clear BF
        have BF := Lib.hid BFn
        clear BFn
        have BMn := BM.out.alloc (.cells #[.string ⟨#[]⟩, .int .i64 0] 30)
        clear BM
        have BM := Lib.hid BMn
        clear BMn
        have BRn := BR.out.alloc (.cells #[.string ⟨#[]⟩, .int .i64 0] 30)
        clear BR
        have BR := Lib.hid BRn
        clear BRn
        have KTn := KT.out.alloc KT.out.size (.cells #[.string ⟨#[]⟩, .int .i64 0] 30)
        clear KT
        have KT := Lib.hid KTn
        clear KTn
        have BI := Lib.hid (Blk.new x8 30 #[.string ⟨#[]⟩, .int .i64 0])
        have hq := BR.out
        have q0 := hq.cell 0
        have q1 := hq.cell 1
        have q2 := hq.cell 2
        simp only [List.getElem?_toArray, List.getElem?_cons_succ, List.getElem?_cons_zero] at q0 q1 q2
        have zq := hq.lt
        have zm := KT.out.size
        have zn : ¬ (w.heap.size = ((x8.alloc (.cells #[.string ⟨#[]⟩, .int .i64 0] 30))).heap.size) := by omega
        clear hq
        have cBF := BF.out.cell 0
        have dBF := BF.out.cell 1
        simp only [List.getElem?_toArray, List.getElem?_cons_succ, List.getElem?_cons_zero] at cBF dBF
        have lBF := BF.out.lt
        have cBM := BM.out.cell 0
        have dBM := BM.out.cell 1
        simp only [List.getElem?_toArray, List.getElem?_cons_succ, List.getElem?_cons_zero] at cBM dBM
        have lBM := BM.out.lt
        have cBI := BI.out.cell 0
        have dBI := BI.out.cell 1
        simp only [List.getElem?_toArray, List.getElem?_cons_succ, List.getElem?_cons_zero] at cBI dBI
        have lBI := BI.out.lt
        go_wp2_with fail
        go_ret
        exact ⟨rfl, Kept.trans K2.out KT.out⟩
    · rw [hf]
      unfold resV f0
      have hem := he
      unfold ErrB at hem
      clear hf he
      have BFn := BF.out.alloc (.cells #[.string ⟨#[]⟩, .int .i64 0] 30)
      clear BF
      have BF := Lib.hid BFn
      clear BFn
      have BRn := BR.out.alloc (.cells #[.string ⟨#[]⟩, .int .i64 0] 30)
      clear BR
      have BR := Lib.hid BRn
      clear BRn
      have KTn := KT.out.alloc KT.out.size (.cells #[.string ⟨#[]⟩, .int .i64 0] 30)
      clear KT
      have KT := Lib.hid KTn
      clear KTn
      have BM := Lib.hid (Blk.new x5 30 #[.string ⟨#[]⟩, .int .i64 0])
      have hq := BR.out
      have q0 := hq.cell 0
      have q1 := hq.cell 1
      have q2 := hq.cell 2
      simp only [List.getElem?_toArray, List.getElem?_cons_succ, List.getElem?_cons_zero] at q0 q1 q2
      have zq := hq.lt
      have zm := KT.out.size
      have zn : ¬ (w.heap.size = ((x5.alloc (.cells #[.string ⟨#[]⟩, .int .i64 0] 30))).heap.size) := by omega
      clear hq
      have cBF := BF.out.cell 0
      have dBF := BF.out.cell 1
      simp only [List.getElem?_toArray, List.getElem?_cons_succ, List.getElem?_cons_zero] at cBF dBF
      have lBF := BF.out.lt
      have cBM := BM.out.cell 0
      have dBM := BM.out.cell 1
      simp only [List.getElem?_toArray, List.getElem?_cons_succ, List.getElem?_cons_zero] at cBM dBM
      have lBM := BM.out.lt
      go_wp2_with fail
      refine (find_Face D rc rn rd _ _ (HT.out.kept KT.out) HRC.out).mono ?_
      rintro e x6 ⟨rfl, k⟩
      clear q0 q1 q2 zq zm zn cBF dBF lBF cBM dBM lBM
      have BFn := BF.out.kept k
      clear BF
      have BF := Lib.hid BFn
      clear BFn
      have BMn := BM.out.kept k
      clear BM
      have BM := Lib.hid BMn
      clear BMn
      have BRn := BR.out.kept k
      clear BR
      have BR := Lib.hid BRn
      clear BRn
      have KTn := Kept.trans KT.out k
      clear KT
      have KT := Lib.hid KTn
      clear KTn k
      rcases face_cases D rc rn rd with ⟨fi, hf, hd, hs⟩ | ⟨ei, hf, he⟩
      · rw [hf]
        unfold resV
        have HD := Lib.hid hd
        by_cases hsb : subB D rc fi.1
        · have HSB := Lib.hid hsb
          clear hf hd hs hsb
          have BFn := BF.out.alloc (.cells #[.string fi.1, .int .i64 fi.2] 30)
          clear BF
          have BF := Lib.hid BFn
          clear BFn
          have BMn := BM.out.alloc (.cells #[.string fi.1, .int .i64 fi.2] 30)
          clear BM
          have BM := Lib.hid BMn
          clear BMn
          have BRn := BR.out.alloc (.cells #[.string fi.1, .int .i64 fi.2] 30)
          clear BR
          have BR := Lib.hid BRn
          clear BRn
          have KTn := KT.out.alloc KT.out.size (.cells #[.string fi.1, .int .i64 fi.2] 30)
          clear KT
          have KT := Lib.hid KTn
          clear KTn
          have BI := Lib.hid (Blk.new x6 30 #[.string fi.1, .int .i64 fi.2])
          have hq := BR.out
          have q0 := hq.cell 0
          have q1 := hq.cell 1
          have q2 := hq.cell 2
          simp only [List.getElem?_toArray, List.getElem?_cons_succ, List.getElem?_cons_zero] at q0 q1 q2
          have zq := hq.lt
          have zm := KT.out.size
          have zn : ¬ (w.heap.size = ((x6.alloc (.cells #[.string fi.1, .int .i64 fi.2] 30))).heap.size) := by omega
          clear hq
          have cBF := BF.out.cell 0
          have dBF := BF.out.cell 1
          simp only [List.getElem?_toArray, List.getElem?_cons_succ, List.getElem?_cons_zero] at cBF dBF
          have lBF := BF.out.lt
          have cBM := BM.out.cell 0
          have dBM := BM.out.cell 1
          simp only [List.getElem?_toArray, List.getElem?_cons_succ, List.getElem?_cons_zero] at cBM dBM
          have lBM := BM.out.lt
          have cBI := BI.out.cell 0
          have dBI := BI.out.cell 1
          simp only [List.getElem?_toArray, List.getElem?_cons_succ, List.getElem?_cons_zero] at cBI dBI
          have lBI := BI.out.lt
          go_wp2_with fail
          refine (law12_declares D fi rc rn rd false _ _ (HT.out.kept KT.out) HD.out.th (by exact HD.out.at_)).mono ?_
          rintro e x7 ⟨rfl, k⟩
          clear q0 q1 q2 zq zm zn cBF dBF lBF cBM dBM lBM cBI dBI lBI
          have BFn := BF.out.kept k
          clear BF
          have BF := Lib.hid BFn
          clear BFn
          have BMn := BM.out.kept k
          clear BM
          have BM := Lib.hid BMn
          clear BMn
          have BIn := BI.out.kept k
          clear BI
          have BI := Lib.hid BIn
          clear BIn
          have BRn := BR.out.kept k
          clear BR
          have BR := Lib.hid BRn
          clear BRn
          have KTn := Kept.trans KT.out k
          clear KT
          have KT := Lib.hid KTn
          clear KTn k
          have CS := kin_Sub D rc fi.1 _ _ (HT.out.kept KT.out) HRC.out
          rw [decide_eq_true HSB.out] at CS
          have CS := Lib.hid CS
          have hq := BR.out
          have q0 := hq.cell 0
          have q1 := hq.cell 1
          have q2 := hq.cell 2
          simp only [List.getElem?_toArray, List.getElem?_cons_succ, List.getElem?_cons_zero] at q0 q1 q2
          have zq := hq.lt
          have zm := KT.out.size
          have zn : ¬ (w.heap.size = (x7).heap.size) := by omega
          clear hq
          have cBF := BF.out.cell 0
          have dBF := BF.out.cell 1
          simp only [List.getElem?_toArray, List.getElem?_cons_succ, List.getElem?_cons_zero] at cBF dBF
          have lBF := BF.out.lt
          have cBM := BM.out.cell 0
          have dBM := BM.out.cell 1
          simp only [List.getElem?_toArray, List.getElem?_cons_succ, List.getElem?_cons_zero] at cBM dBM
          have lBM := BM.out.lt
          have cBI := BI.out.cell 0
          have dBI := BI.out.cell 1
          simp only [List.getElem?_toArray, List.getElem?_cons_succ, List.getElem?_cons_zero] at cBI dBI
          have lBI := BI.out.lt
          go_wp2_with fail
          refine (CS.out).mono ?_
          rintro e x8 ⟨rfl, k⟩
          clear q0 q1 q2 zq zm zn cBF dBF lBF cBM dBM lBM cBI dBI lBI
          have BFn := BF.out.kept k
          clear BF
          have BF := Lib.hid BFn
          clear BFn
          have BMn := BM.out.kept k
          clear BM
          have BM := Lib.hid BMn
          clear BMn
          have BIn := BI.out.kept k
          clear BI
          have BI := Lib.hid BIn
          clear BIn
          have BRn := BR.out.kept k
          clear BR
          have BR := Lib.hid BRn
          clear BRn
          have KTn := Kept.trans KT.out k
          clear KT
          have KT := Lib.hid KTn
          clear KTn k
          clear CS
          have hq := BR.out
          have q0 := hq.cell 0
          have q1 := hq.cell 1
          have q2 := hq.cell 2
          simp only [List.getElem?_toArray, List.getElem?_cons_succ, List.getElem?_cons_zero] at q0 q1 q2
          have zq := hq.lt
          have zm := KT.out.size
          have zn : ¬ (w.heap.size = (x8).heap.size) := by omega
          clear hq
          have cBF := BF.out.cell 0
          have dBF := BF.out.cell 1
          simp only [List.getElem?_toArray, List.getElem?_cons_succ, List.getElem?_cons_zero] at cBF dBF
          have lBF := BF.out.lt
          have cBM := BM.out.cell 0
          have dBM := BM.out.cell 1
          simp only [List.getElem?_toArray, List.getElem?_cons_succ, List.getElem?_cons_zero] at cBM dBM
          have lBM := BM.out.lt
          have cBI := BI.out.cell 0
          have dBI := BI.out.cell 1
          simp only [List.getElem?_toArray, List.getElem?_cons_succ, List.getElem?_cons_zero] at cBI dBI
          have lBI := BI.out.lt
          go_wp2_with fail
          go_ret
          exact ⟨rfl, Kept.trans K2.out KT.out⟩
        · have HSB := Lib.hid hsb
          have HOB := Lib.hid (show fi.1.toList = [106, 97, 118, 97, 47, 108, 97, 110, 103, 47, 79, 98, 106, 101, 99, 116] by rw [hs.resolve_left hsb]; simp [objB, ByteArray.toList_eq])
          clear hf hd hs hsb
          have BFn := BF.out.alloc (.cells #[.string fi.1, .int .i64 fi.2] 30)
          clear BF
          have BF := Lib.hid BFn
          clear BFn
          have BMn := BM.out.alloc (.cells #[.string fi.1, .int .i64 fi.2] 30)
          clear BM
          have BM := Lib.hid BMn
          clear BMn
          have BRn := BR.out.alloc (.cells #[.string fi.1, .int .i64 fi.2] 30)
          clear BR
          have BR := Lib.hid BRn
          clear BRn
          have KTn := KT.out.alloc KT.out.size (.cells #[.string fi.1, .int .i64 fi.2] 30)
          clear KT
          have KT := Lib.hid KTn
          clear KTn
          have BI := Lib.hid (Blk.new x6 30 #[.string fi.1, .int .i64 fi.2])
          have hq := BR.out
          have q0 := hq.cell 0
          have q1 := hq.cell 1
          have q2 := hq.cell 2
          simp only [List.getElem?_toArray, List.getElem?_cons_succ, List.getElem?_cons_zero] at q0 q1 q2
          have zq := hq.lt
          have zm := KT.out.size
          have zn : ¬ (w.heap.size = ((x6.alloc (.cells #[.string fi.1, .int .i64 fi.2] 30))).heap.size) := by omega
          clear hq
          have cBF := BF.out.cell 0
          have dBF := BF.out.cell 1
          simp only [List.getElem?_toArray, List.getElem?_cons_succ, List.getElem?_cons_zero] at cBF dBF
          have lBF := BF.out.lt
          have cBM := BM.out.cell 0
          have dBM := BM.out.cell 1
          simp only [List.getElem?_toArray, List.getElem?_cons_succ, List.getElem?_cons_zero] at cBM dBM
          have lBM := BM.out.lt
          have cBI := BI.out.cell 0
          have dBI := BI.out.cell 1
          simp only [List.getElem?_toArray, List.getElem?_cons_succ, List.getElem?_cons_zero] at cBI dBI
          have lBI := BI.out.lt
          go_wp2_with fail
          refine (law12_declares D fi rc rn rd false _ _ (HT.out.kept KT.out) HD.out.th (by exact HD.out.at_)).mono ?_
          rintro e x7 ⟨rfl, k⟩
          clear q0 q1 q2 zq zm zn cBF dBF lBF cBM dBM lBM cBI dBI lBI
          have BFn := BF.out.kept k
          clear BF
          have BF := Lib.hid BFn
          clear BFn
          have BMn := BM.out.kept k
          clear BM
          have BM := Lib.hid BMn
          clear BMn
          have BIn := BI.out.kept k
          clear BI
          have BI := Lib.hid BIn
          clear BIn
          have BRn := BR.out.kept k
          clear BR
          have BR := Lib.hid BRn
          clear BRn
          have KTn := Kept.trans KT.out k
          clear KT
          have KT := Lib.hid KTn
          clear KTn k
          have CS := kin_Sub D rc fi.1 _ _ (HT.out.kept KT.out) HRC.out
          rw [decide_eq_false HSB.out] at CS
          have CS := Lib.hid CS
          have hq := BR.out
          have q0 := hq.cell 0
          have q1 := hq.cell 1
          have q2 := hq.cell 2
          simp only [List.getElem?_toArray, List.getElem?_cons_succ, List.getElem?_cons_zero] at q0 q1 q2
          have zq := hq.lt
          have zm := KT.out.size
          have zn : ¬ (w.heap.size = (x7).heap.size) := by omega
          clear hq
          have cBF := BF.out.cell 0
          have dBF := BF.out.cell 1
          simp only [List.getElem?_toArray, List.getElem?_cons_succ, List.getElem?_cons_zero] at cBF dBF
          have lBF := BF.out.lt
          have cBM := BM.out.cell 0
          have dBM := BM.out.cell 1
          simp only [List.getElem?_toArray, List.getElem?_cons_succ, List.getElem?_cons_zero] at cBM dBM
          have lBM := BM.out.lt
          have cBI := BI.out.cell 0
          have dBI := BI.out.cell 1
          simp only [List.getElem?_toArray, List.getElem?_cons_succ, List.getElem?_cons_zero] at cBI dBI
          have lBI := BI.out.lt
          go_wp2_with fail
          refine (CS.out).mono ?_
          rintro e x8 ⟨rfl, k⟩
          clear q0 q1 q2 zq zm zn cBF dBF lBF cBM dBM lBM cBI dBI lBI
          have BFn := BF.out.kept k
          clear BF
          have BF := Lib.hid BFn
          clear BFn
          have BMn := BM.out.kept k
          clear BM
          have BM := Lib.hid BMn
          clear BMn
          have BIn := BI.out.kept k
          clear BI
          have BI := Lib.hid BIn
          clear BIn
          have BRn := BR.out.kept k
          clear BR
          have BR := Lib.hid BRn
          clear BRn
          have KTn := Kept.trans KT.out k
          clear KT
          have KT := Lib.hid KTn
          clear KTn k
          clear CS
          have hob := HOB.out
          have hq := BR.out
          have q0 := hq.cell 0
          have q1 := hq.cell 1
          have q2 := hq.cell 2
          simp only [List.getElem?_toArray, List.getElem?_cons_succ, List.getElem?_cons_zero] at q0 q1 q2
          have zq := hq.lt
          have zm := KT.out.size
          have zn : ¬ (w.heap.size = (x8).heap.size) := by omega
          clear hq
          have cBF := BF.out.cell 0
          have dBF := BF.out.cell 1
          simp only [List.getElem?_toArray, List.getElem?_cons_succ, List.getElem?_cons_zero] at cBF dBF
          have lBF := BF.out.lt
          have cBM := BM.out.cell 0
          have dBM := BM.out.cell 1
          simp only [List.getElem?_toArray, List.getElem?_cons_succ, List.getElem?_cons_zero] at cBM dBM
          have lBM := BM.out.lt
          have cBI := BI.out.cell 0
          have dBI := BI.out.cell 1
          simp only [List.getElem?_toArray, List.getElem?_cons_succ, List.getElem?_cons_zero] at cBI dBI
          have lBI := BI.out.lt
          go_wp2_with fail
          go_ret
          exact ⟨rfl, Kept.trans K2.out KT.out⟩
      · rw [hf]
        unfold resV f0
        have hei := he
        unfold ErrB at hei
        clear hf he
        have BFn := BF.out.alloc (.cells #[.string ⟨#[]⟩, .int .i64 0] 30)
        clear BF
        have BF := Lib.hid BFn
        clear BFn
        have BMn := BM.out.alloc (.cells #[.string ⟨#[]⟩, .int .i64 0] 30)
        clear BM
        have BM := Lib.hid BMn
        clear BMn
        have BRn := BR.out.alloc (.cells #[.string ⟨#[]⟩, .int .i64 0] 30)
        clear BR
        have BR := Lib.hid BRn
        clear BRn
        have KTn := KT.out.alloc KT.out.size (.cells #[.string ⟨#[]⟩, .int .i64 0] 30)
        clear KT
        have KT := Lib.hid KTn
        clear KTn
        have BI := Lib.hid (Blk.new x6 30 #[.string ⟨#[]⟩, .int .i64 0])
        have hq := BR.out
        have q0 := hq.cell 0
        have q1 := hq.cell 1
        have q2 := hq.cell 2
        simp only [List.getElem?_toArray, List.getElem?_cons_succ, List.getElem?_cons_zero] at q0 q1 q2
        have zq := hq.lt
        have zm := KT.out.size
        have zn : ¬ (w.heap.size = ((x6.alloc (.cells #[.string ⟨#[]⟩, .int .i64 0] 30))).heap.size) := by omega
        clear hq
        have cBF := BF.out.cell 0
        have dBF := BF.out.cell 1
        simp only [List.getElem?_toArray, List.getElem?_cons_succ, List.getElem?_cons_zero] at cBF dBF
        have lBF := BF.out.lt
        have cBM := BM.out.cell 0
        have dBM := BM.out.cell 1
        simp only [List.getElem?_toArray, List.getElem?_cons_succ, List.getElem?_cons_zero] at cBM dBM
        have lBM := BM.out.lt
        have cBI := BI.out.cell 0
        have dBI := BI.out.cell 1
        simp only [List.getElem?_toArray, List.getElem?_cons_succ, List.getElem?_cons_zero] at cBI dBI
        have lBI := BI.out.lt
        go_wp2_with fail
        go_ret
        exact ⟨rfl, Kept.trans K2.out KT.out⟩

set_option maxHeartbeats 20000000 in
theorem walk_FindThere3 (l : List TypeV) (v : Value) (r : RefV) (w : World) (hr : Rd w 6 v l.length (l.flatMap encTypeV)) (hok : ∀ y ∈ l, TypeV.Ok w y) (hlen : l.length ≤ 140737488351232) (hrk : RefV.Ok w r) (ka : Nat) (hfl : fieldL (l.map TypeV.d) r.cls r.name r.desc = none) (hka : atO (l.map TypeV.d) r.cls = some ka) :
    Calls Try.prog 7 #[v, .agg (encRefV r).toArray] w fun e w' => e = .returned (.bool true) ∧ Below w.heap.size w w' := by
  obtain ⟨rc, rn, rd⟩ := r
  show Calls Try.prog 7 #[v, .agg #[.string rc, .string rn, .string rd]] w _
  obtain ⟨hrc, hrn, hrd⟩ := hrk
  have HRC := Lib.hid (show rc.size ≤ maxLen from hrc)
  have HRN := Lib.hid (show rn.size ≤ maxLen from hrn)
  have HRD := Lib.hid (show rd.size ≤ maxLen from hrd)
  have HR := Lib.hid hr
  have HOK := Lib.hid hok
  have b0 := Blk.new w 24 #[.string rc, .string rn, .string rd]
  have k0 : Kept w (w.alloc (.cells #[.string rc, .string rn, .string rd] 24)) := (Below.refl _ _).alloc (Nat.le_refl _) _
  have K0 := Lib.hid k0
  have B0 := Lib.hid b0
  clear hr hok hrc hrn hrd b0 k0
  go_enter Try.func7, Try.ntmps7
  go_wp2_with fail
  generalize (w.alloc (.cells #[.string rc, .string rn, .string rd] 24)) = W at *
  refine (alive12 _).mono ?_
  rintro e w1 ⟨rfl, k1⟩
  have K1 := Lib.hid (Kept.trans K0.out k1)
  have B1 := Lib.hid (B0.out.kept k1)
  clear k1
  go_wp2_with fail
  refine (law9_Big l v w1 (HR.out.kept K1.out) (fun y hy => Ok.keep_ (HOK.out y hy) K1.out) hlen).mono ?_
  rintro e w2 ⟨h2, m2, hw2⟩
  have K12 := Lib.hid (show Kept w1 w2 by rw [hw2]; exact kept_drewN (Below.refl _ _) m2)
  have K2 := Lib.hid (Kept.trans K1.out K12.out)
  clear hw2
  rcases h2 with rfl | ⟨rfl, h60, hct⟩
  · go_wp2_with fail
    go_ret
    exact ⟨rfl, K2.out⟩
  · have hT := tyR_of (HR.out.kept K2.out) (fun y hy => Ok.keep_ (HOK.out y hy) K2.out) h60
    have HT := Lib.hid hT
    have hci := count_ifs_ hct
    obtain ⟨D, hD⟩ : ∃ D, D = l.map TypeV.d := ⟨_, rfl⟩
    rw [← hD] at HT hci hfl hka
    have HCI := Lib.hid hci
    have BR := Lib.hid (B1.out.kept K12.out)
    have KT := Lib.hid (Below.refl w2.heap.size w2)
    have hDl := HT.out.len
    clear hT hct hD hci
    have hq := BR.out
    have q0 := hq.cell 0
    have q1 := hq.cell 1
    have q2 := hq.cell 2
    simp only [List.getElem?_toArray, List.getElem?_cons_succ, List.getElem?_cons_zero] at q0 q1 q2
    have zq := hq.lt
    have zm := KT.out.size
    have zn : ¬ (w.heap.size = (w2).heap.size) := by omega
    clear hq
    go_wp2_with fail
    refine (find_Field D rc rn rd _ _ (HT.out.kept KT.out) HRC.out HRN.out HRD.out HCI.out).mono ?_
    rintro e x3 ⟨rfl, k⟩
    clear q0 q1 q2 zq zm zn
    have BRn := BR.out.kept k
    clear BR
    have BR := Lib.hid BRn
    clear BRn
    have KTn := Kept.trans KT.out k
    clear KT
    have KT := Lib.hid KTn
    clear KTn k
    unfold fieldR
    skip
    rw [hfl]
    have HFN := Lib.hid hfl
    unfold fldRes resV f0
    simp only
    obtain ⟨ef, hef⟩ : ∃ e, e = nfB := ⟨_, rfl⟩
    have heE : ef.toList.isEmpty = false := by rw [hef]; exact nf_err
    rw [← hef]
    clear hfl hef
    have BRn := BR.out.alloc (.cells #[.string ⟨#[]⟩, .int .i64 0] 30)
    clear BR
    have BR := Lib.hid BRn
    clear BRn
    have KTn := KT.out.alloc KT.out.size (.cells #[.string ⟨#[]⟩, .int .i64 0] 30)
    clear KT
    have KT := Lib.hid KTn
    clear KTn
    have BF := Lib.hid (Blk.new x3 30 #[.string ⟨#[]⟩, .int .i64 0])
    have CA := kin_At D rc _ (x3.alloc (.cells #[.string ⟨#[]⟩, .int .i64 0] 30)) (HT.out.kept KT.out)
    have hmn := field_none HFN.out (by unfold there; rw [hka]; rfl)
    obtain ⟨t, ht, -, hkl⟩ := atO_some hka
    rw [fldL_at hka ht] at hmn
    rw [atI_some hka] at CA
    have CA := Lib.hid CA
    obtain ⟨tb, tof, tc, ia, ic, fa, fc, ma, mc, rfl, -, -, -, -, x4, -, -, -, hfr, hfl, -, -⟩ := ty_row (HT.out.kept KT.out) ht
    have HFR := Lib.hid hfr
    have hki : (ka : Int) < (D.length : Int) := by omega
    have hk0 : (0 : Int) ≤ (ka : Int) := by omega
    have CI := Lib.hid (memI_none hmn ▸ fun m => ref12_In t.fields rn rd _ (((x3.alloc (.cells #[.string ⟨#[]⟩, .int .i64 0] 30))).drewN m) _ rfl (HFR.out.kept (kept_drewN (Below.refl _ _) m)) hfl)
    clear hka ht hmn hfr
    have hq := BR.out
    have q0 := hq.cell 0
    have q1 := hq.cell 1
    have q2 := hq.cell 2
    simp only [List.getElem?_toArray, List.getElem?_cons_succ, List.getElem?_cons_zero] at q0 q1 q2
    have zq := hq.lt
    have zm := KT.out.size
    have zn : ¬ (w.heap.size = ((x3.alloc (.cells #[.string ⟨#[]⟩, .int .i64 0] 30))).heap.size) := by omega
    clear hq
    have cBF := BF.out.cell 0
    have dBF := BF.out.cell 1
    simp only [List.getElem?_toArray, List.getElem?_cons_succ, List.getElem?_cons_zero] at cBF dBF
    have lBF := BF.out.lt
    go_wp2_with fail
    refine CA.out.mono ?_
    rintro e xa ⟨rfl, rfl⟩
    clear CA
    go_wp2_with fail
    go_quiet ((go_at_call 28; exact quiet_l (CI.out _)))
    clear q0 q1 q2 zq zm zn cBF dBF lBF
    clear x4
    rename_i nq
    have k : Kept (x3.alloc (.cells #[.string ⟨#[]⟩, .int .i64 0] 30)) (((x3.alloc (.cells #[.string ⟨#[]⟩, .int .i64 0] 30))).drewN nq) := kept_drewN (Below.refl _ _) nq
    generalize ((x3.alloc (.cells #[.string ⟨#[]⟩, .int .i64 0] 30))).drewN nq = x4 at *
    have BFn := BF.out.kept k
    clear BF
    have BF := Lib.hid BFn
    clear BFn
    have BRn := BR.out.kept k
    clear BR
    have BR := Lib.hid BRn
    clear BRn
    have KTn := Kept.trans KT.out k
    clear KT
    have KT := Lib.hid KTn
    clear KTn k
    have hq := BR.out
    have q0 := hq.cell 0
    have q1 := hq.cell 1
    have q2 := hq.cell 2
    simp only [List.getElem?_toArray, List.getElem?_cons_succ, List.getElem?_cons_zero] at q0 q1 q2
    have zq := hq.lt
    have zm := KT.out.size
    have zn : ¬ (w.heap.size = (x4).heap.size) := by omega
    clear hq
    have cBF := BF.out.cell 0
    have dBF := BF.out.cell 1
    simp only [List.getElem?_toArray, List.getElem?_cons_succ, List.getElem?_cons_zero] at cBF dBF
    have lBF := BF.out.lt
    go_wp2_with fail
    refine (find_Method D rc rn rd _ _ (HT.out.kept KT.out) HRC.out).mono ?_
    rintro e x5 ⟨rfl, k⟩
    clear q0 q1 q2 zq zm zn cBF dBF lBF
    have BFn := BF.out.kept k
    clear BF
    have BF := Lib.hid BFn
    clear BFn
    have BRn := BR.out.kept k
    clear BR
    have BR := Lib.hid BRn
    clear BRn
    have KTn := Kept.trans KT.out k
    clear KT
    have KT := Lib.hid KTn
    clear KTn k
    rcases meth_cases D rc rn rd with ⟨fm, hf, hd, hs⟩ | ⟨em, hf, he⟩
    · rw [hf]
      unfold resV
      have HDM := Lib.hid hd
      have HSM := Lib.hid hs
      clear hf hd hs
      have BFn := BF.out.alloc (.cells #[.string fm.1, .int .i64 fm.2] 30)
      clear BF
      have BF := Lib.hid BFn
      clear BFn
      have BRn := BR.out.alloc (.cells #[.string fm.1, .int .i64 fm.2] 30)
      clear BR
      have BR := Lib.hid BRn
      clear BRn
      have KTn := KT.out.alloc KT.out.size (.cells #[.string fm.1, .int .i64 fm.2] 30)
      clear KT
      have KT := Lib.hid KTn
      clear KTn
      have BM := Lib.hid (Blk.new x5 30 #[.string fm.1, .int .i64 fm.2])
      have hq := BR.out
      have q0 := hq.cell 0
      have q1 := hq.cell 1
      have q2 := hq.cell 2
      simp only [List.getElem?_toArray, List.getElem?_cons_succ, List.getElem?_cons_zero] at q0 q1 q2
      have zq := hq.lt
      have zm := KT.out.size
      have zn : ¬ (w.heap.size = ((x5.alloc (.cells #[.string fm.1, .int .i64 fm.2] 30))).heap.size) := by omega
      clear hq
      have cBF := BF.out.cell 0
      have dBF := BF.out.cell 1
      simp only [List.getElem?_toArray, List.getElem?_cons_succ, List.getElem?_cons_zero] at cBF dBF
      have lBF := BF.out.lt
      have cBM := BM.out.cell 0
      have dBM := BM.out.cell 1
      simp only [List.getElem?_toArray, List.getElem?_cons_succ, List.getElem?_cons_zero] at cBM dBM
      have lBM := BM.out.lt
      go_wp2_with fail
      refine (law12_declares D fm rc rn rd false _ _ (HT.out.kept KT.out) HDM.out.th (by exact HDM.out.at_)).mono ?_
      rintro e x6 ⟨rfl, k⟩
      clear q0 q1 q2 zq zm zn cBF dBF lBF cBM dBM lBM
      have BFn := BF.out.kept k
      clear BF
      have BF := Lib.hid BFn
      clear BFn
      have BMn := BM.out.kept k
      clear BM
      have BM := Lib.hid BMn
      clear BMn
      have BRn := BR.out.kept k
      clear BR
      have BR := Lib.hid BRn
      clear BRn
      have KTn := Kept.trans KT.out k
      clear KT
      have KT := Lib.hid KTn
      clear KTn k
      have CS := kin_Sub D rc fm.1 _ _ (HT.out.kept KT.out) HRC.out
      rw [decide_eq_true HSM.out] at CS
      have CS := Lib.hid CS
      have hq := BR.out
      have q0 := hq.cell 0
      have q1 := hq.cell 1
      have q2 := hq.cell 2
      simp only [List.getElem?_toArray, List.getElem?_cons_succ, List.getElem?_cons_zero] at q0 q1 q2
      have zq := hq.lt
      have zm := KT.out.size
      have zn : ¬ (w.heap.size = (x6).heap.size) := by omega
      clear hq
      have cBF := BF.out.cell 0
      have dBF := BF.out.cell 1
      simp only [List.getElem?_toArray, List.getElem?_cons_succ, List.getElem?_cons_zero] at cBF dBF
      have lBF := BF.out.lt
      have cBM := BM.out.cell 0
      have dBM := BM.out.cell 1
      simp only [List.getElem?_toArray, List.getElem?_cons_succ, List.getElem?_cons_zero] at cBM dBM
      have lBM := BM.out.lt
      go_wp2_with fail
      refine (CS.out).mono ?_
      rintro e x7 ⟨rfl, k⟩
      clear q0 q1 q2 zq zm zn cBF dBF lBF cBM dBM lBM
      have BFn := BF.out.kept k
      clear BF
      have BF := Lib.hid BFn
      clear BFn
      have BMn := BM.out.kept k
      clear BM
      have BM := Lib.hid BMn
      clear BMn
      have BRn := BR.out.kept k
      clear BR
      have BR := Lib.hid BRn
      clear BRn
      have KTn := Kept.trans KT.out k
      clear KT
      have KT := Lib.hid KTn
      clear KTn k
      clear CS
      have hq := BR.out
      have q0 := hq.cell 0
      have q1 := hq.cell 1
      have q2 := hq.cell 2
      simp only [List.getElem?_toArray, List.getElem?_cons_succ, List.getElem?_cons_zero] at q0 q1 q2
      have zq := hq.lt
      have zm := KT.out.size
      have zn : ¬ (w.heap.size = (x7).heap.size) := by omega
      clear hq
      have cBF := BF.out.cell 0
      have dBF := BF.out.cell 1
      simp only [List.getElem?_toArray, List.getElem?_cons_succ, List.getElem?_cons_zero] at cBF dBF
      have lBF := BF.out.lt
      have cBM := BM.out.cell 0
      have dBM := BM.out.cell 1
      simp only [List.getElem?_toArray, List.getElem?_cons_succ, List.getElem?_cons_zero] at cBM dBM
      have lBM := BM.out.lt
      go_wp2_with fail
      refine (find_Face D rc rn rd _ _ (HT.out.kept KT.out) HRC.out).mono ?_
      rintro e x8 ⟨rfl, k⟩
      clear q0 q1 q2 zq zm zn cBF dBF lBF cBM dBM lBM
      have BFn := BF.out.kept k
      clear BF
      have BF := Lib.hid BFn
      clear BFn
      have BMn := BM.out.kept k
      clear BM
      have BM := Lib.hid BMn
      clear BMn
      have BRn := BR.out.kept k
      clear BR
      have BR := Lib.hid BRn
      clear BRn
      have KTn := Kept.trans KT.out k
      clear KT
      have KT := Lib.hid KTn
      clear KTn k
      rcases face_cases D rc rn rd with ⟨fi, hf, hd, hs⟩ | ⟨ei, hf, he⟩
      · rw [hf]
        unfold resV
        have HD := Lib.hid hd
        by_cases hsb : subB D rc fi.1
        · have HSB := Lib.hid hsb
          clear hf hd hs hsb
          have BFn := BF.out.alloc (.cells #[.string fi.1, .int .i64 fi.2] 30)
          clear BF
          have BF := Lib.hid BFn
          clear BFn
          have BMn := BM.out.alloc (.cells #[.string fi.1, .int .i64 fi.2] 30)
          clear BM
          have BM := Lib.hid BMn
          clear BMn
          have BRn := BR.out.alloc (.cells #[.string fi.1, .int .i64 fi.2] 30)
          clear BR
          have BR := Lib.hid BRn
          clear BRn
          have KTn := KT.out.alloc KT.out.size (.cells #[.string fi.1, .int .i64 fi.2] 30)
          clear KT
          have KT := Lib.hid KTn
          clear KTn
          have BI := Lib.hid (Blk.new x8 30 #[.string fi.1, .int .i64 fi.2])
          have hq := BR.out
          have q0 := hq.cell 0
          have q1 := hq.cell 1
          have q2 := hq.cell 2
          simp only [List.getElem?_toArray, List.getElem?_cons_succ, List.getElem?_cons_zero] at q0 q1 q2
          have zq := hq.lt
          have zm := KT.out.size
          have zn : ¬ (w.heap.size = ((x8.alloc (.cells #[.string fi.1, .int .i64 fi.2] 30))).heap.size) := by omega
          clear hq
          have cBF := BF.out.cell 0
          have dBF := BF.out.cell 1
          simp only [List.getElem?_toArray, List.getElem?_cons_succ, List.getElem?_cons_zero] at cBF dBF
          have lBF := BF.out.lt
          have cBM := BM.out.cell 0
          have dBM := BM.out.cell 1
          simp only [List.getElem?_toArray, List.getElem?_cons_succ, List.getElem?_cons_zero] at cBM dBM
          have lBM := BM.out.lt
          have cBI := BI.out.cell 0
          have dBI := BI.out.cell 1
          simp only [List.getElem?_toArray, List.getElem?_cons_succ, List.getElem?_cons_zero] at cBI dBI
          have lBI := BI.out.lt
          go_wp2_with fail
          refine (law12_declares D fi rc rn rd false _ _ (HT.out.kept KT.out) HD.out.th (by exact HD.out.at_)).mono ?_
          rintro e x9 ⟨rfl, k⟩
          clear q0 q1 q2 zq zm zn cBF dBF lBF cBM dBM lBM cBI dBI lBI
          have BFn := BF.out.kept k
          clear BF
          have BF := Lib.hid BFn
          clear BFn
          have BMn := BM.out.kept k
          clear BM
          have BM := Lib.hid BMn
          clear BMn
          have BIn := BI.out.kept k
          clear BI
          have BI := Lib.hid BIn
          clear BIn
          have BRn := BR.out.kept k
          clear BR
          have BR := Lib.hid BRn
          clear BRn
          have KTn := Kept.trans KT.out k
          clear KT
          have KT := Lib.hid KTn
          clear KTn k
          have CS := kin_Sub D rc fi.1 _ _ (HT.out.kept KT.out) HRC.out
          rw [decide_eq_true HSB.out] at CS
          have CS := Lib.hid CS
          have hq := BR.out
          have q0 := hq.cell 0
          have q1 := hq.cell 1
          have q2 := hq.cell 2
          simp only [List.getElem?_toArray, List.getElem?_cons_succ, List.getElem?_cons_zero] at q0 q1 q2
          have zq := hq.lt
          have zm := KT.out.size
          have zn : ¬ (w.heap.size = (x9).heap.size) := by omega
          clear hq
          have cBF := BF.out.cell 0
          have dBF := BF.out.cell 1
          simp only [List.getElem?_toArray, List.getElem?_cons_succ, List.getElem?_cons_zero] at cBF dBF
          have lBF := BF.out.lt
          have cBM := BM.out.cell 0
          have dBM := BM.out.cell 1
          simp only [List.getElem?_toArray, List.getElem?_cons_succ, List.getElem?_cons_zero] at cBM dBM
          have lBM := BM.out.lt
          have cBI := BI.out.cell 0
          have dBI := BI.out.cell 1
          simp only [List.getElem?_toArray, List.getElem?_cons_succ, List.getElem?_cons_zero] at cBI dBI
          have lBI := BI.out.lt
          go_wp2_with fail
          refine (CS.out).mono ?_
          rintro e x10 ⟨rfl, k⟩
          clear q0 q1 q2 zq zm zn cBF dBF lBF cBM dBM lBM cBI dBI lBI
          have BFn := BF.out.kept k
          clear BF
          have BF := Lib.hid BFn
          clear BFn
          have BMn := BM.out.kept k
          clear BM
          have BM := Lib.hid BMn
          clear BMn
          have BIn := BI.out.kept k
          clear BI
          have BI := Lib.hid BIn
          clear BIn
          have BRn := BR.out.kept k
          clear BR
          have BR := Lib.hid BRn
          clear BRn
          have KTn := Kept.trans KT.out k
          clear KT
          have KT := Lib.hid KTn
          clear KTn k
          clear CS
          have hq := BR.out
          have q0 := hq.cell 0
          have q1 := hq.cell 1
          have q2 := hq.cell 2
          simp only [List.getElem?_toArray, List.getElem?_cons_succ, List.getElem?_cons_zero] at q0 q1 q2
          have zq := hq.lt
          have zm := KT.out.size
          have zn : ¬ (w.heap.size = (x10).heap.size) := by omega
          clear hq
          have cBF := BF.out.cell 0
          have dBF := BF.out.cell 1
          simp only [List.getElem?_toArray, List.getElem?_cons_succ, List.getElem?_cons_zero] at cBF dBF
          have lBF := BF.out.lt
          have cBM := BM.out.cell 0
          have dBM := BM.out.cell 1
          simp only [List.getElem?_toArray, List.getElem?_cons_succ, List.getElem?_cons_zero] at cBM dBM
          have lBM := BM.out.lt
          have cBI := BI.out.cell 0
          have dBI := BI.out.cell 1
          simp only [List.getElem?_toArray, List.getElem?_cons_succ, List.getElem?_cons_zero] at cBI dBI
          have lBI := BI.out.lt
          go_wp2_with fail
          go_ret
          exact ⟨rfl, Kept.trans K2.out KT.out⟩
        · have HSB := Lib.hid hsb
          have HOB := Lib.hid (show fi.1.toList = [106, 97, 118, 97, 47, 108, 97, 110, 103, 47, 79, 98, 106, 101, 99, 116] by rw [hs.resolve_left hsb]; simp [objB, ByteArray.toList_eq])
          clear hf hd hs hsb
          have BFn := BF.out.alloc (.cells #[.string fi.1, .int .i64 fi.2] 30)
          clear BF
          have BF := Lib.hid BFn
          clear BFn
          have BMn := BM.out.alloc (.cells #[.string fi.1, .int .i64 fi.2] 30)
          clear BM
          have BM := Lib.hid BMn
          clear BMn
          have BRn := BR.out.alloc (.cells #[.string fi.1, .int .i64 fi.2] 30)
          clear BR
          have BR := Lib.hid BRn
          clear BRn
          have KTn := KT.out.alloc KT.out.size (.cells #[.string fi.1, .int .i64 fi.2] 30)
          clear KT
          have KT := Lib.hid KTn
          clear KTn
          have BI := Lib.hid (Blk.new x8 30 #[.string fi.1, .int .i64 fi.2])
          have hq := BR.out
          have q0 := hq.cell 0
          have q1 := hq.cell 1
          have q2 := hq.cell 2
          simp only [List.getElem?_toArray, List.getElem?_cons_succ, List.getElem?_cons_zero] at q0 q1 q2
          have zq := hq.lt
          have zm := KT.out.size
          have zn : ¬ (w.heap.size = ((x8.alloc (.cells #[.string fi.1, .int .i64 fi.2] 30))).heap.size) := by omega
          clear hq
          have cBF := BF.out.cell 0
          have dBF := BF.out.cell 1
          simp only [List.getElem?_toArray, List.getElem?_cons_succ, List.getElem?_cons_zero] at cBF dBF
          have lBF := BF.out.lt
          have cBM := BM.out.cell 0
          have dBM := BM.out.cell 1
          simp only [List.getElem?_toArray, List.getElem?_cons_succ, List.getElem?_cons_zero] at cBM dBM
          have lBM := BM.out.lt
          have cBI := BI.out.cell 0
          have dBI := BI.out.cell 1
          simp only [List.getElem?_toArray, List.getElem?_cons_succ, List.getElem?_cons_zero] at cBI dBI
          have lBI := BI.out.lt
          go_wp2_with fail
          refine (law12_declares D fi rc rn rd false _ _ (HT.out.kept KT.out) HD.out.th (by exact HD.out.at_)).mono ?_
          rintro e x9 ⟨rfl, k⟩
          clear q0 q1 q2 zq zm zn cBF dBF lBF cBM dBM lBM cBI dBI lBI
          have BFn := BF.out.kept k
          clear BF
          have BF := Lib.hid BFn
          clear BFn
          have BMn := BM.out.kept k
          clear BM
          have BM := Lib.hid BMn
          clear BMn
          have BIn := BI.out.kept k
          clear BI
          have BI := Lib.hid BIn
          clear BIn
          have BRn := BR.out.kept k
          clear BR
          have BR := Lib.hid BRn
          clear BRn
          have KTn := Kept.trans KT.out k
          clear KT
          have KT := Lib.hid KTn
          clear KTn k
          have CS := kin_Sub D rc fi.1 _ _ (HT.out.kept KT.out) HRC.out
          rw [decide_eq_false HSB.out] at CS
          have CS := Lib.hid CS
          have hq := BR.out
          have q0 := hq.cell 0
          have q1 := hq.cell 1
          have q2 := hq.cell 2
          simp only [List.getElem?_toArray, List.getElem?_cons_succ, List.getElem?_cons_zero] at q0 q1 q2
          have zq := hq.lt
          have zm := KT.out.size
          have zn : ¬ (w.heap.size = (x9).heap.size) := by omega
          clear hq
          have cBF := BF.out.cell 0
          have dBF := BF.out.cell 1
          simp only [List.getElem?_toArray, List.getElem?_cons_succ, List.getElem?_cons_zero] at cBF dBF
          have lBF := BF.out.lt
          have cBM := BM.out.cell 0
          have dBM := BM.out.cell 1
          simp only [List.getElem?_toArray, List.getElem?_cons_succ, List.getElem?_cons_zero] at cBM dBM
          have lBM := BM.out.lt
          have cBI := BI.out.cell 0
          have dBI := BI.out.cell 1
          simp only [List.getElem?_toArray, List.getElem?_cons_succ, List.getElem?_cons_zero] at cBI dBI
          have lBI := BI.out.lt
          go_wp2_with fail
          refine (CS.out).mono ?_
          rintro e x10 ⟨rfl, k⟩
          clear q0 q1 q2 zq zm zn cBF dBF lBF cBM dBM lBM cBI dBI lBI
          have BFn := BF.out.kept k
          clear BF
          have BF := Lib.hid BFn
          clear BFn
          have BMn := BM.out.kept k
          clear BM
          have BM := Lib.hid BMn
          clear BMn
          have BIn := BI.out.kept k
          clear BI
          have BI := Lib.hid BIn
          clear BIn
          have BRn := BR.out.kept k
          clear BR
          have BR := Lib.hid BRn
          clear BRn
          have KTn := Kept.trans KT.out k
          clear KT
          have KT := Lib.hid KTn
          clear KTn k
          clear CS
          have hob := HOB.out
          have hq := BR.out
          have q0 := hq.cell 0
          have q1 := hq.cell 1
          have q2 := hq.cell 2
          simp only [List.getElem?_toArray, List.getElem?_cons_succ, List.getElem?_cons_zero] at q0 q1 q2
          have zq := hq.lt
          have zm := KT.out.size
          have zn : ¬ (w.heap.size = (x10).heap.size) := by omega
          clear hq
          have cBF := BF.out.cell 0
          have dBF := BF.out.cell 1
          simp only [List.getElem?_toArray, List.getElem?_cons_succ, List.getElem?_cons_zero] at cBF dBF
          have lBF := BF.out.lt
          have cBM := BM.out.cell 0
          have dBM := BM.out.cell 1
          simp only [List.getElem?_toArray, List.getElem?_cons_succ, List.getElem?_cons_zero] at cBM dBM
          have lBM := BM.out.lt
          have cBI := BI.out.cell 0
          have dBI := BI.out.cell 1
          simp only [List.getElem?_toArray, List.getElem?_cons_succ, List.getElem?_cons_zero] at cBI dBI
          have lBI := BI.out.lt
          go_wp2_with fail
          go_ret
          exact ⟨rfl, Kept.trans K2.out KT.out⟩
      · rw [hf]
        unfold resV f0
        have hei := he
        unfold ErrB at hei
        clear hf he
        have BFn := BF.out.alloc (.cells #[.string ⟨#[]⟩, .int .i64 0] 30)
        clear BF
        have BF := Lib.hid BFn
        clear BFn
        have BMn := BM.out.alloc (.cells #[.string ⟨#[]⟩, .int .i64 0] 30)
        clear BM
        have BM := Lib.hid BMn
        clear BMn
        have BRn := BR.out.alloc (.cells #[.string ⟨#[]⟩, .int .i64 0] 30)
        clear BR
        have BR := Lib.hid BRn
        clear BRn
        have KTn := KT.out.alloc KT.out.size (.cells #[.string ⟨#[]⟩, .int .i64 0] 30)
        clear KT
        have KT := Lib.hid KTn
        clear KTn
        have BI := Lib.hid (Blk.new x8 30 #[.string ⟨#[]⟩, .int .i64 0])
        have hq := BR.out
        have q0 := hq.cell 0
        have q1 := hq.cell 1
        have q2 := hq.cell 2
        simp only [List.getElem?_toArray, List.getElem?_cons_succ, List.getElem?_cons_zero] at q0 q1 q2
        have zq := hq.lt
        have zm := KT.out.size
        have zn : ¬ (w.heap.size = ((x8.alloc (.cells #[.string ⟨#[]⟩, .int .i64 0] 30))).heap.size) := by omega
        clear hq
        have cBF := BF.out.cell 0
        have dBF := BF.out.cell 1
        simp only [List.getElem?_toArray, List.getElem?_cons_succ, List.getElem?_cons_zero] at cBF dBF
        have lBF := BF.out.lt
        have cBM := BM.out.cell 0
        have dBM := BM.out.cell 1
        simp only [List.getElem?_toArray, List.getElem?_cons_succ, List.getElem?_cons_zero] at cBM dBM
        have lBM := BM.out.lt
        have cBI := BI.out.cell 0
        have dBI := BI.out.cell 1
        simp only [List.getElem?_toArray, List.getElem?_cons_succ, List.getElem?_cons_zero] at cBI dBI
        have lBI := BI.out.lt
        go_wp2_with fail
        go_ret
        exact ⟨rfl, Kept.trans K2.out KT.out⟩
    · rw [hf]
      unfold resV f0
      have hem := he
      unfold ErrB at hem
      clear hf he
      have BFn := BF.out.alloc (.cells #[.string ⟨#[]⟩, .int .i64 0] 30)
      clear BF
      have BF := Lib.hid BFn
      clear BFn
      have BRn := BR.out.alloc (.cells #[.string ⟨#[]⟩, .int .i64 0] 30)
      clear BR
      have BR := Lib.hid BRn
      clear BRn
      have KTn := KT.out.alloc KT.out.size (.cells #[.string ⟨#[]⟩, .int .i64 0] 30)
      clear KT
      have KT := Lib.hid KTn
      clear KTn
      have BM := Lib.hid (Blk.new x5 30 #[.string ⟨#[]⟩, .int .i64 0])
      have hq := BR.out
      have q0 := hq.cell 0
      have q1 := hq.cell 1
      have q2 := hq.cell 2
      simp only [List.getElem?_toArray, List.getElem?_cons_succ, List.getElem?_cons_zero] at q0 q1 q2
      have zq := hq.lt
      have zm := KT.out.size
      have zn : ¬ (w.heap.size = ((x5.alloc (.cells #[.string ⟨#[]⟩, .int .i64 0] 30))).heap.size) := by omega
      clear hq
      have cBF := BF.out.cell 0
      have dBF := BF.out.cell 1
      simp only [List.getElem?_toArray, List.getElem?_cons_succ, List.getElem?_cons_zero] at cBF dBF
      have lBF := BF.out.lt
      have cBM := BM.out.cell 0
      have dBM := BM.out.cell 1
      simp only [List.getElem?_toArray, List.getElem?_cons_succ, List.getElem?_cons_zero] at cBM dBM
      have lBM := BM.out.lt
      go_wp2_with fail
      refine (find_Face D rc rn rd _ _ (HT.out.kept KT.out) HRC.out).mono ?_
      rintro e x6 ⟨rfl, k⟩
      clear q0 q1 q2 zq zm zn cBF dBF lBF cBM dBM lBM
      have BFn := BF.out.kept k
      clear BF
      have BF := Lib.hid BFn
      clear BFn
      have BMn := BM.out.kept k
      clear BM
      have BM := Lib.hid BMn
      clear BMn
      have BRn := BR.out.kept k
      clear BR
      have BR := Lib.hid BRn
      clear BRn
      have KTn := Kept.trans KT.out k
      clear KT
      have KT := Lib.hid KTn
      clear KTn k
      rcases face_cases D rc rn rd with ⟨fi, hf, hd, hs⟩ | ⟨ei, hf, he⟩
      · rw [hf]
        unfold resV
        have HD := Lib.hid hd
        by_cases hsb : subB D rc fi.1
        · have HSB := Lib.hid hsb
          clear hf hd hs hsb
          have BFn := BF.out.alloc (.cells #[.string fi.1, .int .i64 fi.2] 30)
          clear BF
          have BF := Lib.hid BFn
          clear BFn
          have BMn := BM.out.alloc (.cells #[.string fi.1, .int .i64 fi.2] 30)
          clear BM
          have BM := Lib.hid BMn
          clear BMn
          have BRn := BR.out.alloc (.cells #[.string fi.1, .int .i64 fi.2] 30)
          clear BR
          have BR := Lib.hid BRn
          clear BRn
          have KTn := KT.out.alloc KT.out.size (.cells #[.string fi.1, .int .i64 fi.2] 30)
          clear KT
          have KT := Lib.hid KTn
          clear KTn
          have BI := Lib.hid (Blk.new x6 30 #[.string fi.1, .int .i64 fi.2])
          have hq := BR.out
          have q0 := hq.cell 0
          have q1 := hq.cell 1
          have q2 := hq.cell 2
          simp only [List.getElem?_toArray, List.getElem?_cons_succ, List.getElem?_cons_zero] at q0 q1 q2
          have zq := hq.lt
          have zm := KT.out.size
          have zn : ¬ (w.heap.size = ((x6.alloc (.cells #[.string fi.1, .int .i64 fi.2] 30))).heap.size) := by omega
          clear hq
          have cBF := BF.out.cell 0
          have dBF := BF.out.cell 1
          simp only [List.getElem?_toArray, List.getElem?_cons_succ, List.getElem?_cons_zero] at cBF dBF
          have lBF := BF.out.lt
          have cBM := BM.out.cell 0
          have dBM := BM.out.cell 1
          simp only [List.getElem?_toArray, List.getElem?_cons_succ, List.getElem?_cons_zero] at cBM dBM
          have lBM := BM.out.lt
          have cBI := BI.out.cell 0
          have dBI := BI.out.cell 1
          simp only [List.getElem?_toArray, List.getElem?_cons_succ, List.getElem?_cons_zero] at cBI dBI
          have lBI := BI.out.lt
          go_wp2_with fail
          refine (law12_declares D fi rc rn rd false _ _ (HT.out.kept KT.out) HD.out.th (by exact HD.out.at_)).mono ?_
          rintro e x7 ⟨rfl, k⟩
          clear q0 q1 q2 zq zm zn cBF dBF lBF cBM dBM lBM cBI dBI lBI
          have BFn := BF.out.kept k
          clear BF
          have BF := Lib.hid BFn
          clear BFn
          have BMn := BM.out.kept k
          clear BM
          have BM := Lib.hid BMn
          clear BMn
          have BIn := BI.out.kept k
          clear BI
          have BI := Lib.hid BIn
          clear BIn
          have BRn := BR.out.kept k
          clear BR
          have BR := Lib.hid BRn
          clear BRn
          have KTn := Kept.trans KT.out k
          clear KT
          have KT := Lib.hid KTn
          clear KTn k
          have CS := kin_Sub D rc fi.1 _ _ (HT.out.kept KT.out) HRC.out
          rw [decide_eq_true HSB.out] at CS
          have CS := Lib.hid CS
          have hq := BR.out
          have q0 := hq.cell 0
          have q1 := hq.cell 1
          have q2 := hq.cell 2
          simp only [List.getElem?_toArray, List.getElem?_cons_succ, List.getElem?_cons_zero] at q0 q1 q2
          have zq := hq.lt
          have zm := KT.out.size
          have zn : ¬ (w.heap.size = (x7).heap.size) := by omega
          clear hq
          have cBF := BF.out.cell 0
          have dBF := BF.out.cell 1
          simp only [List.getElem?_toArray, List.getElem?_cons_succ, List.getElem?_cons_zero] at cBF dBF
          have lBF := BF.out.lt
          have cBM := BM.out.cell 0
          have dBM := BM.out.cell 1
          simp only [List.getElem?_toArray, List.getElem?_cons_succ, List.getElem?_cons_zero] at cBM dBM
          have lBM := BM.out.lt
          have cBI := BI.out.cell 0
          have dBI := BI.out.cell 1
          simp only [List.getElem?_toArray, List.getElem?_cons_succ, List.getElem?_cons_zero] at cBI dBI
          have lBI := BI.out.lt
          go_wp2_with fail
          refine (CS.out).mono ?_
          rintro e x8 ⟨rfl, k⟩
          clear q0 q1 q2 zq zm zn cBF dBF lBF cBM dBM lBM cBI dBI lBI
          have BFn := BF.out.kept k
          clear BF
          have BF := Lib.hid BFn
          clear BFn
          have BMn := BM.out.kept k
          clear BM
          have BM := Lib.hid BMn
          clear BMn
          have BIn := BI.out.kept k
          clear BI
          have BI := Lib.hid BIn
          clear BIn
          have BRn := BR.out.kept k
          clear BR
          have BR := Lib.hid BRn
          clear BRn
          have KTn := Kept.trans KT.out k
          clear KT
          have KT := Lib.hid KTn
          clear KTn k
          clear CS
          have hq := BR.out
          have q0 := hq.cell 0
          have q1 := hq.cell 1
          have q2 := hq.cell 2
          simp only [List.getElem?_toArray, List.getElem?_cons_succ, List.getElem?_cons_zero] at q0 q1 q2
          have zq := hq.lt
          have zm := KT.out.size
          have zn : ¬ (w.heap.size = (x8).heap.size) := by omega
          clear hq
          have cBF := BF.out.cell 0
          have dBF := BF.out.cell 1
          simp only [List.getElem?_toArray, List.getElem?_cons_succ, List.getElem?_cons_zero] at cBF dBF
          have lBF := BF.out.lt
          have cBM := BM.out.cell 0
          have dBM := BM.out.cell 1
          simp only [List.getElem?_toArray, List.getElem?_cons_succ, List.getElem?_cons_zero] at cBM dBM
          have lBM := BM.out.lt
          have cBI := BI.out.cell 0
          have dBI := BI.out.cell 1
          simp only [List.getElem?_toArray, List.getElem?_cons_succ, List.getElem?_cons_zero] at cBI dBI
          have lBI := BI.out.lt
          go_wp2_with fail
          go_ret
          exact ⟨rfl, Kept.trans K2.out KT.out⟩
        · have HSB := Lib.hid hsb
          have HOB := Lib.hid (show fi.1.toList = [106, 97, 118, 97, 47, 108, 97, 110, 103, 47, 79, 98, 106, 101, 99, 116] by rw [hs.resolve_left hsb]; simp [objB, ByteArray.toList_eq])
          clear hf hd hs hsb
          have BFn := BF.out.alloc (.cells #[.string fi.1, .int .i64 fi.2] 30)
          clear BF
          have BF := Lib.hid BFn
          clear BFn
          have BMn := BM.out.alloc (.cells #[.string fi.1, .int .i64 fi.2] 30)
          clear BM
          have BM := Lib.hid BMn
          clear BMn
          have BRn := BR.out.alloc (.cells #[.string fi.1, .int .i64 fi.2] 30)
          clear BR
          have BR := Lib.hid BRn
          clear BRn
          have KTn := KT.out.alloc KT.out.size (.cells #[.string fi.1, .int .i64 fi.2] 30)
          clear KT
          have KT := Lib.hid KTn
          clear KTn
          have BI := Lib.hid (Blk.new x6 30 #[.string fi.1, .int .i64 fi.2])
          have hq := BR.out
          have q0 := hq.cell 0
          have q1 := hq.cell 1
          have q2 := hq.cell 2
          simp only [List.getElem?_toArray, List.getElem?_cons_succ, List.getElem?_cons_zero] at q0 q1 q2
          have zq := hq.lt
          have zm := KT.out.size
          have zn : ¬ (w.heap.size = ((x6.alloc (.cells #[.string fi.1, .int .i64 fi.2] 30))).heap.size) := by omega
          clear hq
          have cBF := BF.out.cell 0
          have dBF := BF.out.cell 1
          simp only [List.getElem?_toArray, List.getElem?_cons_succ, List.getElem?_cons_zero] at cBF dBF
          have lBF := BF.out.lt
          have cBM := BM.out.cell 0
          have dBM := BM.out.cell 1
          simp only [List.getElem?_toArray, List.getElem?_cons_succ, List.getElem?_cons_zero] at cBM dBM
          have lBM := BM.out.lt
          have cBI := BI.out.cell 0
          have dBI := BI.out.cell 1
          simp only [List.getElem?_toArray, List.getElem?_cons_succ, List.getElem?_cons_zero] at cBI dBI
          have lBI := BI.out.lt
          go_wp2_with fail
          refine (law12_declares D fi rc rn rd false _ _ (HT.out.kept KT.out) HD.out.th (by exact HD.out.at_)).mono ?_
          rintro e x7 ⟨rfl, k⟩
          clear q0 q1 q2 zq zm zn cBF dBF lBF cBM dBM lBM cBI dBI lBI
          have BFn := BF.out.kept k
          clear BF
          have BF := Lib.hid BFn
          clear BFn
          have BMn := BM.out.kept k
          clear BM
          have BM := Lib.hid BMn
          clear BMn
          have BIn := BI.out.kept k
          clear BI
          have BI := Lib.hid BIn
          clear BIn
          have BRn := BR.out.kept k
          clear BR
          have BR := Lib.hid BRn
          clear BRn
          have KTn := Kept.trans KT.out k
          clear KT
          have KT := Lib.hid KTn
          clear KTn k
          have CS := kin_Sub D rc fi.1 _ _ (HT.out.kept KT.out) HRC.out
          rw [decide_eq_false HSB.out] at CS
          have CS := Lib.hid CS
          have hq := BR.out
          have q0 := hq.cell 0
          have q1 := hq.cell 1
          have q2 := hq.cell 2
          simp only [List.getElem?_toArray, List.getElem?_cons_succ, List.getElem?_cons_zero] at q0 q1 q2
          have zq := hq.lt
          have zm := KT.out.size
          have zn : ¬ (w.heap.size = (x7).heap.size) := by omega
          clear hq
          have cBF := BF.out.cell 0
          have dBF := BF.out.cell 1
          simp only [List.getElem?_toArray, List.getElem?_cons_succ, List.getElem?_cons_zero] at cBF dBF
          have lBF := BF.out.lt
          have cBM := BM.out.cell 0
          have dBM := BM.out.cell 1
          simp only [List.getElem?_toArray, List.getElem?_cons_succ, List.getElem?_cons_zero] at cBM dBM
          have lBM := BM.out.lt
          have cBI := BI.out.cell 0
          have dBI := BI.out.cell 1
          simp only [List.getElem?_toArray, List.getElem?_cons_succ, List.getElem?_cons_zero] at cBI dBI
          have lBI := BI.out.lt
          go_wp2_with fail
          refine (CS.out).mono ?_
          rintro e x8 ⟨rfl, k⟩
          clear q0 q1 q2 zq zm zn cBF dBF lBF cBM dBM lBM cBI dBI lBI
          have BFn := BF.out.kept k
          clear BF
          have BF := Lib.hid BFn
          clear BFn
          have BMn := BM.out.kept k
          clear BM
          have BM := Lib.hid BMn
          clear BMn
          have BIn := BI.out.kept k
          clear BI
          have BI := Lib.hid BIn
          clear BIn
          have BRn := BR.out.kept k
          clear BR
          have BR := Lib.hid BRn
          clear BRn
          have KTn := Kept.trans KT.out k
          clear KT
          have KT := Lib.hid KTn
          clear KTn k
          clear CS
          have hob := HOB.out
          have hq := BR.out
          have q0 := hq.cell 0
          have q1 := hq.cell 1
          have q2 := hq.cell 2
          simp only [List.getElem?_toArray, List.getElem?_cons_succ, List.getElem?_cons_zero] at q0 q1 q2
          have zq := hq.lt
          have zm := KT.out.size
          have zn : ¬ (w.heap.size = (x8).heap.size) := by omega
          clear hq
          have cBF := BF.out.cell 0
          have dBF := BF.out.cell 1
          simp only [List.getElem?_toArray, List.getElem?_cons_succ, List.getElem?_cons_zero] at cBF dBF
          have lBF := BF.out.lt
          have cBM := BM.out.cell 0
          have dBM := BM.out.cell 1
          simp only [List.getElem?_toArray, List.getElem?_cons_succ, List.getElem?_cons_zero] at cBM dBM
          have lBM := BM.out.lt
          have cBI := BI.out.cell 0
          have dBI := BI.out.cell 1
          simp only [List.getElem?_toArray, List.getElem?_cons_succ, List.getElem?_cons_zero] at cBI dBI
          have lBI := BI.out.lt
          go_wp2_with fail
          go_ret
          exact ⟨rfl, Kept.trans K2.out KT.out⟩
      · rw [hf]
        unfold resV f0
        have hei := he
        unfold ErrB at hei
        clear hf he
        have BFn := BF.out.alloc (.cells #[.string ⟨#[]⟩, .int .i64 0] 30)
        clear BF
        have BF := Lib.hid BFn
        clear BFn
        have BMn := BM.out.alloc (.cells #[.string ⟨#[]⟩, .int .i64 0] 30)
        clear BM
        have BM := Lib.hid BMn
        clear BMn
        have BRn := BR.out.alloc (.cells #[.string ⟨#[]⟩, .int .i64 0] 30)
        clear BR
        have BR := Lib.hid BRn
        clear BRn
        have KTn := KT.out.alloc KT.out.size (.cells #[.string ⟨#[]⟩, .int .i64 0] 30)
        clear KT
        have KT := Lib.hid KTn
        clear KTn
        have BI := Lib.hid (Blk.new x6 30 #[.string ⟨#[]⟩, .int .i64 0])
        have hq := BR.out
        have q0 := hq.cell 0
        have q1 := hq.cell 1
        have q2 := hq.cell 2
        simp only [List.getElem?_toArray, List.getElem?_cons_succ, List.getElem?_cons_zero] at q0 q1 q2
        have zq := hq.lt
        have zm := KT.out.size
        have zn : ¬ (w.heap.size = ((x6.alloc (.cells #[.string ⟨#[]⟩, .int .i64 0] 30))).heap.size) := by omega
        clear hq
        have cBF := BF.out.cell 0
        have dBF := BF.out.cell 1
        simp only [List.getElem?_toArray, List.getElem?_cons_succ, List.getElem?_cons_zero] at cBF dBF
        have lBF := BF.out.lt
        have cBM := BM.out.cell 0
        have dBM := BM.out.cell 1
        simp only [List.getElem?_toArray, List.getElem?_cons_succ, List.getElem?_cons_zero] at cBM dBM
        have lBM := BM.out.lt
        have cBI := BI.out.cell 0
        have dBI := BI.out.cell 1
        simp only [List.getElem?_toArray, List.getElem?_cons_succ, List.getElem?_cons_zero] at cBI dBI
        have lBI := BI.out.lt
        go_wp2_with fail
        go_ret
        exact ⟨rfl, Kept.trans K2.out KT.out⟩

theorem walk_FindThere (l : List TypeV) (v : Value) (r : RefV) (w : World) (hr : Rd w 6 v l.length (l.flatMap encTypeV)) (hok : ∀ y ∈ l, TypeV.Ok w y) (hlen : l.length ≤ 140737488351232) (hrk : RefV.Ok w r) :
    Calls Try.prog 7 #[v, .agg (encRefV r).toArray] w fun e w' => e = .returned (.bool true) ∧ Below w.heap.size w w' := by
  cases hfl : fieldL (l.map TypeV.d) r.cls r.name r.desc with
  | some ff => exact walk_FindThere1 l v r w hr hok hlen hrk ff hfl
  | none =>
    cases hka : atO (l.map TypeV.d) r.cls with
    | none => exact walk_FindThere2 l v r w hr hok hlen hrk hfl hka
    | some ka => exact walk_FindThere3 l v r w hr hok hlen hrk ka hfl hka
end Go.Proofs.Ytinkidclidoliaa
