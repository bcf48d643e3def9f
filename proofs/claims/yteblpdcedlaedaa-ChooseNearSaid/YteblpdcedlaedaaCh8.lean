/-
  Package choose by contract: Special.
-/
import Derived.Test.YteblpdcedlaedaaCh5
import Derived.Test.YteblpdcedlaedaaFindF
import Derived.Deep.CutBlock
namespace Go.Proofs.Yteblpdcedlaedaa
open Go.RowKit
set_option maxRecDepth 100000

def initB : ByteArray := ⟨#[60, 105, 110, 105, 116, 62]⟩
/-- The class that the search begins at. -/
def spC (D : List TD) (a rc rn : ByteArray) : ByteArray := if bits .and .i64 (accT D a) 32 ≠ 0 ∧ rn ≠ initB ∧ bits .and .i64 (accT D rc) 512 = 0 ∧ rc ≠ a ∧ rc ∈ chainL D a then supO D a else rc
def specL (D : List TD) (c : ByteArray) : List ByteArray := if faceT D c = true then [c] else chainL D c
def specC (D : List TD) (c rn rd : ByteArray) : GR := match frsL D (specL D c) rn rd tkI with
  | some g => toldR D g.1 (g.2 : Nat)
  | none => if faceT D c = true then (match objF D c rn rd with
    | some g => toldR D g.1 (g.2 : Nat)
    | none => onR D c rn rd) else onR D c rn rd
def specR (D : List TD) (a rc rn rd : ByteArray) : GR := if there D a ∧ there D rc then specC D (spC D a rc rn) rn rd else (gz, nmB)
theorem spC_no {D : List TD} {a rc rn : ByteArray} (h : bits .and .i64 (accT D a) 32 = 0 ∨ rn = initB ∨ bits .and .i64 (accT D rc) 512 ≠ 0 ∨ rc = a ∨ rc ∉ chainL D a) : spC D a rc rn = rc := by
  unfold spC
  rw [if_neg]
  rintro ⟨h1, h2, h3, h4, h5⟩
  rcases h with h | h | h | h | h
  · exact h1 h
  · exact h2 h
  · exact h h3
  · exact h4 h
  · exact h h5
theorem spC_yes {D : List TD} {a rc rn : ByteArray} (h1 : bits .and .i64 (accT D a) 32 ≠ 0) (h2 : rn ≠ initB) (h3 : bits .and .i64 (accT D rc) 512 = 0) (h4 : rc ≠ a) (h5 : rc ∈ chainL D a) : spC D a rc rn = supO D a := by
  unfold spC
  rw [if_pos ⟨h1, h2, h3, h4, h5⟩]
theorem chain_cons {D : List TD} {a : ByteArray} {k : Nat} {t : TD} (h : atO D a = some k) (ht : D[k]? = some t) : chainL D a = chainR D D.length t.super [a] := chainR_step h ht (by simp)
/-- The tests ahead of the chain. -/
def spQ (D : List TD) (a rc rn : ByteArray) : Prop := bits .and .i64 (accT D a) 32 ≠ 0 ∧ rn ≠ initB ∧ bits .and .i64 (accT D rc) 512 = 0 ∧ rc ≠ a
instance (D : List TD) (a rc rn : ByteArray) : Decidable (spQ D a rc rn) := inferInstanceAs (Decidable (_ ∧ _))
theorem spQ_no {D : List TD} {a rc rn : ByteArray} (h : bits .and .i64 (accT D a) 32 = 0 ∨ rn = initB ∨ bits .and .i64 (accT D rc) 512 ≠ 0 ∨ rc = a) : decide (spQ D a rc rn) = false := by
  refine decide_eq_false ?_
  rintro ⟨h1, h2, h3, h4⟩
  rcases h with h | h | h | h
  · exact h1 h
  · exact h2 h
  · exact h h3
  · exact h4 h
theorem spC_q {D : List TD} {a rc rn : ByteArray} (h : ¬ spQ D a rc rn) : spC D a rc rn = rc := by
  unfold spC
  rw [if_neg]
  rintro ⟨h1, h2, h3, h4, -⟩
  exact h ⟨h1, h2, h3, h4⟩
theorem spC_there {D : List TD} {a rc rn : ByteArray} (ha : there D a) (hr : there D rc) : there D (spC D a rc rn) := by
  unfold spC
  split
  · rename_i h
    obtain ⟨-, -, -, h4, h5⟩ := h
    unfold there at ha
    obtain ⟨k, hk⟩ := Option.isSome_iff_exists.1 ha
    obtain ⟨t, ht, _⟩ := atO_some hk
    rw [supO_at hk ht]
    rw [chain_cons hk ht] at h5
    by_cases hs : there D t.super
    · exact hs
    · exfalso
      rw [chainR_end (.inl (by unfold there at hs; simpa using hs))] at h5
      exact h4 (by simpa using h5)
  · exact hr
theorem frs_obj (D : List TD) (c n d : ByteArray) : frsL D [objB] n d tkP = objF D c n d := by
  unfold frsL objF
  simp only [List.findSome?_cons, List.findSome?_nil]
  unfold frsF
  cases mth D objB n d with
  | none => rfl
  | some x =>
    simp only [Option.bind_some]
    unfold tkP
    by_cases h8 : bits .and .i64 x.2 8 = 0 <;> by_cases h1 : bits .and .i64 x.2 1 = 0 <;> simp [h8, h1]

def AtV (D : List TD) (s : ByteArray) (w : World) (e : Ending) (w' : World) : Prop := ∃ (nme : ByteArray) (ai : Option Addr) (ni ci : Nat) (af : Option Addr) (nf cf : Nat) (am : Option Addr) (nq cm : Nat), e = .returned (.tuple #[.agg #[.string nme, .string (supO D s), .int .i64 (accT D s), .slice ai ni ci, .slice af nf cf, .slice am nq cm], .bool (decide (there D s))]) ∧ Kept w w'
theorem ch_at (D : List TD) (s : ByteArray) (v : Value) (w : World) (h : TyR w v D) : Calls Try.prog 38 #[v, .string s] w (AtV D s w) := by
  cases ho : atO D s with
  | none =>
    refine (ch_at_none D s v w h ho).mono ?_
    rintro e w' ⟨rfl, k⟩
    have h1 : supO D s = ⟨#[]⟩ := by simp [supO, ho]
    have h2 : accT D s = 0 := by simp [accT, ho]
    have h3 : decide (there D s) = false := decide_eq_false (by unfold there; rw [ho]; simp)
    exact ⟨⟨#[]⟩, none, 0, 0, none, 0, 0, none, 0, 0, by rw [h1, h2, h3], k⟩
  | some k =>
    obtain ⟨t, ht, -, -⟩ := atO_some ho
    refine (ch_at_some D s k t v w h ho ht).mono ?_
    rintro e w' ⟨ai, ci, af, cf, am, cm, rfl, -, -, k⟩
    have h3 : decide (there D s) = true := decide_eq_true (by unfold there; rw [ho]; rfl)
    exact ⟨t.name, ai, t.interfaces.length, ci, af, t.fields.length, cf, am, t.methods.length, cm, by rw [supO_at ho ht, accT_at ho ht, h3], k⟩

set_option maxHeartbeats 16000000 in
theorem ch_Special (D : List TD) (a rc rn rd : ByteArray) (v : Value) (w : World) (h : TyR w v D) (has : a.size ≤ maxLen) (hrc : rc.size ≤ maxLen) :
    Calls Try.prog 19 #[v, .string a, .agg #[.string rc, .string rn, .string rd]] w fun e w' => e = .returned (resG (specR D a rc rn rd)) ∧ Kept w w' := by
  have H := Lib.hid h
  have HAS := Lib.hid has
  have HRC := Lib.hid hrc
  have hDl := h.len
  have k0 : Kept w ((w.alloc (.cells #[.string rc, .string rn, .string rd] 44)).alloc (.cells #[.string ⟨#[]⟩, .int .i64 0] 24)) := ((Below.refl _ _).alloc (Nat.le_refl _) _).alloc (by simp) _
  have b0 : Blk ((w.alloc (.cells #[.string rc, .string rn, .string rd] 44)).alloc (.cells #[.string ⟨#[]⟩, .int .i64 0] 24)) w.heap.size 44 #[.string rc, .string rn, .string rd] := (Blk.new w _ _).alloc _
  have b1 : Blk ((w.alloc (.cells #[.string rc, .string rn, .string rd] 44)).alloc (.cells #[.string ⟨#[]⟩, .int .i64 0] 24)) (w.heap.size + 1) 24 #[.string ⟨#[]⟩, .int .i64 0] := Blk.at_ (by simp)
  have K0 := Lib.hid k0
  have B0 := Lib.hid b0
  have B1 := Lib.hid b1
  clear h has hrc k0 b0 b1
  go_enter Try.func19, Try.ntmps19
  go_upto_region 1 with fail
  generalize ((w.alloc (.cells #[.string rc, .string rn, .string rd] 44)).alloc (.cells #[.string ⟨#[]⟩, .int .i64 0] 24)) = W at *
  have KR := Lib.hid (Below.refl W.heap.size W)
  go_wp2_with fail
  refine (ch_at D a _ W (H.out.kept (Kept.trans K0.out KR.out))).mono ?_
  rintro e wf ⟨fn, f1, f2, f3, f4, f5, f6, f7, f8, f9, rfl, kf⟩
  obtain ⟨fs, hfs⟩ : ∃ x, x = supO D a := ⟨_, rfl⟩
  obtain ⟨fa, hfa⟩ : ∃ x, x = accT D a := ⟨_, rfl⟩
  obtain ⟨fb, hfb⟩ : ∃ x, x = decide (there D a) := ⟨_, rfl⟩
  rw [← hfs, ← hfa, ← hfb]
  have HfS := Lib.hid hfs
  have HfA := Lib.hid hfa
  have HfB := Lib.hid hfb
  have kx : Kept wf (wf.alloc (.cells #[.string fn, .string fs, .int .i64 fa, .slice f1 f2 f3, .slice f4 f5 f6, .slice f7 f8 f9] 36)) := (Below.refl _ _).alloc (Nat.le_refl _) _
  have KL := Lib.hid (Kept.trans kf kx)
  have Kf := Lib.hid (Kept.trans KR.out KL.out)
  have Bf := Lib.hid (Blk.new wf 36 #[.string fn, .string fs, .int .i64 fa, .slice f1 f2 f3, .slice f4 f5 f6, .slice f7 f8 f9])
  obtain ⟨gf, hgf⟩ : ∃ g, g = wf.heap.size := ⟨_, rfl⟩
  rw [← hgf] at Bf
  clear kf kx hfs hfa hfb
  go_upto_region 2 with fail
  rw [← hgf]
  generalize (wf.alloc (.cells #[.string fn, .string fs, .int .i64 fa, .slice f1 f2 f3, .slice f4 f5 f6, .slice f7 f8 f9] 36)) = Xf at *
  clear hgf
  have bq := B0.out.kept Kf.out
  have q0 := bq.cell 0
  have q1 := bq.cell 1
  have q2 := bq.cell 2
  simp only [List.getElem?_toArray, List.getElem?_cons_succ, List.getElem?_cons_zero] at q0 q1 q2
  have zq := bq.lt
  clear bq
  go_wp2_with fail
  refine (ch_at D rc _ Xf (H.out.kept (Kept.trans K0.out Kf.out))).mono ?_
  rintro e wt ⟨tn, t1, t2, t3, t4, t5, t6, t7, t8, t9, rfl, kt⟩
  obtain ⟨ts, hts⟩ : ∃ x, x = supO D rc := ⟨_, rfl⟩
  obtain ⟨ta, hta⟩ : ∃ x, x = accT D rc := ⟨_, rfl⟩
  obtain ⟨tb, htb⟩ : ∃ x, x = decide (there D rc) := ⟨_, rfl⟩
  rw [← hts, ← hta, ← htb]
  have HtS := Lib.hid hts
  have HtA := Lib.hid hta
  have HtB := Lib.hid htb
  have kx : Kept wt (wt.alloc (.cells #[.string tn, .string ts, .int .i64 ta, .slice t1 t2 t3, .slice t4 t5 t6, .slice t7 t8 t9] 36)) := (Below.refl _ _).alloc (Nat.le_refl _) _
  have KL := Lib.hid (Kept.trans kt kx)
  have Kt := Lib.hid (Kept.trans Kf.out KL.out)
  have Bt := Lib.hid (Blk.new wt 36 #[.string tn, .string ts, .int .i64 ta, .slice t1 t2 t3, .slice t4 t5 t6, .slice t7 t8 t9])
  obtain ⟨gt, hgt⟩ : ∃ g, g = wt.heap.size := ⟨_, rfl⟩
  rw [← hgt] at Bt
  clear kt kx hts hta htb
  go_upto_region 3 with fail
  rw [← hgt]
  generalize (wt.alloc (.cells #[.string tn, .string ts, .int .i64 ta, .slice t1 t2 t3, .slice t4 t5 t6, .slice t7 t8 t9] 36)) = Xt at *
  clear hgt
  have BfT := Lib.hid (Bf.out.kept KL.out)
  clear q0 q1 q2 zq
  have bq := B0.out.kept Kt.out
  have q0 := bq.cell 0
  have q1 := bq.cell 1
  have q2 := bq.cell 2
  simp only [List.getElem?_toArray, List.getElem?_cons_succ, List.getElem?_cons_zero] at q0 q1 q2
  have zq := bq.lt
  clear bq
  by_cases hth : there D a ∧ there D rc
  · obtain ⟨hta, htr⟩ := hth
    have HTA := Lib.hid hta
    have HTR := Lib.hid htr
    have hfb : fb = true := by rw [HfB.out]; exact decide_eq_true hta
    have htb : tb = true := by rw [HtB.out]; exact decide_eq_true htr
    subst hfb
    subst htb
    clear hta htr
    have bf := BfT.out
    have bt := Bt.out
    have cf1 := bf.cell 1
    have cf2 := bf.cell 2
    simp only [List.getElem?_toArray, List.getElem?_cons_succ, List.getElem?_cons_zero] at cf1 cf2
    have ct2 := bt.cell 2
    simp only [List.getElem?_toArray, List.getElem?_cons_succ, List.getElem?_cons_zero] at ct2
    have lf := bf.lt
    have lt := bt.lt
    clear bf bt
    go_upto_region 5 with fail
    go_upto_region 6 with fail
    go_cut [67] from 47 to 67 (fun s67 wx => s67 = .bool (decide (spQ D a rc rn)) ∧ Xt = wx)
    case first =>
      by_cases h1 : bits .and .i64 fa 32 = 0
      · have e1 : (bits .and .i64 fa 32 != 0) = false := by simp [h1]
        have HS := Lib.hid (spQ_no (D := D) (a := a) (rc := rc) (rn := rn) (.inl (by rw [← HfA.out]; exact h1)))
        clear h1
        go_wp2_with fail
        go_meet
        exact ⟨by rw [HS.out], rfl⟩
      · have e1 : (bits .and .i64 fa 32 != 0) = true := by simp [h1]
        by_cases h2 : rn = initB
        · have HS := Lib.hid (spQ_no (D := D) (a := a) (rc := rc) (rn := rn) (.inr (.inl h2)))
          have e2 : rn.toList = [60, 105, 110, 105, 116, 62] := by rw [h2]; simp [initB, ByteArray.toList_eq]
          clear h1 h2
          go_wp2_with fail
          go_meet
          exact ⟨by rw [HS.out], rfl⟩
        · have e2 : (rn.toList == [60, 105, 110, 105, 116, 62]) = false := by
            have := str_ne_ h2
            have hx : initB.toList = [60, 105, 110, 105, 116, 62] := by simp [initB, ByteArray.toList_eq]
            rwa [hx] at this
          have e2' : ¬ (rn.toList = [60, 105, 110, 105, 116, 62]) := by simpa using e2
          have e2n : (rn.toList != [60, 105, 110, 105, 116, 62]) = true := by simpa using e2'
          by_cases h3 : bits .and .i64 ta 512 = 0
          · have e3 : (bits .and .i64 ta 512 == 0) = true := by simp [h3]
            by_cases h4 : rc = a
            · have HS := Lib.hid (spQ_no (D := D) (a := a) (rc := rc) (rn := rn) (.inr (.inr (.inr h4))))
              have e4' : rc.toList = a.toList := by rw [h4]
              clear h1 h2 h3 h4
              go_wp2_with fail
              go_meet
              exact ⟨by rw [HS.out], rfl⟩
            · have e4 := str_ne_ h4
              have e4' : ¬ (rc.toList = a.toList) := by simpa using e4
              have e4n : (rc.toList != a.toList) = true := by simpa using e4'
              have HS := Lib.hid (show decide (spQ D a rc rn) = true from decide_eq_true ⟨by rw [← HfA.out]; exact h1, h2, by rw [← HtA.out]; exact h3, h4⟩)
              clear h1 h2 h3 h4
              go_wp2_with fail
              go_meet
              exact ⟨by rw [HS.out], rfl⟩
          · have e3 : (bits .and .i64 ta 512 == 0) = false := by simp [h3]
            have HS := Lib.hid (spQ_no (D := D) (a := a) (rc := rc) (rn := rn) (.inr (.inr (.inl (by rw [← HtA.out]; exact h3)))))
            clear h1 h2 h3
            go_wp2_with fail
            go_meet
            exact ⟨by rw [HS.out], rfl⟩
    case rest =>
    obtain ⟨rfl, rfl⟩ := hcut
    obtain ⟨qb, hqb⟩ : ∃ b, b = decide (spQ D a rc rn) := ⟨_, rfl⟩
    rw [← hqb]
    have HQB := Lib.hid hqb
    clear hqb
    go_upto_if 67 with fail
    go_cut [12] from 68 to 82 (fun s12 wx => s12 = .string (spC D a rc rn) ∧ Kept Xt wx)
    case first =>
      cases qb with
      | false =>
        have HS := Lib.hid (spC_q (of_decide_eq_false HQB.out.symm))
        go_wp2_with fail
        go_meet
        exact ⟨by rw [HS.out], Below.refl _ _⟩
      | true =>
        have hq := of_decide_eq_true HQB.out.symm
        have HSY := Lib.hid (fun h5 => spC_yes (D := D) (a := a) (rc := rc) (rn := rn) hq.1 hq.2.1 hq.2.2.1 hq.2.2.2 h5)
        have HSN := Lib.hid (fun h5 => spC_no (D := D) (a := a) (rc := rc) (rn := rn) (.inr (.inr (.inr (.inr h5)))))
        clear hq
        go_wp2_with fail
        refine (kin_Chain D a _ Xt (H.out.kept (Kept.trans K0.out Kt.out)) HAS.out).mono ?_
        rintro e wc ⟨vc, rfl, hvc, kc⟩
        obtain ⟨C, hC⟩ : ∃ C, C = chainL D a := ⟨_, rfl⟩
        have hCl : C.length ≤ 100 := by rw [hC]; have := (chainL_nms D a).le; omega
        obtain ⟨N, hN⟩ : ∃ N, N = C.length := ⟨_, rfl⟩
        have hrd : Rd wc 1 vc N (C.flatMap encS) := by rw [hN, hC]; exact hvc.rd
        have HV := Lib.hid hrd
        have HC := Lib.hid hC
        have HN := Lib.hid hN
        have KC := Lib.hid kc
        obtain ⟨-, ac, cc, rfl, hcc1, hcc2, -⟩ := hrd
        have hNl : N ≤ 100 := by omega
        clear hvc kc hC hN hCl q0 q1 q2 zq cf1 cf2 ct2 lf lt
        go_wp2_with fail
        go_loopw [12, 72] (fun s12 s72 wr => ∃ (k : Nat) (cl : ByteArray), k ≤ N ∧ s72 = .int .i64 k ∧ s12 = .string cl ∧ cl = (if rc ∈ C.take k then fs else rc) ∧ Kept wc wr) (fun _ s72 _ => N - (intOf s72).toNat)
        case atStart => exact ⟨0, rc, by omega, rfl, rfl, by simp, Below.refl _ _⟩
        case round =>
          obtain ⟨k, cl, hk, rfl, rfl, hcl, hK⟩ := hrel
          rename World => wr
          have HCL := Lib.hid hcl
          have HK := Lib.hid hK
          clear hcl
          by_cases hlt : k < N
          · obtain ⟨s, hs⟩ : ∃ s, C[k]? = some s := ⟨_, List.getElem?_eq_getElem (by have := HN.out; omega)⟩
            obtain ⟨sb, so, sc, hv, y0⟩ := str_cell HN.out (HV.out.kept hK) hs
            simp only [Value.slice.injEq] at hv
            obtain ⟨rfl, -, rfl⟩ := hv
            have HS := Lib.hid hs
            have KW := Lib.hid (Kept.trans (Kept.trans Kt.out KC.out) hK)
            have bfw := BfT.out.kept (Kept.trans KC.out hK)
            have bq := B0.out.kept KW.out
            have q0 := bq.cell 0
            have q1 := bq.cell 1
            have q2 := bq.cell 2
            simp only [List.getElem?_toArray, List.getElem?_cons_succ, List.getElem?_cons_zero] at q0 q1 q2
            have zq := bq.lt
            clear bq
            have cf1 := bfw.cell 1
            simp only [List.getElem?_toArray, List.getElem?_cons_succ, List.getElem?_cons_zero] at cf1
            have lf := bfw.lt
            clear bfw hs hK
            by_cases he : s = rc
            · have e5 : (s.toList == rc.toList) = true := by rw [he]; simp
              have HX := Lib.hid (show fs = if rc ∈ C.take (k + 1) then fs else rc by rw [take_next HS.out, he]; simp)
              clear he
              go_wp2_with fail
              go_roundw
              case rel => exact ⟨k + 1, fs, by omega, by go_num, rfl, HX.out, HK.out⟩
              case measure => simp [intOf]; omega
            · have e5 := str_ne_ he
              have HX := Lib.hid (show cl = if rc ∈ C.take (k + 1) then fs else rc by rw [HCL.out, take_next HS.out]; simp [show ¬ rc = s from fun e => he e.symm])
              clear he
              go_wp2_with fail
              go_roundw
              case rel => exact ⟨k + 1, cl, by omega, by go_num, rfl, HX.out, HK.out⟩
              case measure => simp [intOf]; omega
          · have HX := Lib.hid (show cl = spC D a rc rn by
              rw [HCL.out, List.take_of_length_le (by have := HN.out; omega), HC.out]
              by_cases h5 : rc ∈ chainL D a
              · rw [if_pos h5, HSY.out h5, HfS.out]
              · rw [if_neg h5, HSN.out h5])
            clear hK
            go_wp2_with fail
            go_meet
            exact ⟨by rw [HX.out], Kept.trans KC.out HK.out⟩
    case rest =>
      obtain ⟨rfl, kcut⟩ := hcut
      rename World => Xs
      obtain ⟨cN, hcN⟩ : ∃ c, c = spC D a rc rn := ⟨_, rfl⟩
      rw [← hcN]
      have HCN := Lib.hid (show specR D a rc rn rd = specC D cN rn rd by unfold specR; rw [if_pos ⟨HTA.out, HTR.out⟩, hcN])
      have hct : there D cN := by rw [hcN]; exact spC_there HTA.out HTR.out
      have HCT := Lib.hid hct
      have HCZ := Lib.hid (H.out.size_of hct)
      have Ks := Lib.hid (Kept.trans Kt.out kcut)
      clear kcut hcN hct q0 q1 q2 zq cf1 cf2 ct2 lf lt
      go_wp2_with fail
      refine (ch_at D cN _ Xs (H.out.kept (Kept.trans K0.out Ks.out))).mono ?_
      rintro e wc ⟨cn, c1, c2, c3, c4, c5, c6, c7, c8, c9, rfl, kc⟩
      obtain ⟨cs, hcs⟩ : ∃ x, x = supO D cN := ⟨_, rfl⟩
      obtain ⟨ca, hca⟩ : ∃ x, x = accT D cN := ⟨_, rfl⟩
      obtain ⟨cb, hcb⟩ : ∃ x, x = decide (there D cN) := ⟨_, rfl⟩
      rw [← hcs, ← hca, ← hcb]
      have HcS := Lib.hid hcs
      have HcA := Lib.hid hca
      have HcB := Lib.hid hcb
      have kx : Kept wc (wc.alloc (.cells #[.string cn, .string cs, .int .i64 ca, .slice c1 c2 c3, .slice c4 c5 c6, .slice c7 c8 c9] 36)) := (Below.refl _ _).alloc (Nat.le_refl _) _
      have KL := Lib.hid (Kept.trans kc kx)
      have Kc := Lib.hid (Kept.trans Ks.out KL.out)
      have Bc := Lib.hid (Blk.new wc 36 #[.string cn, .string cs, .int .i64 ca, .slice c1 c2 c3, .slice c4 c5 c6, .slice c7 c8 c9])
      obtain ⟨gc, hgc⟩ : ∃ g, g = wc.heap.size := ⟨_, rfl⟩
      rw [← hgc] at Bc
      clear kc kx hcs hca hcb
      go_upto_region 14 with fail
      rw [← hgc]
      generalize (wc.alloc (.cells #[.string cn, .string cs, .int .i64 ca, .slice c1 c2 c3, .slice c4 c5 c6, .slice c7 c8 c9] 36)) = Xc at *
      clear hgc
      have hcb : cb = true := by rw [HcB.out]; exact decide_eq_true HCT.out
      subst hcb
      have bc := Bc.out
      have cc2 := bc.cell 2
      simp only [List.getElem?_toArray, List.getElem?_cons_succ, List.getElem?_cons_zero] at cc2
      have lc := bc.lt
      clear bc
      have hfc : faceT D cN = (bits .and .i64 ca 512 != 0) := by unfold faceT; rw [HcA.out]
      have HFC := Lib.hid hfc
      clear hfc
      have hface : ∀ b, (bits .and .i64 ca 512 != 0) = b → specL D cN = if b = true then [cN] else chainL D cN := by
        intro b hb
        unfold specL
        rw [HFC.out, hb]
      have HFACE := Lib.hid hface
      clear hface
      obtain ⟨C, hC⟩ : ∃ C, C = chainL D cN := ⟨_, rfl⟩
      have hCl : C.length ≤ 100 := by rw [hC]; have := (chainL_nms D cN).le; omega
      have HC := Lib.hid hC
      clear hC
      go_upto_region 15 with fail
      go_wp2_with fail
      refine (kin_Chain D cN _ Xc (H.out.kept (Kept.trans K0.out Kc.out)) HCZ.out).mono ?_
      rintro e wh ⟨vc, rfl, hvc, kh⟩
      rw [← HC.out] at hvc
      have HVC := Lib.hid hvc
      have Kh := Lib.hid (Kept.trans Kc.out kh)
      clear hvc kh cc2 lc
      have bq := B0.out.kept Kh.out
      have q0 := bq.cell 0
      have q1 := bq.cell 1
      have q2 := bq.cell 2
      simp only [List.getElem?_toArray, List.getElem?_cons_succ, List.getElem?_cons_zero] at q0 q1 q2
      have zq := bq.lt
      clear bq
      go_upto_region 17 with fail
      have ky : Kept wh (wh.alloc (.cells #[.string rn, .string rd] 54)) := (Below.refl _ _).alloc (Nat.le_refl _) _
      have BKY := Lib.hid (Blk.new wh 54 #[.string rn, .string rd])
      have KX := Lib.hid (Kept.trans Kh.out ky)
      have HVX := Lib.hid (HVC.out.kept ky)
      obtain ⟨kb, hkb⟩ : ∃ b, b = wh.heap.size := ⟨_, rfl⟩
      rw [← hkb] at BKY
      rw [← hkb]
      generalize (wh.alloc (.cells #[.string rn, .string rd] 54)) = X at *
      clear ky hkb q0 q1 q2 zq
      have bk := BKY.out
      have d0 := bk.cell 0
      have d1 := bk.cell 1
      simp only [List.getElem?_toArray, List.getElem?_cons_succ, List.getElem?_cons_zero] at d0 d1
      have zk := bk.lt
      clear bk
      cases hfb : (bits .and .i64 ca 512 != 0) with
      | false =>
        have HSL := Lib.hid (show specL D cN = C by rw [HFACE.out false hfb, HC.out]; rfl)
        have HFT := Lib.hid (show faceT D cN = false by rw [HFC.out, hfb])
        clear hfb
        cases hfrA : frsL D C rn rd tkI with
        | some g =>
          have cf : ∀ (w' : World) (vc : Value), TyR w' v D → Rd w' 1 vc (C).length ((C).flatMap encS) → Calls Try.prog 26 #[v, vc, .agg #[.string rn, .string rd], .func (.func 25) #[] #[]] w' (fun e w'' => e = .returned (foV (frsL D (C) rn rd tkI)) ∧ Kept w' w'') := fun w' vc h1 h2 => ch_firstI D (C) rn rd v vc _ w' h1 rfl h2 (by omega)
          rw [hfrA] at cf
          unfold foV at cf
          have CFA := Lib.hid cf
          have HFRA := Lib.hid hfrA
          clear cf hfrA
          go_wp2_with fail
          refine (CFA.out _ _ (H.out.kept (Kept.trans K0.out KX.out)) HVX.out.rd).mono ?_
          rintro e wA ⟨rfl, kA⟩
          have kx : Kept wA (wA.alloc (.cells #[.string g.1, .int .i64 g.2] 24)) := (Below.refl _ _).alloc (Nat.le_refl _) _
          have KLA := Lib.hid (Kept.trans kA kx)
          have KA := Lib.hid (Kept.trans KX.out KLA.out)
          have bA := Blk.new wA 24 #[.string g.1, .int .i64 g.2]
          have oA0 := bA.cell 0
          have oA1 := bA.cell 1
          simp only [List.getElem?_toArray, List.getElem?_cons_succ, List.getElem?_cons_zero] at oA0 oA1
          have loA := bA.lt
          obtain ⟨ggA, hgA⟩ : ∃ x, x = wA.heap.size := ⟨_, rfl⟩
          rw [← hgA] at oA0 oA1 loA
          clear kA kx bA
          go_upto_region 20 with fail
          rw [← hgA]
          generalize (wA.alloc (.cells #[.string g.1, .int .i64 g.2] 24)) = XA at *
          clear hgA
          have bk := BKY.out.kept KLA.out
          have d0 := bk.cell 0
          have d1 := bk.cell 1
          simp only [List.getElem?_toArray, List.getElem?_cons_succ, List.getElem?_cons_zero] at d0 d1
          have zk := bk.lt
          clear bk
          skip
          go_wp2_with fail
          refine (ch_told D g.1 g.2 _ XA (H.out.kept (Kept.trans K0.out KA.out))).mono ?_
          rintro e wZ ⟨rfl, kZ⟩
          obtain ⟨r, hr⟩ : ∃ r, r = toldR D g.1 (g.2 : Nat) := ⟨_, rfl⟩
          rw [← hr]
          have HRR := Lib.hid hr
          have KZ_ := Lib.hid (Kept.trans KA.out kZ)
          clear kZ hr
          unfold resG
          have kp := KZ_.out
          have PF := fnd_put (B1.out.kept kp)
          have KP := Lib.hid (PF.keeps (Kept.trans K0.out kp) (by have := K0.out.size; omega))
          have g0 := PF.g0
          have g1 := PF.g1
          have h0 := PF.h0
          have h1 := PF.h1
          have zr := PF.lt
          have PF := Lib.hid PF
          clear kp
          have E0 := Lib.hid (PF.out.e0 (.string r.1.1))
          have E1 := Lib.hid (PF.out.e1 (.string r.1.1) (.int .i64 r.1.2))
          have PE := Lib.hid (fnd_put (PF.out.set (.string r.1.1) (.int .i64 r.1.2)))
          have HF := Lib.hid (show resG (specR D a rc rn rd) = resG r by rw [HCN.out]; unfold specC; rw [HSL.out, HFRA.out]; simp only; rw [HRR.out])
          go_wp2_with fail
          refine bodyPost_ret (v := resG (specR D a rc rn rd)) (by rw [HF.out]; simp [results, Try.results19, go_sem, E0.out, E1.out, PE.out.g0, PE.out.g1, resG]) rfl ⟨rfl, ?_⟩
          exact KP.out _ _
        | none =>
          have cf : ∀ (w' : World) (vc : Value), TyR w' v D → Rd w' 1 vc (C).length ((C).flatMap encS) → Calls Try.prog 26 #[v, vc, .agg #[.string rn, .string rd], .func (.func 25) #[] #[]] w' (fun e w'' => e = .returned (foV (frsL D (C) rn rd tkI)) ∧ Kept w' w'') := fun w' vc h1 h2 => ch_firstI D (C) rn rd v vc _ w' h1 rfl h2 (by omega)
          rw [hfrA] at cf
          unfold foV at cf
          have CFA := Lib.hid cf
          have HFRA := Lib.hid hfrA
          clear cf hfrA
          go_wp2_with fail
          refine (CFA.out _ _ (H.out.kept (Kept.trans K0.out KX.out)) HVX.out.rd).mono ?_
          rintro e wA ⟨rfl, kA⟩
          have kx : Kept wA (wA.alloc (.cells #[.string ⟨#[]⟩, .int .i64 0] 24)) := (Below.refl _ _).alloc (Nat.le_refl _) _
          have KLA := Lib.hid (Kept.trans kA kx)
          have KA := Lib.hid (Kept.trans KX.out KLA.out)
          have bA := Blk.new wA 24 #[.string ⟨#[]⟩, .int .i64 0]
          have oA0 := bA.cell 0
          have oA1 := bA.cell 1
          simp only [List.getElem?_toArray, List.getElem?_cons_succ, List.getElem?_cons_zero] at oA0 oA1
          have loA := bA.lt
          obtain ⟨ggA, hgA⟩ : ∃ x, x = wA.heap.size := ⟨_, rfl⟩
          rw [← hgA] at oA0 oA1 loA
          clear kA kx bA
          go_upto_region 20 with fail
          rw [← hgA]
          generalize (wA.alloc (.cells #[.string ⟨#[]⟩, .int .i64 0] 24)) = XA at *
          clear hgA
          have bk := BKY.out.kept KLA.out
          have d0 := bk.cell 0
          have d1 := bk.cell 1
          simp only [List.getElem?_toArray, List.getElem?_cons_succ, List.getElem?_cons_zero] at d0 d1
          have zk := bk.lt
          clear bk
          skip
          go_wp2_with fail
          refine (ch_on D cN rn rd _ XA (H.out.kept (Kept.trans K0.out KA.out)) HCZ.out).mono ?_
          rintro e wZ ⟨rfl, kZ⟩
          obtain ⟨r, hr⟩ : ∃ r, r = onR D cN rn rd := ⟨_, rfl⟩
          rw [← hr]
          have HRR := Lib.hid hr
          have KZ_ := Lib.hid (Kept.trans KA.out kZ)
          clear kZ hr
          unfold resG
          have kp := KZ_.out
          have PF := fnd_put (B1.out.kept kp)
          have KP := Lib.hid (PF.keeps (Kept.trans K0.out kp) (by have := K0.out.size; omega))
          have g0 := PF.g0
          have g1 := PF.g1
          have h0 := PF.h0
          have h1 := PF.h1
          have zr := PF.lt
          have PF := Lib.hid PF
          clear kp
          have E0 := Lib.hid (PF.out.e0 (.string r.1.1))
          have E1 := Lib.hid (PF.out.e1 (.string r.1.1) (.int .i64 r.1.2))
          have PE := Lib.hid (fnd_put (PF.out.set (.string r.1.1) (.int .i64 r.1.2)))
          have HF := Lib.hid (show resG (specR D a rc rn rd) = resG r by rw [HCN.out]; unfold specC; rw [HSL.out, HFRA.out]; simp only; rw [if_neg (by rw [HFT.out]; decide)]; rw [HRR.out])
          go_wp2_with fail
          refine bodyPost_ret (v := resG (specR D a rc rn rd)) (by rw [HF.out]; simp [results, Try.results19, go_sem, E0.out, E1.out, PE.out.g0, PE.out.g1, resG]) rfl ⟨rfl, ?_⟩
          exact KP.out _ _
      | true =>
        have HSL := Lib.hid (show specL D cN = [cN] by rw [HFACE.out true hfb]; rfl)
        have HFT := Lib.hid (show faceT D cN = true by rw [HFC.out, hfb])
        clear hfb
        have ks : Kept X (X.alloc (.cells #[.string cN] 9)) := (Below.refl _ _).alloc (Nat.le_refl _) _
        have rs := Rd.one X [.string cN] 9 rfl
        have KS := Lib.hid (Kept.trans KX.out ks)
        have RS := Lib.hid rs
        have BKY := Lib.hid (BKY.out.kept ks)
        obtain ⟨sb, hsb⟩ : ∃ b, b = X.heap.size := ⟨_, rfl⟩
        go_upto_region 19 with fail
        rw [← hsb] at RS ⊢
        generalize (X.alloc (.cells #[.string cN] 9)) = Y at *
        clear ks rs hsb d0 d1 zk
        have bk := BKY.out
        have d0 := bk.cell 0
        have d1 := bk.cell 1
        simp only [List.getElem?_toArray, List.getElem?_cons_succ, List.getElem?_cons_zero] at d0 d1
        have zk := bk.lt
        clear bk
        cases hfrA : frsL D [cN] rn rd tkI with
        | some g =>
          have cf : ∀ (w' : World) (vc : Value), TyR w' v D → Rd w' 1 vc ([cN]).length (([cN]).flatMap encS) → Calls Try.prog 26 #[v, vc, .agg #[.string rn, .string rd], .func (.func 25) #[] #[]] w' (fun e w'' => e = .returned (foV (frsL D ([cN]) rn rd tkI)) ∧ Kept w' w'') := fun w' vc h1 h2 => ch_firstI D ([cN]) rn rd v vc _ w' h1 rfl h2 (by simp)
          rw [hfrA] at cf
          unfold foV at cf
          have CFA := Lib.hid cf
          have HFRA := Lib.hid hfrA
          clear cf hfrA
          go_wp2_with fail
          refine (CFA.out _ _ (H.out.kept (Kept.trans K0.out KS.out)) (by simpa [encS] using RS.out)).mono ?_
          rintro e wA ⟨rfl, kA⟩
          have kx : Kept wA (wA.alloc (.cells #[.string g.1, .int .i64 g.2] 24)) := (Below.refl _ _).alloc (Nat.le_refl _) _
          have KLA := Lib.hid (Kept.trans kA kx)
          have KA := Lib.hid (Kept.trans KS.out KLA.out)
          have bA := Blk.new wA 24 #[.string g.1, .int .i64 g.2]
          have oA0 := bA.cell 0
          have oA1 := bA.cell 1
          simp only [List.getElem?_toArray, List.getElem?_cons_succ, List.getElem?_cons_zero] at oA0 oA1
          have loA := bA.lt
          obtain ⟨ggA, hgA⟩ : ∃ x, x = wA.heap.size := ⟨_, rfl⟩
          rw [← hgA] at oA0 oA1 loA
          clear kA kx bA
          go_upto_region 20 with fail
          rw [← hgA]
          generalize (wA.alloc (.cells #[.string g.1, .int .i64 g.2] 24)) = XA at *
          clear hgA
          have bk := BKY.out.kept KLA.out
          have d0 := bk.cell 0
          have d1 := bk.cell 1
          simp only [List.getElem?_toArray, List.getElem?_cons_succ, List.getElem?_cons_zero] at d0 d1
          have zk := bk.lt
          clear bk
          skip
          go_wp2_with fail
          refine (ch_told D g.1 g.2 _ XA (H.out.kept (Kept.trans K0.out KA.out))).mono ?_
          rintro e wZ ⟨rfl, kZ⟩
          obtain ⟨r, hr⟩ : ∃ r, r = toldR D g.1 (g.2 : Nat) := ⟨_, rfl⟩
          rw [← hr]
          have HRR := Lib.hid hr
          have KZ_ := Lib.hid (Kept.trans KA.out kZ)
          clear kZ hr
          unfold resG
          have kp := KZ_.out
          have PF := fnd_put (B1.out.kept kp)
          have KP := Lib.hid (PF.keeps (Kept.trans K0.out kp) (by have := K0.out.size; omega))
          have g0 := PF.g0
          have g1 := PF.g1
          have h0 := PF.h0
          have h1 := PF.h1
          have zr := PF.lt
          have PF := Lib.hid PF
          clear kp
          have E0 := Lib.hid (PF.out.e0 (.string r.1.1))
          have E1 := Lib.hid (PF.out.e1 (.string r.1.1) (.int .i64 r.1.2))
          have PE := Lib.hid (fnd_put (PF.out.set (.string r.1.1) (.int .i64 r.1.2)))
          have HF := Lib.hid (show resG (specR D a rc rn rd) = resG r by rw [HCN.out]; unfold specC; rw [HSL.out, HFRA.out]; simp only; rw [HRR.out])
          go_wp2_with fail
          refine bodyPost_ret (v := resG (specR D a rc rn rd)) (by rw [HF.out]; simp [results, Try.results19, go_sem, E0.out, E1.out, PE.out.g0, PE.out.g1, resG]) rfl ⟨rfl, ?_⟩
          exact KP.out _ _
        | none =>
          have cf : ∀ (w' : World) (vc : Value), TyR w' v D → Rd w' 1 vc ([cN]).length (([cN]).flatMap encS) → Calls Try.prog 26 #[v, vc, .agg #[.string rn, .string rd], .func (.func 25) #[] #[]] w' (fun e w'' => e = .returned (foV (frsL D ([cN]) rn rd tkI)) ∧ Kept w' w'') := fun w' vc h1 h2 => ch_firstI D ([cN]) rn rd v vc _ w' h1 rfl h2 (by simp)
          rw [hfrA] at cf
          unfold foV at cf
          have CFA := Lib.hid cf
          have HFRA := Lib.hid hfrA
          clear cf hfrA
          go_wp2_with fail
          refine (CFA.out _ _ (H.out.kept (Kept.trans K0.out KS.out)) (by simpa [encS] using RS.out)).mono ?_
          rintro e wA ⟨rfl, kA⟩
          have kx : Kept wA (wA.alloc (.cells #[.string ⟨#[]⟩, .int .i64 0] 24)) := (Below.refl _ _).alloc (Nat.le_refl _) _
          have KLA := Lib.hid (Kept.trans kA kx)
          have KA := Lib.hid (Kept.trans KS.out KLA.out)
          have bA := Blk.new wA 24 #[.string ⟨#[]⟩, .int .i64 0]
          have oA0 := bA.cell 0
          have oA1 := bA.cell 1
          simp only [List.getElem?_toArray, List.getElem?_cons_succ, List.getElem?_cons_zero] at oA0 oA1
          have loA := bA.lt
          obtain ⟨ggA, hgA⟩ : ∃ x, x = wA.heap.size := ⟨_, rfl⟩
          rw [← hgA] at oA0 oA1 loA
          clear kA kx bA
          go_upto_region 20 with fail
          rw [← hgA]
          generalize (wA.alloc (.cells #[.string ⟨#[]⟩, .int .i64 0] 24)) = XA at *
          clear hgA
          have bk := BKY.out.kept KLA.out
          have d0 := bk.cell 0
          have d1 := bk.cell 1
          simp only [List.getElem?_toArray, List.getElem?_cons_succ, List.getElem?_cons_zero] at d0 d1
          have zk := bk.lt
          clear bk
          skip
          have ks : Kept XA (XA.alloc (.cells #[.string objB] 9)) := (Below.refl _ _).alloc (Nat.le_refl _) _
          have rs := Rd.one XA [.string objB] 9 rfl
          have KT := Lib.hid (Kept.trans KA.out ks)
          have RT := Lib.hid rs
          have BKY := Lib.hid ((BKY.out.kept KLA.out).kept ks)
          have hop : objB = ⟨#[106, 97, 118, 97, 47, 108, 97, 110, 103, 47, 79, 98, 106, 101, 99, 116]⟩ := rfl
          have zn : ¬ (kb = XA.heap.size) := by omega
          clear ks rs
          cases hfrB : frsL D [objB] rn rd tkP with
          | some h =>
            have cf : ∀ (w' : World) (vc : Value), TyR w' v D → Rd w' 1 vc ([objB]).length (([objB]).flatMap encS) → Calls Try.prog 26 #[v, vc, .agg #[.string rn, .string rd], .func (.func 39) #[] #[]] w' (fun e w'' => e = .returned (foV (frsL D ([objB]) rn rd tkP)) ∧ Kept w' w'') := fun w' vc h1 h2 => ch_firstP D ([objB]) rn rd v vc _ w' h1 rfl h2 (by simp)
            rw [hfrB] at cf
            unfold foV at cf
            have CFB := Lib.hid cf
            have HFRB := Lib.hid hfrB
            clear cf hfrB
            go_wp2_with fail
            refine (CFB.out _ _ (H.out.kept (Kept.trans K0.out KT.out)) (by simpa [encS] using RT.out)).mono ?_
            rintro e wB ⟨rfl, kB⟩
            have kx : Kept wB (wB.alloc (.cells #[.string h.1, .int .i64 h.2] 24)) := (Below.refl _ _).alloc (Nat.le_refl _) _
            have KLB := Lib.hid (Kept.trans kB kx)
            have KB := Lib.hid (Kept.trans KT.out KLB.out)
            have bB := Blk.new wB 24 #[.string h.1, .int .i64 h.2]
            have oB0 := bB.cell 0
            have oB1 := bB.cell 1
            simp only [List.getElem?_toArray, List.getElem?_cons_succ, List.getElem?_cons_zero] at oB0 oB1
            have loB := bB.lt
            obtain ⟨ggB, hgB⟩ : ∃ x, x = wB.heap.size := ⟨_, rfl⟩
            rw [← hgB] at oB0 oB1 loB
            clear kB kx bB
            go_upto_region 25 with fail
            rw [← hgB]
            generalize (wB.alloc (.cells #[.string h.1, .int .i64 h.2] 24)) = XB at *
            clear hgB
            have bk := BKY.out.kept KLB.out
            have d0 := bk.cell 0
            have d1 := bk.cell 1
            simp only [List.getElem?_toArray, List.getElem?_cons_succ, List.getElem?_cons_zero] at d0 d1
            have zk := bk.lt
            clear bk
            skip
            go_wp2_with fail
            refine (ch_told D h.1 h.2 _ XB (H.out.kept (Kept.trans K0.out KB.out))).mono ?_
            rintro e wZ ⟨rfl, kZ⟩
            obtain ⟨r, hr⟩ : ∃ r, r = toldR D h.1 (h.2 : Nat) := ⟨_, rfl⟩
            rw [← hr]
            have HRR := Lib.hid hr
            have KZ_ := Lib.hid (Kept.trans KB.out kZ)
            clear kZ hr
            unfold resG
            have kp := KZ_.out
            have PF := fnd_put (B1.out.kept kp)
            have KP := Lib.hid (PF.keeps (Kept.trans K0.out kp) (by have := K0.out.size; omega))
            have g0 := PF.g0
            have g1 := PF.g1
            have h0 := PF.h0
            have h1 := PF.h1
            have zr := PF.lt
            have PF := Lib.hid PF
            clear kp
            have E0 := Lib.hid (PF.out.e0 (.string r.1.1))
            have E1 := Lib.hid (PF.out.e1 (.string r.1.1) (.int .i64 r.1.2))
            have PE := Lib.hid (fnd_put (PF.out.set (.string r.1.1) (.int .i64 r.1.2)))
            have HF := Lib.hid (show resG (specR D a rc rn rd) = resG r by rw [HCN.out]; unfold specC; rw [HSL.out, HFRA.out]; simp only; rw [if_pos HFT.out, ← frs_obj, HFRB.out]; simp only; rw [HRR.out])
            go_wp2_with fail
            refine bodyPost_ret (v := resG (specR D a rc rn rd)) (by rw [HF.out]; simp [results, Try.results19, go_sem, E0.out, E1.out, PE.out.g0, PE.out.g1, resG]) rfl ⟨rfl, ?_⟩
            exact KP.out _ _
          | none =>
            have cf : ∀ (w' : World) (vc : Value), TyR w' v D → Rd w' 1 vc ([objB]).length (([objB]).flatMap encS) → Calls Try.prog 26 #[v, vc, .agg #[.string rn, .string rd], .func (.func 39) #[] #[]] w' (fun e w'' => e = .returned (foV (frsL D ([objB]) rn rd tkP)) ∧ Kept w' w'') := fun w' vc h1 h2 => ch_firstP D ([objB]) rn rd v vc _ w' h1 rfl h2 (by simp)
            rw [hfrB] at cf
            unfold foV at cf
            have CFB := Lib.hid cf
            have HFRB := Lib.hid hfrB
            clear cf hfrB
            go_wp2_with fail
            refine (CFB.out _ _ (H.out.kept (Kept.trans K0.out KT.out)) (by simpa [encS] using RT.out)).mono ?_
            rintro e wB ⟨rfl, kB⟩
            have kx : Kept wB (wB.alloc (.cells #[.string ⟨#[]⟩, .int .i64 0] 24)) := (Below.refl _ _).alloc (Nat.le_refl _) _
            have KLB := Lib.hid (Kept.trans kB kx)
            have KB := Lib.hid (Kept.trans KT.out KLB.out)
            have bB := Blk.new wB 24 #[.string ⟨#[]⟩, .int .i64 0]
            have oB0 := bB.cell 0
            have oB1 := bB.cell 1
            simp only [List.getElem?_toArray, List.getElem?_cons_succ, List.getElem?_cons_zero] at oB0 oB1
            have loB := bB.lt
            obtain ⟨ggB, hgB⟩ : ∃ x, x = wB.heap.size := ⟨_, rfl⟩
            rw [← hgB] at oB0 oB1 loB
            clear kB kx bB
            go_upto_region 25 with fail
            rw [← hgB]
            generalize (wB.alloc (.cells #[.string ⟨#[]⟩, .int .i64 0] 24)) = XB at *
            clear hgB
            have bk := BKY.out.kept KLB.out
            have d0 := bk.cell 0
            have d1 := bk.cell 1
            simp only [List.getElem?_toArray, List.getElem?_cons_succ, List.getElem?_cons_zero] at d0 d1
            have zk := bk.lt
            clear bk
            skip
            go_wp2_with fail
            refine (ch_on D cN rn rd _ XB (H.out.kept (Kept.trans K0.out KB.out)) HCZ.out).mono ?_
            rintro e wZ ⟨rfl, kZ⟩
            obtain ⟨r, hr⟩ : ∃ r, r = onR D cN rn rd := ⟨_, rfl⟩
            rw [← hr]
            have HRR := Lib.hid hr
            have KZ_ := Lib.hid (Kept.trans KB.out kZ)
            clear kZ hr
            unfold resG
            have kp := KZ_.out
            have PF := fnd_put (B1.out.kept kp)
            have KP := Lib.hid (PF.keeps (Kept.trans K0.out kp) (by have := K0.out.size; omega))
            have g0 := PF.g0
            have g1 := PF.g1
            have h0 := PF.h0
            have h1 := PF.h1
            have zr := PF.lt
            have PF := Lib.hid PF
            clear kp
            have E0 := Lib.hid (PF.out.e0 (.string r.1.1))
            have E1 := Lib.hid (PF.out.e1 (.string r.1.1) (.int .i64 r.1.2))
            have PE := Lib.hid (fnd_put (PF.out.set (.string r.1.1) (.int .i64 r.1.2)))
            have HF := Lib.hid (show resG (specR D a rc rn rd) = resG r by rw [HCN.out]; unfold specC; rw [HSL.out, HFRA.out]; simp only; rw [if_pos HFT.out, ← frs_obj, HFRB.out]; simp only; rw [HRR.out])
            go_wp2_with fail
            refine bodyPost_ret (v := resG (specR D a rc rn rd)) (by rw [HF.out]; simp [results, Try.results19, go_sem, E0.out, E1.out, PE.out.g0, PE.out.g1, resG]) rfl ⟨rfl, ?_⟩
            exact KP.out _ _
  · have HNO := Lib.hid (show specR D a rc rn rd = (gz, nmB) by unfold specR; rw [if_neg hth])
    have hb2 : fb = false ∨ tb = false := by
      by_cases h1 : there D a
      · right
        rw [HtB.out]
        exact decide_eq_false fun h2 => hth ⟨h1, h2⟩
      · left
        rw [HfB.out]
        exact decide_eq_false h1
    clear hth
    cases fb with
    | false =>
      have kp := Kt.out
      have PF := fnd_put (B1.out.kept kp)
      have KP := Lib.hid (PF.keeps (Kept.trans K0.out kp) (by have := K0.out.size; omega))
      have g0 := PF.g0
      have g1 := PF.g1
      have h0 := PF.h0
      have h1 := PF.h1
      have zr := PF.lt
      have PF := Lib.hid PF
      clear kp
      have E0 := Lib.hid (PF.out.e0 (.string ⟨#[]⟩))
      have E1 := Lib.hid (PF.out.e1 (.string ⟨#[]⟩) (.int .i64 0))
      have PE := Lib.hid (fnd_put (PF.out.set (.string ⟨#[]⟩) (.int .i64 0)))
      have HF := Lib.hid (show resG (specR D a rc rn rd) = resG (gz, nmB) by rw [HNO.out])
      go_wp2_with fail
      refine bodyPost_ret (v := resG (specR D a rc rn rd)) (by rw [HF.out]; simp [results, Try.results19, go_sem, E0.out, E1.out, PE.out.g0, PE.out.g1, resG, gz, nmB]) rfl ⟨rfl, ?_⟩
      exact KP.out _ _
    | true =>
      have htb : tb = false := hb2.resolve_left (by decide)
      subst htb
      clear hb2
      have kp := Kt.out
      have PF := fnd_put (B1.out.kept kp)
      have KP := Lib.hid (PF.keeps (Kept.trans K0.out kp) (by have := K0.out.size; omega))
      have g0 := PF.g0
      have g1 := PF.g1
      have h0 := PF.h0
      have h1 := PF.h1
      have zr := PF.lt
      have PF := Lib.hid PF
      clear kp
      have E0 := Lib.hid (PF.out.e0 (.string ⟨#[]⟩))
      have E1 := Lib.hid (PF.out.e1 (.string ⟨#[]⟩) (.int .i64 0))
      have PE := Lib.hid (fnd_put (PF.out.set (.string ⟨#[]⟩) (.int .i64 0)))
      have HF := Lib.hid (show resG (specR D a rc rn rd) = resG (gz, nmB) by rw [HNO.out])
      go_wp2_with fail
      refine bodyPost_ret (v := resG (specR D a rc rn rd)) (by rw [HF.out]; simp [results, Try.results19, go_sem, E0.out, E1.out, PE.out.g0, PE.out.g1, resG, gz, nmB]) rfl ⟨rfl, ?_⟩
      exact KP.out _ _
end Go.Proofs.Yteblpdcedlaedaa
