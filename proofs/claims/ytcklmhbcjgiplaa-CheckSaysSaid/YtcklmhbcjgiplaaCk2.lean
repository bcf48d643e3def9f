/-
  Package check by contract: flags; the two texts of a TagNamed.
-/
import Derived.Test.YtcklmhbcjgiplaaCkP
import Derived.Test.YtcklmhbcjgiplaaDesc5
namespace Go.Proofs.Ytcklmhbcjgiplaa
set_option linter.unusedVariables false
set_option linter.unusedSimpArgs false
open Go.RowKit
set_option maxRecDepth 100000

def FlagG (b : Bool) (w : World) (e : Ending) (w' : World) : Prop := e = .returned (.bool b) ∧ w = w'
theorem check_some (a f : Int) (w : World) : Calls Try.prog 52 #[.int .i64 a, .int .i64 f] w (FlagG (hasF a f) w) := by
  go_enter Try.func52, Try.ntmps52
  go_wp2
  go_ret
  exact ⟨rfl, rfl⟩
theorem check_all (a f : Int) (w : World) : Calls Try.prog 53 #[.int .i64 a, .int .i64 f] w (FlagG (allF a f) w) := by
  go_enter Try.func53, Try.ntmps53
  go_wp2
  go_ret
  exact ⟨rfl, rfl⟩
theorem ref5_Has (a f : Int) (w : World) : Calls Try.prog 89 #[.int .i64 a, .int .i64 f] w (FlagG (hasF a f) w) := by
  go_enter Try.func89, Try.ntmps89
  go_wp2
  go_ret
  exact ⟨rfl, rfl⟩
theorem oneF_yes {a f : Int} (h : (bits .and .i64 a f != 0) = true) : oneF a f = 1 := by unfold oneF hasF; rw [if_pos h]
theorem oneF_no {a f : Int} (h : (bits .and .i64 a f != 0) = false) : oneF a f = 0 := by unfold oneF hasF; rw [if_neg (by rw [h]; decide)]
/-- The flags that have been counted. -/
def cntI (a : Int) : Nat → Int
  | 0 => 0
  | 1 => oneF a 1
  | 2 => oneF a 1 + oneF a 2
  | _ => viewsI a
def flagI : Nat → Int
  | 0 => 1
  | 1 => 2
  | 2 => 4
  | _ => 8
theorem oneF_range (a f : Int) : 0 ≤ oneF a f ∧ oneF a f ≤ 1 := by unfold oneF; split <;> omega
theorem cntI_range (a : Int) (k : Nat) : 0 ≤ cntI a k ∧ cntI a k ≤ 3 := by
  have h1 := oneF_range a 1
  have h2 := oneF_range a 2
  have h3 := oneF_range a 4
  unfold cntI
  split
  · omega
  · omega
  · omega
  · unfold viewsI; omega
theorem cntI_succ (a : Int) {k : Nat} (h : k < 3) : cntI a (k + 1) = cntI a k + oneF a (flagI k) := by
  rcases (by omega : k = 0 ∨ k = 1 ∨ k = 2) with rfl | rfl | rfl
  · simp [cntI, flagI]
  · simp [cntI, flagI]
  · simp [cntI, flagI, viewsI]
set_option maxHeartbeats 4000000 in
theorem check_kinds (a : Int) (w : World) : Calls Try.prog 60 #[.int .i64 a] w fun e w' => e = .returned (.int .i64 (viewsI a)) ∧ Kept w w' := by
  go_enter Try.func60, Try.ntmps60
  go_upto_region 3 with fail
  have HB := Lib.hid (Blk.new w 3 #[.int .i64 1, .int .i64 2, .int .i64 4])
  have HK : Hid (Kept w (w.alloc (.cells #[.int .i64 1, .int .i64 2, .int .i64 4] 3))) := Lib.hid ((Below.refl _ _).alloc (Nat.le_refl _) _)
  generalize (w.alloc (.cells #[.int .i64 1, .int .i64 2, .int .i64 4] 3)) = W at *
  have c0 := HB.out.cell 0
  have c1 := HB.out.cell 1
  have c2 := HB.out.cell 2
  simp only [List.getElem?_toArray, List.getElem?_cons_succ, List.getElem?_cons_zero] at c0 c1 c2
  go_wp2_with fail
  go_loopw [3, 8] (fun s3 s8 wr => ∃ k : Nat, k ≤ 3 ∧ s8 = .int .i64 k ∧ s3 = .int .i64 (cntI a k) ∧ wr = W) (fun _ s8 _ => 3 - (intOf s8).toNat)
  case atStart => exact ⟨0, by omega, rfl, rfl, rfl⟩
  case round =>
    obtain ⟨k, hk, rfl, rfl, rfl⟩ := hrel
    by_cases hlt : k < 3
    · have hr := cntI_range a k
      have hs := cntI_succ a hlt
      obtain ⟨c, hc⟩ : ∃ c, c = cntI a k := ⟨_, rfl⟩
      have HS := Lib.hid hs
      have HC := Lib.hid hc
      have h0 : 0 ≤ c := hc ▸ hr.1
      have h3 : c ≤ 3 := hc ▸ hr.2
      have hwr : IntKind.i64.wrap (c + 1) = c + 1 := IntWalk.i64_in _ (by omega)
      rw [← hc]
      clear hs hc hr
      have hcell : wr.cell? ⟨w.heap.size, k, none⟩ = some (.int .i64 (flagI k)) := by
        rcases (by omega : k = 0 ∨ k = 1 ∨ k = 2) with rfl | rfl | rfl
        · exact c0
        · exact c1
        · exact c2
      clear c0 c1 c2
      obtain ⟨f, hf⟩ : ∃ f, f = flagI k := ⟨_, rfl⟩
      rw [← hf] at hcell
      have HF := Lib.hid hf
      clear hf
      have hltI : (k : Int) < 3 := by omega
      have h0I : (0 : Int) ≤ (k : Int) := by omega
      cases hb : (bits .and .i64 a f != 0) with
      | true =>
        have HY := Lib.hid (show cntI a (k + 1) = c + 1 by rw [HS.out, ← HC.out, ← HF.out, oneF_yes hb])
        go_wp2_with fail
        go_roundw
        case rel => exact ⟨k + 1, by omega, by go_num, by rw [HY.out], trivial⟩
        case measure => simp [intOf]; omega
      | false =>
        have HY := Lib.hid (show cntI a (k + 1) = c by rw [HS.out, ← HC.out, ← HF.out, oneF_no hb, Int.add_zero])
        go_wp2_with fail
        go_roundw
        case rel => exact ⟨k + 1, by omega, by go_num, by rw [HY.out], trivial⟩
        case measure => simp [intOf]; omega
    · obtain rfl : k = 3 := by omega
      clear c0 c1 c2
      have HV := Lib.hid (show cntI a 3 = viewsI a from rfl)
      obtain ⟨c, hc⟩ : ∃ c, c = cntI a 3 := ⟨_, rfl⟩
      rw [← hc] at HV ⊢
      clear hc
      go_wp2_with fail
      go_ret
      exact ⟨by rw [HV.out]; rfl, HK.out⟩
set_option maxHeartbeats 4000000 in
theorem ref5_views (a : Int) (w : World) : Calls Try.prog 90 #[.int .i64 a] w fun e w' => e = .returned (.int .i64 (viewsI a)) ∧ w = w' := by
  go_enter Try.func90, Try.ntmps90
  go_wp2_with fail
  go_loopw [3, 4] (fun s3 s4 wr => ∃ k : Nat, k ≤ 3 ∧ s4 = .int .i64 (flagI k) ∧ s3 = .int .i64 (cntI a k) ∧ wr = w) (fun _ s4 _ => 8 - (intOf s4).toNat)
  case atStart => exact ⟨0, by omega, rfl, rfl, rfl⟩
  case round =>
    obtain ⟨k, hk, rfl, rfl, rfl⟩ := hrel
    by_cases hlt : k < 3
    · have hr := cntI_range a k
      have hs := cntI_succ a hlt
      obtain ⟨c, hc⟩ : ∃ c, c = cntI a k := ⟨_, rfl⟩
      have HS := Lib.hid hs
      have HC := Lib.hid hc
      have h0 : 0 ≤ c := hc ▸ hr.1
      have h3 : c ≤ 3 := hc ▸ hr.2
      have hwr : IntKind.i64.wrap (c + 1) = c + 1 := IntWalk.i64_in _ (by omega)
      rw [← hc]
      clear hs hc hr
      have hfl : 1 ≤ flagI k ∧ flagI k ≤ 4 ∧ flagI (k + 1) = 2 * flagI k := by
        rcases (by omega : k = 0 ∨ k = 1 ∨ k = 2) with rfl | rfl | rfl <;> decide
      obtain ⟨f, hf⟩ : ∃ f, f = flagI k := ⟨_, rfl⟩
      have HF := Lib.hid hf
      have HN := Lib.hid hfl.2.2
      rw [← hf] at hfl ⊢
      have h4 : f ≤ 4 := hfl.2.1
      have h1 : 1 ≤ f := hfl.1
      have hwm : IntKind.i64.wrap (2 * f) = 2 * f := IntWalk.i64_in _ (by omega)
      clear hf hfl
      cases hb : (bits .and .i64 a f != 0) with
      | true =>
        have HY := Lib.hid (show cntI a (k + 1) = c + 1 by rw [HS.out, ← HC.out, ← HF.out, oneF_yes hb])
        go_wp2_with fail
        go_roundw
        case rel => exact ⟨k + 1, by omega, by rw [HN.out, ← HF.out], by rw [HY.out], trivial⟩
        case measure => simp [intOf]; omega
      | false =>
        have HY := Lib.hid (show cntI a (k + 1) = c by rw [HS.out, ← HC.out, ← HF.out, oneF_no hb, Int.add_zero])
        go_wp2_with fail
        go_roundw
        case rel => exact ⟨k + 1, by omega, by rw [HN.out, ← HF.out], by rw [HY.out], trivial⟩
        case measure => simp [intOf]; omega
    · obtain rfl : k = 3 := by omega
      have HV := Lib.hid (show cntI a 3 = viewsI a from rfl)
      obtain ⟨c, hc⟩ : ∃ c, c = cntI a 3 := ⟨_, rfl⟩
      rw [← hc] at HV ⊢
      have hf : flagI 3 = 8 := rfl
      rw [hf]
      clear hc hf
      go_wp2_with fail
      go_ret
      exact ⟨by rw [HV.out]; rfl, rfl⟩
theorem resK_is (s : ByteArray) : ∃ a q, resK (kindsL s.data.toList) = .tuple #[.string a, .string q, .bool (isK s)] ∧ a = ⟨(argK s).toArray⟩ ∧ q = ⟨(retK s).toArray⟩ := by
  unfold isK argK retK
  cases kindsL s.data.toList with
  | none => exact ⟨_, _, rfl, rfl, rfl⟩
  | some p => exact ⟨_, _, rfl, rfl, rfl⟩
/-- What Kinds tells. -/
def KindG (s a q : ByteArray) (w : World) (e : Ending) (w' : World) : Prop := e = .returned (.tuple #[.string a, .string q, .bool (isK s)]) ∧ Kept w w'
theorem desc_KindsT (s : ByteArray) (w : World) (hs : s.size ≤ maxLen) : Calls Try.prog 63 #[.string s] w (KindG s ⟨(argK s).toArray⟩ ⟨(retK s).toArray⟩ w) := by
  obtain ⟨a, q, h, rfl, rfl⟩ := resK_is s
  refine (desc_Kinds s w hs).mono fun e w' hh => ?_
  rw [h] at hh
  exact hh
theorem ref2_KindsT (s : ByteArray) (w : World) (hs : s.size ≤ maxLen) : Calls Try.prog 87 #[.string s] w (KindG s ⟨(argK s).toArray⟩ ⟨(retK s).toArray⟩ w) := by
  obtain ⟨a, q, h, rfl, rfl⟩ := resK_is s
  refine (ref2_Kinds s w hs).mono fun e w' hh => ?_
  rw [h] at hh
  exact hh
theorem check_method1 (s : ByteArray) (w : World) (hs : s.size ≤ maxLen) : Calls Try.prog 46 #[.string s] w fun e w' => e = .returned (.bool (isK s)) ∧ Kept w w' := by
  have C := desc_KindsT s w hs
  unfold KindG at C
  obtain ⟨b, hb⟩ : ∃ b, b = isK s := ⟨_, rfl⟩
  rw [← hb] at C ⊢
  clear hb hs
  go_enter Try.func46, Try.ntmps46
  go_wp2_with fail
  refine C.mono ?_
  rintro e w1 ⟨rfl, hk1⟩
  have K1 := Lib.hid hk1
  clear hk1 C
  go_wp2_with fail
  go_ret
  exact ⟨rfl, K1.out⟩

def BothG (r : ByteArray × ByteArray × Bool) (w : World) (e : Ending) (w' : World) : Prop := e = .returned (.tuple #[.string r.1, .string r.2.1, .bool r.2.2]) ∧ Kept w w'
set_option maxHeartbeats 4000000 in
theorem check_named (pool : List ConstC) (mi ma ac th su : Int) (vP vI vF vM : Value) (n : Int) (w : World) (hr : Rd w 5 vP pool.length (pool.flatMap encC)) :
    Calls Try.prog 41 #[.agg #[.int .i64 mi, .int .i64 ma, vP, .int .i64 ac, .int .i64 th, .int .i64 su, vI, vF, vM], .int .i64 n] w (BothG (pairC pool n) w) := by
  have hk : Kept w (w.alloc (.cells #[.int .i64 mi, .int .i64 ma, vP, .int .i64 ac, .int .i64 th, .int .i64 su, vI, vF, vM] 74)) := (Below.refl _ _).alloc (Nat.le_refl _) _
  have HK := Lib.hid hk
  have HRD := Lib.hid hr
  have C := check_at pool mi ma ac th su vP vI vF vM n 12 _ (hr.kept hk)
  have HB := Lib.hid (Blk.new w 74 #[.int .i64 mi, .int .i64 ma, vP, .int .i64 ac, .int .i64 th, .int .i64 su, vI, vF, vM])
  obtain ⟨x, hx⟩ : ∃ x, x = (getC pool n 12).getD zeroK := ⟨_, rfl⟩
  obtain ⟨ok, hok⟩ : ∃ b, b = (getC pool n 12).isSome := ⟨_, rfl⟩
  unfold AtG at C
  rw [← hx, ← hok] at C
  have HR0 := Lib.hid (show bothC pool n = if ok = true then ((textC pool x.a).1, (textC pool x.b).1, (textC pool x.a).2 && (textC pool x.b).2) else (⟨#[]⟩, ⟨#[]⟩, false) by unfold bothC; rw [← hx, ← hok])
  clear hk hr hx hok
  go_enter Try.func41, Try.ntmps41
  go_upto_region 1 with fail
  generalize (w.alloc (.cells #[.int .i64 mi, .int .i64 ma, vP, .int .i64 ac, .int .i64 th, .int .i64 su, vI, vF, vM] 74)) = W at *
  have c0 := HB.out.cell 0
  have c1 := HB.out.cell 1
  have c2 := HB.out.cell 2
  have c3 := HB.out.cell 3
  have c4 := HB.out.cell 4
  have c5 := HB.out.cell 5
  have c6 := HB.out.cell 6
  have c7 := HB.out.cell 7
  have c8 := HB.out.cell 8
  simp only [List.getElem?_toArray, List.getElem?_cons_succ, List.getElem?_cons_zero] at c0 c1 c2 c3 c4 c5 c6 c7 c8
  go_wp2_with fail
  refine C.mono ?_
  rintro e w1 ⟨he, hk1⟩
  have he : e = .returned (.tuple #[.agg #[.int .i64 x.tag, .string x.text, .int .i64 x.num, .int .i64 x.a, .int .i64 x.b], .bool ok]) := he
  subst he
  have K1 := Lib.hid (Kept.trans HK.out hk1)
  have HB1 := Lib.hid (HB.out.kept hk1)
  clear hk1 C
  go_upto_region 2 with fail
  have hk2 : Kept w1 (w1.alloc (.cells #[.int .i64 x.tag, .string x.text, .int .i64 x.num, .int .i64 x.a, .int .i64 x.b] 47)) := (Below.refl _ _).alloc (Nat.le_refl _) _
  have HX := Lib.hid (Blk.new w1 47 #[.int .i64 x.tag, .string x.text, .int .i64 x.num, .int .i64 x.a, .int .i64 x.b])
  have K2 := Lib.hid (Kept.trans K1.out hk2)
  have HB2 := Lib.hid (HB1.out.kept hk2)
  clear hk2
  generalize (w1.alloc (.cells #[.int .i64 x.tag, .string x.text, .int .i64 x.num, .int .i64 x.a, .int .i64 x.b] 47)) = w2 at *
  have x0 := HX.out.cell 0
  have x1 := HX.out.cell 1
  have x2 := HX.out.cell 2
  have x3 := HX.out.cell 3
  have x4 := HX.out.cell 4
  simp only [List.getElem?_toArray, List.getElem?_cons_succ, List.getElem?_cons_zero] at x0 x1 x2 x3 x4
  have d0 := HB2.out.cell 0
  have d1 := HB2.out.cell 1
  have d2 := HB2.out.cell 2
  have d3 := HB2.out.cell 3
  have d4 := HB2.out.cell 4
  have d5 := HB2.out.cell 5
  have d6 := HB2.out.cell 6
  have d7 := HB2.out.cell 7
  have d8 := HB2.out.cell 8
  simp only [List.getElem?_toArray, List.getElem?_cons_succ, List.getElem?_cons_zero] at d0 d1 d2 d3 d4 d5 d6 d7 d8
  cases ok
  · go_wp2_with fail
    go_returns
    exact ⟨by unfold pairC; rw [HR0.out]; rfl, K2.out⟩
  have C := check_text pool mi ma ac th su vP vI vF vM x.a w2 (HRD.out.kept K2.out)
  unfold TextG at C
  obtain ⟨s1, hs1⟩ : ∃ s, s = (textC pool x.a).1 := ⟨_, rfl⟩
  obtain ⟨b1, hb1⟩ : ∃ b, b = (textC pool x.a).2 := ⟨_, rfl⟩
  obtain ⟨s2, hs2⟩ : ∃ s, s = (textC pool x.b).1 := ⟨_, rfl⟩
  obtain ⟨b2, hb2⟩ : ∃ b, b = (textC pool x.b).2 := ⟨_, rfl⟩
  rw [← hs1, ← hb1] at C
  have HR := Lib.hid (show bothC pool n = (s1, s2, b1 && b2) by rw [HR0.out, if_pos rfl, hs1, hb1, hs2, hb2])
  have HS2 := Lib.hid hs2
  have HB3 := Lib.hid hb2
  clear hs1 hb1 hs2 hb2
  go_wp2_with fail
  refine C.mono ?_
  rintro e w3 ⟨rfl, hk3⟩
  have K3 := Lib.hid (Kept.trans K2.out hk3)
  have HX3 := Lib.hid (HX.out.kept hk3)
  have HB4 := Lib.hid (HB2.out.kept hk3)
  clear hk3 C
  have y0 := HX3.out.cell 0
  have y1 := HX3.out.cell 1
  have y2 := HX3.out.cell 2
  have y3 := HX3.out.cell 3
  have y4 := HX3.out.cell 4
  simp only [List.getElem?_toArray, List.getElem?_cons_succ, List.getElem?_cons_zero] at y0 y1 y2 y3 y4
  have f0 := HB4.out.cell 0
  have f1 := HB4.out.cell 1
  have f2 := HB4.out.cell 2
  have f3 := HB4.out.cell 3
  have f4 := HB4.out.cell 4
  have f5 := HB4.out.cell 5
  have f6 := HB4.out.cell 6
  have f7 := HB4.out.cell 7
  have f8 := HB4.out.cell 8
  simp only [List.getElem?_toArray, List.getElem?_cons_succ, List.getElem?_cons_zero] at f0 f1 f2 f3 f4 f5 f6 f7 f8
  have C := check_text pool mi ma ac th su vP vI vF vM x.b w3 (HRD.out.kept K3.out)
  unfold TextG at C
  rw [← HS2.out, ← HB3.out] at C
  go_wp2_with fail
  refine C.mono ?_
  rintro e w4 ⟨rfl, hk4⟩
  have K4 := Lib.hid (Kept.trans K3.out hk4)
  clear hk4 C
  cases b1 <;> cases b2 <;>
  (go_wp2_with fail
   go_returns
   exact ⟨by unfold pairC; rw [HR.out]; rfl, K4.out⟩)
set_option maxHeartbeats 4000000 in
theorem ref5_both (pool : List ConstC) (mi ma ac th su : Int) (vP vI vF vM : Value) (n : Int) (w : World) (hr : Rd w 5 vP pool.length (pool.flatMap encC)) :
    Calls Try.prog 42 #[.agg #[.int .i64 mi, .int .i64 ma, vP, .int .i64 ac, .int .i64 th, .int .i64 su, vI, vF, vM], .int .i64 n] w (BothG (bothC pool n) w) := by
  have hk : Kept w (w.alloc (.cells #[.int .i64 mi, .int .i64 ma, vP, .int .i64 ac, .int .i64 th, .int .i64 su, vI, vF, vM] 27)) := (Below.refl _ _).alloc (Nat.le_refl _) _
  have HK := Lib.hid hk
  have HRD := Lib.hid hr
  have C := ref5_get pool mi ma ac th su vP vI vF vM n 12 _ (hr.kept hk)
  have HB := Lib.hid (Blk.new w 27 #[.int .i64 mi, .int .i64 ma, vP, .int .i64 ac, .int .i64 th, .int .i64 su, vI, vF, vM])
  obtain ⟨x, hx⟩ : ∃ x, x = (getC pool n 12).getD zeroK := ⟨_, rfl⟩
  obtain ⟨ok, hok⟩ : ∃ b, b = (getC pool n 12).isSome := ⟨_, rfl⟩
  unfold AtG at C
  rw [← hx, ← hok] at C
  have HR0 := Lib.hid (show bothC pool n = if ok = true then ((textC pool x.a).1, (textC pool x.b).1, (textC pool x.a).2 && (textC pool x.b).2) else (⟨#[]⟩, ⟨#[]⟩, false) by unfold bothC; rw [← hx, ← hok])
  clear hk hr hx hok
  go_enter Try.func42, Try.ntmps42
  go_upto_region 1 with fail
  generalize (w.alloc (.cells #[.int .i64 mi, .int .i64 ma, vP, .int .i64 ac, .int .i64 th, .int .i64 su, vI, vF, vM] 27)) = W at *
  have c0 := HB.out.cell 0
  have c1 := HB.out.cell 1
  have c2 := HB.out.cell 2
  have c3 := HB.out.cell 3
  have c4 := HB.out.cell 4
  have c5 := HB.out.cell 5
  have c6 := HB.out.cell 6
  have c7 := HB.out.cell 7
  have c8 := HB.out.cell 8
  simp only [List.getElem?_toArray, List.getElem?_cons_succ, List.getElem?_cons_zero] at c0 c1 c2 c3 c4 c5 c6 c7 c8
  go_wp2_with fail
  refine C.mono ?_
  rintro e w1 ⟨he, hk1⟩
  have he : e = .returned (.tuple #[.agg #[.int .i64 x.tag, .string x.text, .int .i64 x.num, .int .i64 x.a, .int .i64 x.b], .bool ok]) := he
  subst he
  have K1 := Lib.hid (Kept.trans HK.out hk1)
  have HB1 := Lib.hid (HB.out.kept hk1)
  clear hk1 C
  go_upto_region 2 with fail
  have hk2 : Kept w1 (w1.alloc (.cells #[.int .i64 x.tag, .string x.text, .int .i64 x.num, .int .i64 x.a, .int .i64 x.b] 47)) := (Below.refl _ _).alloc (Nat.le_refl _) _
  have HX := Lib.hid (Blk.new w1 47 #[.int .i64 x.tag, .string x.text, .int .i64 x.num, .int .i64 x.a, .int .i64 x.b])
  have K2 := Lib.hid (Kept.trans K1.out hk2)
  have HB2 := Lib.hid (HB1.out.kept hk2)
  clear hk2
  generalize (w1.alloc (.cells #[.int .i64 x.tag, .string x.text, .int .i64 x.num, .int .i64 x.a, .int .i64 x.b] 47)) = w2 at *
  have x0 := HX.out.cell 0
  have x1 := HX.out.cell 1
  have x2 := HX.out.cell 2
  have x3 := HX.out.cell 3
  have x4 := HX.out.cell 4
  simp only [List.getElem?_toArray, List.getElem?_cons_succ, List.getElem?_cons_zero] at x0 x1 x2 x3 x4
  have d0 := HB2.out.cell 0
  have d1 := HB2.out.cell 1
  have d2 := HB2.out.cell 2
  have d3 := HB2.out.cell 3
  have d4 := HB2.out.cell 4
  have d5 := HB2.out.cell 5
  have d6 := HB2.out.cell 6
  have d7 := HB2.out.cell 7
  have d8 := HB2.out.cell 8
  simp only [List.getElem?_toArray, List.getElem?_cons_succ, List.getElem?_cons_zero] at d0 d1 d2 d3 d4 d5 d6 d7 d8
  cases ok
  · go_wp2_with fail
    go_returns
    exact ⟨by rw [HR0.out]; rfl, K2.out⟩
  have C := ref5_Utf pool mi ma ac th su vP vI vF vM x.a w2 (HRD.out.kept K2.out)
  unfold TextG at C
  obtain ⟨s1, hs1⟩ : ∃ s, s = (textC pool x.a).1 := ⟨_, rfl⟩
  obtain ⟨b1, hb1⟩ : ∃ b, b = (textC pool x.a).2 := ⟨_, rfl⟩
  obtain ⟨s2, hs2⟩ : ∃ s, s = (textC pool x.b).1 := ⟨_, rfl⟩
  obtain ⟨b2, hb2⟩ : ∃ b, b = (textC pool x.b).2 := ⟨_, rfl⟩
  rw [← hs1, ← hb1] at C
  have HR := Lib.hid (show bothC pool n = (s1, s2, b1 && b2) by rw [HR0.out, if_pos rfl, hs1, hb1, hs2, hb2])
  have HS2 := Lib.hid hs2
  have HB3 := Lib.hid hb2
  clear hs1 hb1 hs2 hb2
  go_wp2_with fail
  refine C.mono ?_
  rintro e w3 ⟨rfl, hk3⟩
  have K3 := Lib.hid (Kept.trans K2.out hk3)
  have HX3 := Lib.hid (HX.out.kept hk3)
  have HB4 := Lib.hid (HB2.out.kept hk3)
  clear hk3 C
  have y0 := HX3.out.cell 0
  have y1 := HX3.out.cell 1
  have y2 := HX3.out.cell 2
  have y3 := HX3.out.cell 3
  have y4 := HX3.out.cell 4
  simp only [List.getElem?_toArray, List.getElem?_cons_succ, List.getElem?_cons_zero] at y0 y1 y2 y3 y4
  have f0 := HB4.out.cell 0
  have f1 := HB4.out.cell 1
  have f2 := HB4.out.cell 2
  have f3 := HB4.out.cell 3
  have f4 := HB4.out.cell 4
  have f5 := HB4.out.cell 5
  have f6 := HB4.out.cell 6
  have f7 := HB4.out.cell 7
  have f8 := HB4.out.cell 8
  simp only [List.getElem?_toArray, List.getElem?_cons_succ, List.getElem?_cons_zero] at f0 f1 f2 f3 f4 f5 f6 f7 f8
  have C := ref5_Utf pool mi ma ac th su vP vI vF vM x.b w3 (HRD.out.kept K3.out)
  unfold TextG at C
  rw [← HS2.out, ← HB3.out] at C
  go_wp2_with fail
  refine C.mono ?_
  rintro e w4 ⟨rfl, hk4⟩
  have K4 := Lib.hid (Kept.trans K3.out hk4)
  clear hk4 C
  cases b1 <;> cases b2 <;>
  (go_wp2_with fail
   go_returns
   exact ⟨by rw [HR.out]; rfl, K4.out⟩)
end Go.Proofs.Ytcklmhbcjgiplaa
