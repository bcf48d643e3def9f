/-
  References to members by names: check.Ref, check.Name, and the document's own Ref.
-/
import Derived.Test.YtcklmhbcjgiplaaCk5
namespace Go.Proofs.Ytcklmhbcjgiplaa
set_option linter.unusedVariables false
set_option linter.unusedSimpArgs false
open Go.RowKit
set_option maxRecDepth 100000

/-- A reference to a member: its three texts, its kind. -/
def refC (pool : List ConstC) (n : Int) : Option (ByteArray × ByteArray × ByteArray × Int) :=
  if 1 ≤ n ∧ n ≤ pool.length then (match pool[(n - 1).toNat]? with
    | some x => if (x.tag = 9 ∨ x.tag = 10 ∨ x.tag = 11) ∧ (nameC pool x.a).2 = true ∧ (bothC pool x.b).2.2 = true then some ((nameC pool x.a).1, (bothC pool x.b).1, (bothC pool x.b).2.1, x.tag) else none
    | none => none) else none
def refV (r : ByteArray × ByteArray × ByteArray × Int) : List Value := [.string r.1, .string r.2.1, .string r.2.2.1]
def noRef : ByteArray × ByteArray × ByteArray × Int := (⟨#[]⟩, ⟨#[]⟩, ⟨#[]⟩, 0)
def RefG (pool : List ConstC) (n : Int) (w : World) (e : Ending) (w' : World) : Prop := e = .returned (.tuple #[.agg (refV ((refC pool n).getD noRef)).toArray, .int .i64 ((refC pool n).getD noRef).2.2.2, .bool (refC pool n).isSome]) ∧ Kept w w'
theorem refC_out {pool : List ConstC} {n : Int} (h : ¬ (1 ≤ n ∧ n ≤ pool.length)) : refC pool n = none := by unfold refC; rw [if_neg h]
theorem refC_no {pool : List ConstC} {k : Nat} {x : ConstC} (hx : pool[k]? = some x) (h : ¬ ((x.tag = 9 ∨ x.tag = 10 ∨ x.tag = 11) ∧ (nameC pool x.a).2 = true ∧ (bothC pool x.b).2.2 = true)) : refC pool ((k : Int) + 1) = none := by
  have hl := (List.getElem?_eq_some_iff.1 hx).1
  unfold refC
  rw [if_pos (by omega), show ((k : Int) + 1 - 1).toNat = k by omega, hx]
  exact if_neg h
theorem refC_yes {pool : List ConstC} {k : Nat} {x : ConstC} (hx : pool[k]? = some x) (h : (x.tag = 9 ∨ x.tag = 10 ∨ x.tag = 11) ∧ (nameC pool x.a).2 = true ∧ (bothC pool x.b).2.2 = true) : refC pool ((k : Int) + 1) = some ((nameC pool x.a).1, (bothC pool x.b).1, (bothC pool x.b).2.1, x.tag) := by
  have hl := (List.getElem?_eq_some_iff.1 hx).1
  unfold refC
  rw [if_pos (by omega), show ((k : Int) + 1 - 1).toNat = k by omega, hx]
  exact if_pos h
theorem pairC_yes {pool : List ConstC} {n : Int} (h : (bothC pool n).2.2 = true) : pairC pool n = bothC pool n := by unfold pairC; rw [if_pos h]
set_option maxHeartbeats 8000000 in
theorem check_Ref (pool : List ConstC) (mi ma ac th su : Int) (vP : Value) (aI aF aM : Option Addr) (nI nF nM kI kF kM : Nat) (n : Int) (w : World) (hr : Rd w 5 vP pool.length (pool.flatMap encC)) :
    Calls Try.prog 24 #[.agg #[.int .i64 mi, .int .i64 ma, vP, .int .i64 ac, .int .i64 th, .int .i64 su, .slice aI nI kI, .slice aF nF kF, .slice aM nM kM], .int .i64 n] w (RefG pool n w) := by
  obtain ⟨nP, hnP⟩ : ∃ x, x = pool.length := ⟨_, rfl⟩
  have hr0 := hr
  rw [← hnP] at hr0
  have N1 := Lib.hid hnP
  obtain ⟨_, aP, kP, rfl, hk1, hk2, -⟩ := id hr0
  have hk : Kept w ((w.alloc (.cells #[.int .i64 mi, .int .i64 ma, .slice aP nP kP, .int .i64 ac, .int .i64 th, .int .i64 su, .slice aI nI kI, .slice aF nF kF, .slice aM nM kM] 27)).alloc (.cells #[.string ⟨#[]⟩, .string ⟨#[]⟩, .string ⟨#[]⟩] 67)) := ((Below.refl _ _).alloc (Nat.le_refl _) _).alloc (by simp) _
  have HK := Lib.hid hk
  have HPP := Lib.hid (hr0.kept hk)
  have HB := Lib.hid ((Blk.new w 27 #[.int .i64 mi, .int .i64 ma, .slice aP nP kP, .int .i64 ac, .int .i64 th, .int .i64 su, .slice aI nI kI, .slice aF nF kF, .slice aM nM kM]).alloc (.cells #[.string ⟨#[]⟩, .string ⟨#[]⟩, .string ⟨#[]⟩] 67))
  have HZ : Hid (Blk ((w.alloc (.cells #[.int .i64 mi, .int .i64 ma, .slice aP nP kP, .int .i64 ac, .int .i64 th, .int .i64 su, .slice aI nI kI, .slice aF nF kF, .slice aM nM kM] 27)).alloc (.cells #[.string ⟨#[]⟩, .string ⟨#[]⟩, .string ⟨#[]⟩] 67)) (w.heap.size + 1) 67 #[.string ⟨#[]⟩, .string ⟨#[]⟩, .string ⟨#[]⟩]) := Lib.hid (heap_new_at' _ _ (by simp))
  have HA := Lib.hid hr
  obtain ⟨gz, hgz⟩ : ∃ g, g = w.heap.size + 1 := ⟨_, rfl⟩
  have HGZ := Lib.hid (show w.heap.size ≤ gz by omega)
  clear hk hr hr0 hnP
  go_enter Try.func24, Try.ntmps24
  go_upto_region 1 with fail
  rw [← hgz] at HZ ⊢
  generalize ((w.alloc (.cells #[.int .i64 mi, .int .i64 ma, .slice aP nP kP, .int .i64 ac, .int .i64 th, .int .i64 su, .slice aI nI kI, .slice aF nF kF, .slice aM nM kM] 27)).alloc (.cells #[.string ⟨#[]⟩, .string ⟨#[]⟩, .string ⟨#[]⟩] 67)) = W at *
  clear hgz
  have HLV : ∀ (V : World) (h : Blk V gz 67 #[.string ⟨#[]⟩, .string ⟨#[]⟩, .string ⟨#[]⟩]) (cs : Array Value), cs.size = 3 → (loadVar 67 ⟨gz, 0, none⟩).run Try.prog (V.setRow gz cs) = .ok (.agg cs) (V.setRow gz cs) := fun V h cs hcs => run_loadVar_row (P := Try.prog) _ gz 67 67 cs (0, 0) _ (setRow_heap _ _ _ _ _ _ h) Try.underlying67 rfl (by rw [hcs]; kernel_rfl)
  have HHLV := Lib.hid HLV
  clear HLV
  have c0 := HB.out.cell 0
  have c1 := HB.out.cell 1
  have c2 := HB.out.cell 2
  have c3 := HB.out.cell 3
  have c4 := HB.out.cell 4
  have c5 := HB.out.cell 5
  have c6 := HB.out.cell 6
  have c7 := HB.out.cell 7
  have c8 := HB.out.cell 8
  simp only [List.getElem?_toArray, List.getElem?_cons_succ, List.getElem?_cons_zero] at c0 c1 c2 c3 c4 c5 c6 c7 c8
  go_upto_region 2 with fail
  have hk2' : Kept W (W.alloc (.cells #[.int .i64 mi, .int .i64 ma, .slice aP nP kP, .int .i64 ac, .int .i64 th, .int .i64 su, .slice aI nI kI, .slice aF nF kF, .slice aM nM kM] 74)) := (Below.refl _ _).alloc (Nat.le_refl _) _
  have HG := Lib.hid (Blk.new W 74 #[.int .i64 mi, .int .i64 ma, .slice aP nP kP, .int .i64 ac, .int .i64 th, .int .i64 su, .slice aI nI kI, .slice aF nF kF, .slice aM nM kM])
  have K1 := Lib.hid (Kept.trans HK.out hk2')
  have HB1 := Lib.hid (HB.out.kept hk2')
  have HZ1 := Lib.hid (HZ.out.kept hk2')
  have HP1 := Lib.hid (HPP.out.kept hk2')
  obtain ⟨gb, hgb⟩ : ∃ g, g = W.heap.size := ⟨_, rfl⟩
  rw [← hgb] at HG ⊢
  clear hk2' c0 c1 c2 c3 c4 c5 c6 c7 c8 HB HZ HPP
  generalize (W.alloc (.cells #[.int .i64 mi, .int .i64 ma, .slice aP nP kP, .int .i64 ac, .int .i64 th, .int .i64 su, .slice aI nI kI, .slice aF nF kF, .slice aM nM kM] 74)) = W1 at *
  clear hgb
  have c0 := HB1.out.cell 0
  have c1 := HB1.out.cell 1
  have c2 := HB1.out.cell 2
  have c3 := HB1.out.cell 3
  have c4 := HB1.out.cell 4
  have c5 := HB1.out.cell 5
  have c6 := HB1.out.cell 6
  have c7 := HB1.out.cell 7
  have c8 := HB1.out.cell 8
  simp only [List.getElem?_toArray, List.getElem?_cons_succ, List.getElem?_cons_zero] at c0 c1 c2 c3 c4 c5 c6 c7 c8
  have q0 := HG.out.cell 0
  have q1 := HG.out.cell 1
  have q2 := HG.out.cell 2
  have q3 := HG.out.cell 3
  have q4 := HG.out.cell 4
  have q5 := HG.out.cell 5
  have q6 := HG.out.cell 6
  have q7 := HG.out.cell 7
  have q8 := HG.out.cell 8
  simp only [List.getElem?_toArray, List.getElem?_cons_succ, List.getElem?_cons_zero] at q0 q1 q2 q3 q4 q5 q6 q7 q8
  by_cases h1 : n < 1
  · have HG0 : Hid (refC pool n = none) := Lib.hid (refC_out (by omega))
    go_upto_region 3 with fail
    have HZZ := HZ1
    have KK := K1
    have HLV := HHLV.out
    go_wp2_with (refine wpList_store_row rfl 67 _ _ rfl gz #[.string ⟨#[]⟩, .string ⟨#[]⟩, .string ⟨#[]⟩] rfl (by rfl) 67 _ HZZ.out (by kernel_rfl) (by rfl) (by kernel_rfl) ?_)
    have HL := HLV _ HZZ.out #[.string ⟨#[]⟩, .string ⟨#[]⟩, .string ⟨#[]⟩] rfl
    refine bodyPost_ret (v := .tuple #[.agg #[.string ⟨#[]⟩, .string ⟨#[]⟩, .string ⟨#[]⟩], .int .i64 0, .bool false]) ?_ rfl ?_
    · simp [results, Try.results24, asAddr, HL]
    · exact ⟨by rw [HG0.out]; rfl, kept_setRow KK.out HGZ.out _⟩
  by_cases h2 : (nP : Int) < n
  · have HG0 : Hid (refC pool n = none) := Lib.hid (refC_out (by have := N1.out; omega))
    go_upto_region 3 with fail
    have HZZ := HZ1
    have KK := K1
    have HLV := HHLV.out
    go_wp2_with (refine wpList_store_row rfl 67 _ _ rfl gz #[.string ⟨#[]⟩, .string ⟨#[]⟩, .string ⟨#[]⟩] rfl (by rfl) 67 _ HZZ.out (by kernel_rfl) (by rfl) (by kernel_rfl) ?_)
    have HL := HLV _ HZZ.out #[.string ⟨#[]⟩, .string ⟨#[]⟩, .string ⟨#[]⟩] rfl
    refine bodyPost_ret (v := .tuple #[.agg #[.string ⟨#[]⟩, .string ⟨#[]⟩, .string ⟨#[]⟩], .int .i64 0, .bool false]) ?_ rfl ?_
    · simp [results, Try.results24, asAddr, HL]
    · exact ⟨by rw [HG0.out]; rfl, kept_setRow KK.out HGZ.out _⟩
  obtain ⟨k, hk⟩ : ∃ k : Nat, n = (k : Int) + 1 := ⟨(n - 1).toNat, by omega⟩
  subst hk
  obtain ⟨x, hx⟩ : ∃ x, pool[k]? = some x := ⟨_, List.getElem?_eq_getElem (by have := N1.out; omega)⟩
  obtain ⟨b1, o1, d1, hv1, e0, e1, e2, e3, e4⟩ := const_cells N1.out HP1.out hx
  simp only [Value.slice.injEq] at hv1
  obtain ⟨rfl, -, rfl⟩ := hv1
  have hkI : (k : Int) < (nP : Int) := by omega
  have h0I : (0 : Int) ≤ (k : Int) := by omega
  have HX := Lib.hid hx
  clear hx
  have ht : (x.tag = 9 ∨ x.tag = 10 ∨ x.tag = 11) ∨ ¬ (x.tag = 9 ∨ x.tag = 10 ∨ x.tag = 11) := Decidable.em _
  have HT0 := Lib.hid ht
  clear ht
  go_upto_region 5 with fail
  have hk3 : Kept W1 (W1.alloc (.cells #[.int .i64 x.tag, .string x.text, .int .i64 x.num, .int .i64 x.a, .int .i64 x.b] 47)) := (Below.refl _ _).alloc (Nat.le_refl _) _
  have HX3 := Lib.hid (Blk.new W1 47 #[.int .i64 x.tag, .string x.text, .int .i64 x.num, .int .i64 x.a, .int .i64 x.b])
  have K3 := Lib.hid (Kept.trans K1.out hk3)
  have HZ3 := Lib.hid (HZ1.out.kept hk3)
  have HG3 := Lib.hid (HG.out.kept hk3)
  obtain ⟨g8, hg8⟩ : ∃ g, g = W1.heap.size := ⟨_, rfl⟩
  rw [← hg8] at HX3 ⊢
  clear hk3 c0 c1 c2 c3 c4 c5 c6 c7 c8 q0 q1 q2 q3 q4 q5 q6 q7 q8 e0 e1 e2 e3 e4 HB1 HZ1 HG
  generalize (W1.alloc (.cells #[.int .i64 x.tag, .string x.text, .int .i64 x.num, .int .i64 x.a, .int .i64 x.b] 47)) = W3 at *
  clear hg8
  have q0 := HG3.out.cell 0
  have q1 := HG3.out.cell 1
  have q2 := HG3.out.cell 2
  have q3 := HG3.out.cell 3
  have q4 := HG3.out.cell 4
  have q5 := HG3.out.cell 5
  have q6 := HG3.out.cell 6
  have q7 := HG3.out.cell 7
  have q8 := HG3.out.cell 8
  simp only [List.getElem?_toArray, List.getElem?_cons_succ, List.getElem?_cons_zero] at q0 q1 q2 q3 q4 q5 q6 q7 q8
  have x0 := HX3.out.cell 0
  have x1 := HX3.out.cell 1
  have x2 := HX3.out.cell 2
  have x3 := HX3.out.cell 3
  have x4 := HX3.out.cell 4
  simp only [List.getElem?_toArray, List.getElem?_cons_succ, List.getElem?_cons_zero] at x0 x1 x2 x3 x4
  rcases HT0.out with ht | ht
  rotate_left
  · have HG0 : Hid (refC pool ((k : Int) + 1) = none) := Lib.hid (refC_no HX.out (fun h => ht h.1))
    have n9 : (x.tag != 9) = true := by simp; omega
    have n10 : (x.tag != 10) = true := by simp; omega
    have n11 : (x.tag != 11) = true := by simp; omega
    clear ht
    go_upto_region 6 with fail
    have HZZ := HZ3
    have KK := K3
    have HLV := HHLV.out
    go_wp2_with (refine wpList_store_row rfl 67 _ _ rfl gz #[.string ⟨#[]⟩, .string ⟨#[]⟩, .string ⟨#[]⟩] rfl (by rfl) 67 _ HZZ.out (by kernel_rfl) (by rfl) (by kernel_rfl) ?_)
    have HL := HLV _ HZZ.out #[.string ⟨#[]⟩, .string ⟨#[]⟩, .string ⟨#[]⟩] rfl
    refine bodyPost_ret (v := .tuple #[.agg #[.string ⟨#[]⟩, .string ⟨#[]⟩, .string ⟨#[]⟩], .int .i64 0, .bool false]) ?_ rfl ?_
    · simp [results, Try.results24, asAddr, HL]
    · exact ⟨by rw [HG0.out]; rfl, kept_setRow KK.out HGZ.out _⟩
  have HT := Lib.hid ht
  have C1 := fun (V : World) (h : Kept w V) => check_name pool mi ma ac th su _ (.slice aI nI kI) (.slice aF nF kF) (.slice aM nM kM) x.a V (HA.out.kept h)
  have C2 := fun (V : World) (h : Kept w V) => check_named pool mi ma ac th su _ (.slice aI nI kI) (.slice aF nF kF) (.slice aM nM kM) x.b V (HA.out.kept h)
  unfold TextG at C1
  unfold BothG at C2
  obtain ⟨s1, hs1⟩ : ∃ s, s = (nameC pool x.a).1 := ⟨_, rfl⟩
  obtain ⟨o1', ho1⟩ : ∃ s, s = (nameC pool x.a).2 := ⟨_, rfl⟩
  obtain ⟨s2, hs2⟩ : ∃ s, s = (pairC pool x.b).1 := ⟨_, rfl⟩
  obtain ⟨s3, hs3⟩ : ∃ s, s = (pairC pool x.b).2.1 := ⟨_, rfl⟩
  obtain ⟨o2, ho2⟩ : ∃ s, s = (pairC pool x.b).2.2 := ⟨_, rfl⟩
  rw [← hs1, ← ho1] at C1
  rw [← hs2, ← hs3, ← ho2] at C2
  have ES1 := Lib.hid hs1
  have EO1 := Lib.hid ho1
  have ES2 := Lib.hid hs2
  have ES3 := Lib.hid hs3
  have EO2 := Lib.hid ho2
  have HC1 := Lib.hid C1
  have HC2 := Lib.hid C2
  clear C1 C2 hs1 ho1 hs2 hs3 ho2
  have hcase : ((x.tag != 9) = false) ∨ ((x.tag != 9) = true ∧ (x.tag != 10) = false) ∨ ((x.tag != 9) = true ∧ (x.tag != 10) = true ∧ (x.tag != 11) = false) := by
    rcases ht with h | h | h
    · exact .inl (by rw [h]; rfl)
    · exact .inr (.inl ⟨by rw [h]; rfl, by rw [h]; rfl⟩)
    · exact .inr (.inr ⟨by rw [h]; rfl, by rw [h]; rfl, by rw [h]; rfl⟩)
  clear ht
  rcases hcase with n9 | ⟨n9, n10⟩ | ⟨n9, n10, n11⟩
  all_goals
    (have C := HC1.out W3 K3.out
     go_wp2_with fail
     refine C.mono ?_
     rintro e w4 ⟨rfl, hk4⟩
     have K4 := Lib.hid (Kept.trans K3.out hk4)
     have HG4 := Lib.hid (HG3.out.kept hk4)
     have HX4 := Lib.hid (HX3.out.kept hk4)
     have HZ4 := Lib.hid (HZ3.out.kept hk4)
     clear hk4 C q0 q1 q2 q3 q4 q5 q6 q7 q8 x0 x1 x2 x3 x4
     have q0 := HG4.out.cell 0
     have q1 := HG4.out.cell 1
     have q2 := HG4.out.cell 2
     have q3 := HG4.out.cell 3
     have q4 := HG4.out.cell 4
     have q5 := HG4.out.cell 5
     have q6 := HG4.out.cell 6
     have q7 := HG4.out.cell 7
     have q8 := HG4.out.cell 8
     simp only [List.getElem?_toArray, List.getElem?_cons_succ, List.getElem?_cons_zero] at q0 q1 q2 q3 q4 q5 q6 q7 q8
     have x0 := HX4.out.cell 0
     have x1 := HX4.out.cell 1
     have x2 := HX4.out.cell 2
     have x3 := HX4.out.cell 3
     have x4 := HX4.out.cell 4
     simp only [List.getElem?_toArray, List.getElem?_cons_succ, List.getElem?_cons_zero] at x0 x1 x2 x3 x4
     have C := HC2.out w4 K4.out
     go_wp2_with fail
     refine C.mono ?_
     rintro e w5 ⟨rfl, hk5⟩
     have KK := Lib.hid (Kept.trans K4.out hk5)
     have HX5 := Lib.hid (HX4.out.kept hk5)
     have HZZ := Lib.hid (HZ4.out.kept hk5)
     clear hk5 C q0 q1 q2 q3 q4 q5 q6 q7 q8 x0 x1 x2 x3 x4
     have x0 := HX5.out.cell 0
     have x1 := HX5.out.cell 1
     have x2 := HX5.out.cell 2
     have x3 := HX5.out.cell 3
     have x4 := HX5.out.cell 4
     simp only [List.getElem?_toArray, List.getElem?_cons_succ, List.getElem?_cons_zero] at x0 x1 x2 x3 x4
     have HLV := HHLV.out
     cases o1'
     · have HG0 : Hid (refC pool ((k : Int) + 1) = none) := Lib.hid (refC_no HX.out (fun h => by have := h.2.1; rw [← EO1.out] at this; cases this))
       clear HLV
       go_upto_region 10 with fail
       have HLV := HHLV.out
       go_wp2_with (refine wpList_store_row rfl 67 _ _ rfl gz #[.string ⟨#[]⟩, .string ⟨#[]⟩, .string ⟨#[]⟩] rfl (by rfl) 67 _ HZZ.out (by kernel_rfl) (by rfl) (by kernel_rfl) ?_)
       have HL := HLV _ HZZ.out #[.string ⟨#[]⟩, .string ⟨#[]⟩, .string ⟨#[]⟩] rfl
       refine bodyPost_ret (v := .tuple #[.agg #[.string ⟨#[]⟩, .string ⟨#[]⟩, .string ⟨#[]⟩], .int .i64 0, .bool false]) ?_ rfl ?_
       · simp [results, Try.results24, asAddr, HL]
       · exact ⟨by rw [HG0.out]; rfl, kept_setRow KK.out HGZ.out _⟩
     cases o2
     · have HG0 : Hid (refC pool ((k : Int) + 1) = none) := Lib.hid (refC_no HX.out (fun h => by have := h.2.2; rw [← pairC_ok, ← EO2.out] at this; cases this))
       clear HLV
       go_upto_region 10 with fail
       have HLV := HHLV.out
       go_wp2_with (refine wpList_store_row rfl 67 _ _ rfl gz #[.string ⟨#[]⟩, .string ⟨#[]⟩, .string ⟨#[]⟩] rfl (by rfl) 67 _ HZZ.out (by kernel_rfl) (by rfl) (by kernel_rfl) ?_)
       have HL := HLV _ HZZ.out #[.string ⟨#[]⟩, .string ⟨#[]⟩, .string ⟨#[]⟩] rfl
       refine bodyPost_ret (v := .tuple #[.agg #[.string ⟨#[]⟩, .string ⟨#[]⟩, .string ⟨#[]⟩], .int .i64 0, .bool false]) ?_ rfl ?_
       · simp [results, Try.results24, asAddr, HL]
       · exact ⟨by rw [HG0.out]; rfl, kept_setRow KK.out HGZ.out _⟩
     have HB2 := Lib.hid (show (bothC pool x.b).2.2 = true by rw [← pairC_ok, ← EO2.out])
     have HG0 : Hid (refC pool ((k : Int) + 1) = some (s1, s2, s3, x.tag)) := Lib.hid (by rw [refC_yes HX.out ⟨HT.out, by rw [← EO1.out], HB2.out⟩, ES1.out, ES2.out, ES3.out, pairC_yes HB2.out])
     clear HLV
     go_upto_region 11 with fail
     have z0 := HZZ.out.cell 0
     have z1 := HZZ.out.cell 1
     have z2 := HZZ.out.cell 2
     simp only [List.getElem?_toArray, List.getElem?_cons_succ, List.getElem?_cons_zero] at z0 z1 z2
     have zf0 := HZZ.out.frozen 0
     have zf1 := HZZ.out.frozen 1
     have zf2 := HZZ.out.frozen 2
     have hn8 : g8 ≠ gz := HX5.out.ne_ HZZ.out (by decide)
     have hn8' : gz ≠ g8 := hn8.symm
     go_region
     have HV : Blk ((((w5.setCell ⟨gz, 0, none⟩ (.string s1)).setCell ⟨gz, 1, none⟩ (.string s2)).setCell ⟨gz, 2, none⟩ (.string s3)).drew) gz 67 #[.string s1, .string s2, .string s3] := ((HZZ.out.set_ 0 (.string s1)).set_ 1 (.string s2)).set_ 2 (.string s3)
     have KV : Kept w ((((w5.setCell ⟨gz, 0, none⟩ (.string s1)).setCell ⟨gz, 1, none⟩ (.string s2)).setCell ⟨gz, 2, none⟩ (.string s3)).drew) := kept_drewN (((KK.out.setCell (p := ⟨gz, 0, none⟩) HGZ.out (.string s1)).setCell (p := ⟨gz, 1, none⟩) HGZ.out (.string s2)).setCell (p := ⟨gz, 2, none⟩) HGZ.out (.string s3)) 1
     have HHV := Lib.hid HV
     have HKV := Lib.hid KV
     clear HV KV z0 z1 z2 zf0 zf1 zf2 x0 x1 x2 x3 x4
     generalize ((((w5.setCell ⟨gz, 0, none⟩ (.string s1)).setCell ⟨gz, 1, none⟩ (.string s2)).setCell ⟨gz, 2, none⟩ (.string s3)).drew) = V at *
     have HL := run_loadVar_row (P := Try.prog) V gz 67 67 #[.string s1, .string s2, .string s3] (0, 0) _ HHV.out Try.underlying67 rfl (by kernel_rfl)
     go_wp2_with fail
     refine bodyPost_ret (v := .tuple #[.agg #[.string s1, .string s2, .string s3], .int .i64 x.tag, .bool true]) ?_ rfl ?_
     · simp [results, Try.results24, asAddr, HL]
     · exact ⟨by rw [HG0.out]; rfl, HKV.out⟩)
set_option maxHeartbeats 8000000 in
theorem ref5_Ref (pool : List ConstC) (mi ma ac th su : Int) (vP : Value) (aI aF aM : Option Addr) (nI nF nM kI kF kM : Nat) (n : Int) (w : World) (hr : Rd w 5 vP pool.length (pool.flatMap encC)) :
    Calls Try.prog 26 #[.agg #[.int .i64 mi, .int .i64 ma, vP, .int .i64 ac, .int .i64 th, .int .i64 su, .slice aI nI kI, .slice aF nF kF, .slice aM nM kM], .int .i64 n] w (RefG pool n w) := by
  obtain ⟨nP, hnP⟩ : ∃ x, x = pool.length := ⟨_, rfl⟩
  have hr0 := hr
  rw [← hnP] at hr0
  have N1 := Lib.hid hnP
  obtain ⟨_, aP, kP, rfl, hk1, hk2, -⟩ := id hr0
  have hk : Kept w ((w.alloc (.cells #[.int .i64 mi, .int .i64 ma, .slice aP nP kP, .int .i64 ac, .int .i64 th, .int .i64 su, .slice aI nI kI, .slice aF nF kF, .slice aM nM kM] 27)).alloc (.cells #[.string ⟨#[]⟩, .string ⟨#[]⟩, .string ⟨#[]⟩] 67)) := ((Below.refl _ _).alloc (Nat.le_refl _) _).alloc (by simp) _
  have HK := Lib.hid hk
  have HPP := Lib.hid (hr0.kept hk)
  have HB := Lib.hid ((Blk.new w 27 #[.int .i64 mi, .int .i64 ma, .slice aP nP kP, .int .i64 ac, .int .i64 th, .int .i64 su, .slice aI nI kI, .slice aF nF kF, .slice aM nM kM]).alloc (.cells #[.string ⟨#[]⟩, .string ⟨#[]⟩, .string ⟨#[]⟩] 67))
  have HZ : Hid (Blk ((w.alloc (.cells #[.int .i64 mi, .int .i64 ma, .slice aP nP kP, .int .i64 ac, .int .i64 th, .int .i64 su, .slice aI nI kI, .slice aF nF kF, .slice aM nM kM] 27)).alloc (.cells #[.string ⟨#[]⟩, .string ⟨#[]⟩, .string ⟨#[]⟩] 67)) (w.heap.size + 1) 67 #[.string ⟨#[]⟩, .string ⟨#[]⟩, .string ⟨#[]⟩]) := Lib.hid (heap_new_at' _ _ (by simp))
  have HA := Lib.hid hr
  obtain ⟨gz, hgz⟩ : ∃ g, g = w.heap.size + 1 := ⟨_, rfl⟩
  have HGZ := Lib.hid (show w.heap.size ≤ gz by omega)
  clear hk hr hr0 hnP
  go_enter Try.func26, Try.ntmps26
  go_upto_region 1 with fail
  rw [← hgz] at HZ ⊢
  generalize ((w.alloc (.cells #[.int .i64 mi, .int .i64 ma, .slice aP nP kP, .int .i64 ac, .int .i64 th, .int .i64 su, .slice aI nI kI, .slice aF nF kF, .slice aM nM kM] 27)).alloc (.cells #[.string ⟨#[]⟩, .string ⟨#[]⟩, .string ⟨#[]⟩] 67)) = W at *
  clear hgz
  obtain ⟨W1, hren⟩ : ∃ x, x = W := ⟨_, rfl⟩
  subst hren
  have HLV : ∀ (V : World) (h : Blk V gz 67 #[.string ⟨#[]⟩, .string ⟨#[]⟩, .string ⟨#[]⟩]) (cs : Array Value), cs.size = 3 → (loadVar 67 ⟨gz, 0, none⟩).run Try.prog (V.setRow gz cs) = .ok (.agg cs) (V.setRow gz cs) := fun V h cs hcs => run_loadVar_row (P := Try.prog) _ gz 67 67 cs (0, 0) _ (setRow_heap _ _ _ _ _ _ h) Try.underlying67 rfl (by rw [hcs]; kernel_rfl)
  have HHLV := Lib.hid HLV
  clear HLV
  have c0 := HB.out.cell 0
  have c1 := HB.out.cell 1
  have c2 := HB.out.cell 2
  have c3 := HB.out.cell 3
  have c4 := HB.out.cell 4
  have c5 := HB.out.cell 5
  have c6 := HB.out.cell 6
  have c7 := HB.out.cell 7
  have c8 := HB.out.cell 8
  simp only [List.getElem?_toArray, List.getElem?_cons_succ, List.getElem?_cons_zero] at c0 c1 c2 c3 c4 c5 c6 c7 c8
  have K1 := HK
  have HB1 := HB
  have HZ1 := HZ
  have HP1 := HPP
  clear HB HZ HPP
  by_cases h1 : n < 1
  · have HG0 : Hid (refC pool n = none) := Lib.hid (refC_out (by omega))
    go_upto_region 2 with fail
    have HZZ := HZ1
    have KK := K1
    have HLV := HHLV.out
    go_wp2_with (refine wpList_store_row rfl 67 _ _ rfl gz #[.string ⟨#[]⟩, .string ⟨#[]⟩, .string ⟨#[]⟩] rfl (by rfl) 67 _ HZZ.out (by kernel_rfl) (by rfl) (by kernel_rfl) ?_)
    have HL := HLV _ HZZ.out #[.string ⟨#[]⟩, .string ⟨#[]⟩, .string ⟨#[]⟩] rfl
    refine bodyPost_ret (v := .tuple #[.agg #[.string ⟨#[]⟩, .string ⟨#[]⟩, .string ⟨#[]⟩], .int .i64 0, .bool false]) ?_ rfl ?_
    · simp [results, Try.results26, asAddr, HL]
    · exact ⟨by rw [HG0.out]; rfl, kept_setRow KK.out HGZ.out _⟩
  by_cases h2 : (nP : Int) < n
  · have HG0 : Hid (refC pool n = none) := Lib.hid (refC_out (by have := N1.out; omega))
    go_upto_region 2 with fail
    have HZZ := HZ1
    have KK := K1
    have HLV := HHLV.out
    go_wp2_with (refine wpList_store_row rfl 67 _ _ rfl gz #[.string ⟨#[]⟩, .string ⟨#[]⟩, .string ⟨#[]⟩] rfl (by rfl) 67 _ HZZ.out (by kernel_rfl) (by rfl) (by kernel_rfl) ?_)
    have HL := HLV _ HZZ.out #[.string ⟨#[]⟩, .string ⟨#[]⟩, .string ⟨#[]⟩] rfl
    refine bodyPost_ret (v := .tuple #[.agg #[.string ⟨#[]⟩, .string ⟨#[]⟩, .string ⟨#[]⟩], .int .i64 0, .bool false]) ?_ rfl ?_
    · simp [results, Try.results26, asAddr, HL]
    · exact ⟨by rw [HG0.out]; rfl, kept_setRow KK.out HGZ.out _⟩
  obtain ⟨k, hk⟩ : ∃ k : Nat, n = (k : Int) + 1 := ⟨(n - 1).toNat, by omega⟩
  subst hk
  obtain ⟨x, hx⟩ : ∃ x, pool[k]? = some x := ⟨_, List.getElem?_eq_getElem (by have := N1.out; omega)⟩
  obtain ⟨b1, o1, d1, hv1, e0, e1, e2, e3, e4⟩ := const_cells N1.out HP1.out hx
  simp only [Value.slice.injEq] at hv1
  obtain ⟨rfl, -, rfl⟩ := hv1
  have hkI : (k : Int) < (nP : Int) := by omega
  have h0I : (0 : Int) ≤ (k : Int) := by omega
  have HX := Lib.hid hx
  clear hx
  by_cases t1 : x.tag < 9
  · have HG0 : Hid (refC pool ((k : Int) + 1) = none) := Lib.hid (refC_no HX.out (fun h => by have := h.1; omega))
    go_upto_region 2 with fail
    have HZZ := HZ1
    have KK := K1
    have HLV := HHLV.out
    go_wp2_with (refine wpList_store_row rfl 67 _ _ rfl gz #[.string ⟨#[]⟩, .string ⟨#[]⟩, .string ⟨#[]⟩] rfl (by rfl) 67 _ HZZ.out (by kernel_rfl) (by rfl) (by kernel_rfl) ?_)
    have HL := HLV _ HZZ.out #[.string ⟨#[]⟩, .string ⟨#[]⟩, .string ⟨#[]⟩] rfl
    refine bodyPost_ret (v := .tuple #[.agg #[.string ⟨#[]⟩, .string ⟨#[]⟩, .string ⟨#[]⟩], .int .i64 0, .bool false]) ?_ rfl ?_
    · simp [results, Try.results26, asAddr, HL]
    · exact ⟨by rw [HG0.out]; rfl, kept_setRow KK.out HGZ.out _⟩
  by_cases t2 : 11 < x.tag
  · have HG0 : Hid (refC pool ((k : Int) + 1) = none) := Lib.hid (refC_no HX.out (fun h => by have := h.1; omega))
    go_upto_region 2 with fail
    have HZZ := HZ1
    have KK := K1
    have HLV := HHLV.out
    go_wp2_with (refine wpList_store_row rfl 67 _ _ rfl gz #[.string ⟨#[]⟩, .string ⟨#[]⟩, .string ⟨#[]⟩] rfl (by rfl) 67 _ HZZ.out (by kernel_rfl) (by rfl) (by kernel_rfl) ?_)
    have HL := HLV _ HZZ.out #[.string ⟨#[]⟩, .string ⟨#[]⟩, .string ⟨#[]⟩] rfl
    refine bodyPost_ret (v := .tuple #[.agg #[.string ⟨#[]⟩, .string ⟨#[]⟩, .string ⟨#[]⟩], .int .i64 0, .bool false]) ?_ rfl ?_
    · simp [results, Try.results26, asAddr, HL]
    · exact ⟨by rw [HG0.out]; rfl, kept_setRow KK.out HGZ.out _⟩
  have HT := Lib.hid (show x.tag = 9 ∨ x.tag = 10 ∨ x.tag = 11 by omega)
  go_upto_region 4 with fail
  have hk3 : Kept W1 (W1.alloc (.cells #[.int .i64 x.tag, .string x.text, .int .i64 x.num, .int .i64 x.a, .int .i64 x.b] 47)) := (Below.refl _ _).alloc (Nat.le_refl _) _
  have HX3 := Lib.hid (Blk.new W1 47 #[.int .i64 x.tag, .string x.text, .int .i64 x.num, .int .i64 x.a, .int .i64 x.b])
  have K3 := Lib.hid (Kept.trans K1.out hk3)
  have HZ3 := Lib.hid (HZ1.out.kept hk3)
  have HB3 := Lib.hid (HB1.out.kept hk3)
  obtain ⟨g8, hg8⟩ : ∃ g, g = W1.heap.size := ⟨_, rfl⟩
  rw [← hg8] at HX3 ⊢
  clear hk3 c0 c1 c2 c3 c4 c5 c6 c7 c8  e0 e1 e2 e3 e4 HB1 HZ1 
  generalize (W1.alloc (.cells #[.int .i64 x.tag, .string x.text, .int .i64 x.num, .int .i64 x.a, .int .i64 x.b] 47)) = W3 at *
  clear hg8
  have c0 := HB3.out.cell 0
  have c1 := HB3.out.cell 1
  have c2 := HB3.out.cell 2
  have c3 := HB3.out.cell 3
  have c4 := HB3.out.cell 4
  have c5 := HB3.out.cell 5
  have c6 := HB3.out.cell 6
  have c7 := HB3.out.cell 7
  have c8 := HB3.out.cell 8
  simp only [List.getElem?_toArray, List.getElem?_cons_succ, List.getElem?_cons_zero] at c0 c1 c2 c3 c4 c5 c6 c7 c8
  have x0 := HX3.out.cell 0
  have x1 := HX3.out.cell 1
  have x2 := HX3.out.cell 2
  have x3 := HX3.out.cell 3
  have x4 := HX3.out.cell 4
  simp only [List.getElem?_toArray, List.getElem?_cons_succ, List.getElem?_cons_zero] at x0 x1 x2 x3 x4
  clear t1 t2
  have C1 := fun (V : World) (h : Kept w V) => ref5_Name pool mi ma ac th su _ (.slice aI nI kI) (.slice aF nF kF) (.slice aM nM kM) x.a V (HA.out.kept h)
  have C2 := fun (V : World) (h : Kept w V) => ref5_both pool mi ma ac th su _ (.slice aI nI kI) (.slice aF nF kF) (.slice aM nM kM) x.b V (HA.out.kept h)
  unfold TextG at C1
  unfold BothG at C2
  obtain ⟨s1, hs1⟩ : ∃ s, s = (nameC pool x.a).1 := ⟨_, rfl⟩
  obtain ⟨o1', ho1⟩ : ∃ s, s = (nameC pool x.a).2 := ⟨_, rfl⟩
  obtain ⟨s2, hs2⟩ : ∃ s, s = (bothC pool x.b).1 := ⟨_, rfl⟩
  obtain ⟨s3, hs3⟩ : ∃ s, s = (bothC pool x.b).2.1 := ⟨_, rfl⟩
  obtain ⟨o2, ho2⟩ : ∃ s, s = (bothC pool x.b).2.2 := ⟨_, rfl⟩
  rw [← hs1, ← ho1] at C1
  rw [← hs2, ← hs3, ← ho2] at C2
  have ES1 := Lib.hid hs1
  have EO1 := Lib.hid ho1
  have ES2 := Lib.hid hs2
  have ES3 := Lib.hid hs3
  have EO2 := Lib.hid ho2
  have HC1 := Lib.hid C1
  have HC2 := Lib.hid C2
  clear C1 C2 hs1 ho1 hs2 hs3 ho2
  have C := HC1.out W3 K3.out
  go_wp2_with fail
  refine C.mono ?_
  rintro e w4 ⟨rfl, hk4⟩
  have K4 := Lib.hid (Kept.trans K3.out hk4)
  have HB4 := Lib.hid (HB3.out.kept hk4)
  have HX4 := Lib.hid (HX3.out.kept hk4)
  have HZ4 := Lib.hid (HZ3.out.kept hk4)
  clear hk4 C c0 c1 c2 c3 c4 c5 c6 c7 c8 x0 x1 x2 x3 x4
  have c0 := HB4.out.cell 0
  have c1 := HB4.out.cell 1
  have c2 := HB4.out.cell 2
  have c3 := HB4.out.cell 3
  have c4 := HB4.out.cell 4
  have c5 := HB4.out.cell 5
  have c6 := HB4.out.cell 6
  have c7 := HB4.out.cell 7
  have c8 := HB4.out.cell 8
  simp only [List.getElem?_toArray, List.getElem?_cons_succ, List.getElem?_cons_zero] at c0 c1 c2 c3 c4 c5 c6 c7 c8
  have x0 := HX4.out.cell 0
  have x1 := HX4.out.cell 1
  have x2 := HX4.out.cell 2
  have x3 := HX4.out.cell 3
  have x4 := HX4.out.cell 4
  simp only [List.getElem?_toArray, List.getElem?_cons_succ, List.getElem?_cons_zero] at x0 x1 x2 x3 x4
  have C := HC2.out w4 K4.out
  go_wp2_with fail
  refine C.mono ?_
  rintro e w5 ⟨rfl, hk5⟩
  have KK := Lib.hid (Kept.trans K4.out hk5)
  have HX5 := Lib.hid (HX4.out.kept hk5)
  have HZZ := Lib.hid (HZ4.out.kept hk5)
  clear hk5 C c0 c1 c2 c3 c4 c5 c6 c7 c8 x0 x1 x2 x3 x4
  have x0 := HX5.out.cell 0
  have x1 := HX5.out.cell 1
  have x2 := HX5.out.cell 2
  have x3 := HX5.out.cell 3
  have x4 := HX5.out.cell 4
  simp only [List.getElem?_toArray, List.getElem?_cons_succ, List.getElem?_cons_zero] at x0 x1 x2 x3 x4
  have HLV := HHLV.out
  cases o1'
  · have HG0 : Hid (refC pool ((k : Int) + 1) = none) := Lib.hid (refC_no HX.out (fun h => by have := h.2.1; rw [← EO1.out] at this; cases this))
    clear HLV
    go_upto_region 7 with fail
    have HLV := HHLV.out
    go_wp2_with (refine wpList_store_row rfl 67 _ _ rfl gz #[.string ⟨#[]⟩, .string ⟨#[]⟩, .string ⟨#[]⟩] rfl (by rfl) 67 _ HZZ.out (by kernel_rfl) (by rfl) (by kernel_rfl) ?_)
    have HL := HLV _ HZZ.out #[.string ⟨#[]⟩, .string ⟨#[]⟩, .string ⟨#[]⟩] rfl
    refine bodyPost_ret (v := .tuple #[.agg #[.string ⟨#[]⟩, .string ⟨#[]⟩, .string ⟨#[]⟩], .int .i64 0, .bool false]) ?_ rfl ?_
    · simp [results, Try.results26, asAddr, HL]
    · exact ⟨by rw [HG0.out]; rfl, kept_setRow KK.out HGZ.out _⟩
  cases o2
  · have HG0 : Hid (refC pool ((k : Int) + 1) = none) := Lib.hid (refC_no HX.out (fun h => by have := h.2.2; rw [← EO2.out] at this; cases this))
    clear HLV
    go_upto_region 7 with fail
    have HLV := HHLV.out
    go_wp2_with (refine wpList_store_row rfl 67 _ _ rfl gz #[.string ⟨#[]⟩, .string ⟨#[]⟩, .string ⟨#[]⟩] rfl (by rfl) 67 _ HZZ.out (by kernel_rfl) (by rfl) (by kernel_rfl) ?_)
    have HL := HLV _ HZZ.out #[.string ⟨#[]⟩, .string ⟨#[]⟩, .string ⟨#[]⟩] rfl
    refine bodyPost_ret (v := .tuple #[.agg #[.string ⟨#[]⟩, .string ⟨#[]⟩, .string ⟨#[]⟩], .int .i64 0, .bool false]) ?_ rfl ?_
    · simp [results, Try.results26, asAddr, HL]
    · exact ⟨by rw [HG0.out]; rfl, kept_setRow KK.out HGZ.out _⟩
  have HB2 := Lib.hid (show (bothC pool x.b).2.2 = true by rw [← EO2.out])
  have HG0 : Hid (refC pool ((k : Int) + 1) = some (s1, s2, s3, x.tag)) := Lib.hid (by rw [refC_yes HX.out ⟨HT.out, by rw [← EO1.out], HB2.out⟩, ES1.out, ES2.out, ES3.out])
  clear HLV
  go_upto_region 8 with fail
  have z0 := HZZ.out.cell 0
  have z1 := HZZ.out.cell 1
  have z2 := HZZ.out.cell 2
  simp only [List.getElem?_toArray, List.getElem?_cons_succ, List.getElem?_cons_zero] at z0 z1 z2
  have zf0 := HZZ.out.frozen 0
  have zf1 := HZZ.out.frozen 1
  have zf2 := HZZ.out.frozen 2
  have hn8 : g8 ≠ gz := HX5.out.ne_ HZZ.out (by decide)
  have hn8' : gz ≠ g8 := hn8.symm
  go_region
  have HV : Blk ((((w5.setCell ⟨gz, 0, none⟩ (.string s1)).setCell ⟨gz, 1, none⟩ (.string s2)).setCell ⟨gz, 2, none⟩ (.string s3)).drew) gz 67 #[.string s1, .string s2, .string s3] := ((HZZ.out.set_ 0 (.string s1)).set_ 1 (.string s2)).set_ 2 (.string s3)
  have KV : Kept w ((((w5.setCell ⟨gz, 0, none⟩ (.string s1)).setCell ⟨gz, 1, none⟩ (.string s2)).setCell ⟨gz, 2, none⟩ (.string s3)).drew) := kept_drewN (((KK.out.setCell (p := ⟨gz, 0, none⟩) HGZ.out (.string s1)).setCell (p := ⟨gz, 1, none⟩) HGZ.out (.string s2)).setCell (p := ⟨gz, 2, none⟩) HGZ.out (.string s3)) 1
  have HHV := Lib.hid HV
  have HKV := Lib.hid KV
  clear HV KV z0 z1 z2 zf0 zf1 zf2 x0 x1 x2 x3 x4
  generalize ((((w5.setCell ⟨gz, 0, none⟩ (.string s1)).setCell ⟨gz, 1, none⟩ (.string s2)).setCell ⟨gz, 2, none⟩ (.string s3)).drew) = V at *
  have HL := run_loadVar_row (P := Try.prog) V gz 67 67 #[.string s1, .string s2, .string s3] (0, 0) _ HHV.out Try.underlying67 rfl (by kernel_rfl)
  go_wp2_with fail
  refine bodyPost_ret (v := .tuple #[.agg #[.string s1, .string s2, .string s3], .int .i64 x.tag, .bool true]) ?_ rfl ?_
  · simp [results, Try.results26, asAddr, HL]
  · exact ⟨by rw [HG0.out]; rfl, HKV.out⟩
end Go.Proofs.Ytcklmhbcjgiplaa
