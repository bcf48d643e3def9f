/-
  Package check by contract: how constants are looked up; and the document's own.
-/
import Derived.Test.YtcklmhbcjgiplaaSmB
namespace Go.Proofs.Ytcklmhbcjgiplaa
set_option linter.unusedVariables false
set_option linter.unusedSimpArgs false
open Go.RowKit
set_option maxRecDepth 100000

def zeroK : ConstC := ⟨0, ⟨#[]⟩, 0, 0, 0⟩
/-- Constant n, if it is of a kind. -/
def getC (pool : List ConstC) (n tag : Int) : Option ConstC := if 1 ≤ n ∧ n ≤ pool.length then (match pool[(n - 1).toNat]? with | some x => if x.tag = tag then some x else none | none => none) else none
theorem heap_new_at' {w : World} (o : Obj) (k : Nat) (hk : k = w.heap.size) : (w.alloc o).heap[k]? = some o := by subst hk; exact heap_alloc_new w o
/-- What at tells. -/
def AtG (pool : List ConstC) (n tag : Int) (w : World) (e : Ending) (w' : World) : Prop := e = .returned (.tuple #[.agg (encC ((getC pool n tag).getD zeroK)).toArray, .bool (getC pool n tag).isSome]) ∧ Kept w w'
set_option maxHeartbeats 4000000 in
theorem check_at (pool : List ConstC) (mi ma ac th su : Int) (vP vI vF vM : Value) (n tag : Int) (w : World) (hr : Rd w 5 vP pool.length (pool.flatMap encC)) :
    Calls Try.prog 35 #[.agg #[.int .i64 mi, .int .i64 ma, vP, .int .i64 ac, .int .i64 th, .int .i64 su, vI, vF, vM], .int .i64 n, .int .i64 tag] w (AtG pool n tag w) := by
  obtain ⟨nP, hnP⟩ : ∃ x, x = pool.length := ⟨_, rfl⟩
  have hr0 := hr
  rw [← hnP] at hr0
  have N1 := Lib.hid hnP
  obtain ⟨_, aP, kP, rfl, hk1, hk2, -⟩ := id hr0
  have hk : Kept w ((w.alloc (.cells #[.int .i64 mi, .int .i64 ma, .slice aP nP kP, .int .i64 ac, .int .i64 th, .int .i64 su, vI, vF, vM] 74)).alloc (.cells #[.int .i64 0, .string ⟨#[]⟩, .int .i64 0, .int .i64 0, .int .i64 0] 47)) := ((Below.refl _ _).alloc (Nat.le_refl _) _).alloc (by simp) _
  have HK := Lib.hid hk
  have HPP := Lib.hid (hr0.kept hk)
  have HB := Lib.hid ((Blk.new w 74 #[.int .i64 mi, .int .i64 ma, .slice aP nP kP, .int .i64 ac, .int .i64 th, .int .i64 su, vI, vF, vM]).alloc (.cells #[.int .i64 0, .string ⟨#[]⟩, .int .i64 0, .int .i64 0, .int .i64 0] 47))
  clear hk hr hr0 hnP
  go_enter Try.func35, Try.ntmps35
  go_upto_region 1 with fail
  have hz : Blk ((w.alloc (.cells #[.int .i64 mi, .int .i64 ma, .slice aP nP kP, .int .i64 ac, .int .i64 th, .int .i64 su, vI, vF, vM] 74)).alloc (.cells #[.int .i64 0, .string ⟨#[]⟩, .int .i64 0, .int .i64 0, .int .i64 0] 47)) (w.heap.size + 1) 47 #[.int .i64 0, .string ⟨#[]⟩, .int .i64 0, .int .i64 0, .int .i64 0] := heap_new_at' _ _ (by simp)
  have HZ := Lib.hid hz
  clear hz
  generalize ((w.alloc (.cells #[.int .i64 mi, .int .i64 ma, .slice aP nP kP, .int .i64 ac, .int .i64 th, .int .i64 su, vI, vF, vM] 74)).alloc (.cells #[.int .i64 0, .string ⟨#[]⟩, .int .i64 0, .int .i64 0, .int .i64 0] 47)) = W at *
  have c2 := HB.out.cell 2
  simp only [List.getElem?_toArray, List.getElem?_cons_succ, List.getElem?_cons_zero] at c2
  have KS : ∀ cs : Array Value, Kept w (W.setRow (w.heap.size + 1) cs) := fun cs => ⟨HK.out.os, HK.out.tape, HK.out.output, by have := HK.out.size; simpa using this, fun b hb => by rw [setRow_other _ _ _ _ (by omega)]; exact Below.block HK.out b hb⟩
  have HKS := Lib.hid KS
  clear KS
  have HLV : ∀ cs : Array Value, cs.size = 5 → (loadVar 47 ⟨w.heap.size + 1, 0, none⟩).run Try.prog (W.setRow (w.heap.size + 1) cs) = .ok (.agg cs) (W.setRow (w.heap.size + 1) cs) := fun cs hcs => run_loadVar_row (P := Try.prog) _ (w.heap.size + 1) 47 47 cs (0, 0) _ (setRow_heap _ _ _ _ _ _ HZ.out) Try.underlying47 rfl (by rw [hcs]; kernel_rfl)
  have HHL := Lib.hid HLV
  clear HLV
  by_cases h1 : n < 1
  · have HG : Hid (getC pool n tag = none) := Lib.hid (by unfold getC; rw [if_neg (by omega)])
    go_upto_region 2 with fail
    go_wp2_with (refine wpList_store_row rfl 47 _ _ rfl (w.heap.size + 1) #[.int .i64 0, .string ⟨#[]⟩, .int .i64 0, .int .i64 0, .int .i64 0] rfl (by rfl) 47 _ HZ.out (by kernel_rfl) (by rfl) (by kernel_rfl) ?_)
    have HL := HHL.out #[.int .i64 0, .string ⟨#[]⟩, .int .i64 0, .int .i64 0, .int .i64 0] rfl
    refine bodyPost_ret (v := .tuple #[.agg #[.int .i64 0, .string ⟨#[]⟩, .int .i64 0, .int .i64 0, .int .i64 0], .bool false]) ?_ rfl ?_
    · simp [results, Try.results35, asAddr, HL]
    · exact ⟨by rw [HG.out]; rfl, HKS.out _⟩
  by_cases h2 : (nP : Int) < n
  · have HG : Hid (getC pool n tag = none) := Lib.hid (by unfold getC; have := N1.out; rw [if_neg (by omega)])
    go_upto_region 2 with fail
    go_wp2_with (refine wpList_store_row rfl 47 _ _ rfl (w.heap.size + 1) #[.int .i64 0, .string ⟨#[]⟩, .int .i64 0, .int .i64 0, .int .i64 0] rfl (by rfl) 47 _ HZ.out (by kernel_rfl) (by rfl) (by kernel_rfl) ?_)
    have HL := HHL.out #[.int .i64 0, .string ⟨#[]⟩, .int .i64 0, .int .i64 0, .int .i64 0] rfl
    refine bodyPost_ret (v := .tuple #[.agg #[.int .i64 0, .string ⟨#[]⟩, .int .i64 0, .int .i64 0, .int .i64 0], .bool false]) ?_ rfl ?_
    · simp [results, Try.results35, asAddr, HL]
    · exact ⟨by rw [HG.out]; rfl, HKS.out _⟩
  obtain ⟨k, hk⟩ : ∃ k : Nat, n = (k : Int) + 1 := ⟨(n - 1).toNat, by omega⟩
  subst hk
  obtain ⟨x, hx⟩ : ∃ x, pool[k]? = some x := ⟨_, List.getElem?_eq_getElem (by have := N1.out; omega)⟩
  obtain ⟨b1, o1, d1, hv1, e0, e1, e2, e3, e4⟩ := const_cells N1.out HPP.out hx
  simp only [Value.slice.injEq] at hv1
  obtain ⟨rfl, -, rfl⟩ := hv1
  have hkI : (k : Int) < (nP : Int) := by omega
  have h0I : (0 : Int) ≤ (k : Int) := by omega
  have HGX := Lib.hid (show getC pool ((k : Int) + 1) tag = if x.tag = tag then some x else none by
    unfold getC
    have := N1.out
    rw [if_pos (by omega), show ((k : Int) + 1 - 1).toNat = k by omega, hx])
  clear hx
  by_cases h3 : x.tag = tag
  rotate_left
  · have HG : Hid (getC pool ((k : Int) + 1) tag = none) := Lib.hid (by rw [HGX.out, if_neg h3])
    have hne : (x.tag != tag) = true := by simpa using h3
    clear h3
    go_upto_region 2 with fail
    go_wp2_with (refine wpList_store_row rfl 47 _ _ rfl (w.heap.size + 1) #[.int .i64 0, .string ⟨#[]⟩, .int .i64 0, .int .i64 0, .int .i64 0] rfl (by rfl) 47 _ HZ.out (by kernel_rfl) (by rfl) (by kernel_rfl) ?_)
    have HL := HHL.out #[.int .i64 0, .string ⟨#[]⟩, .int .i64 0, .int .i64 0, .int .i64 0] rfl
    refine bodyPost_ret (v := .tuple #[.agg #[.int .i64 0, .string ⟨#[]⟩, .int .i64 0, .int .i64 0, .int .i64 0], .bool false]) ?_ rfl ?_
    · simp [results, Try.results35, asAddr, HL]
    · exact ⟨by rw [HG.out]; rfl, HKS.out _⟩
  subst h3
  have HG : Hid (getC pool ((k : Int) + 1) x.tag = some x) := Lib.hid (by rw [HGX.out, if_pos rfl])
  go_upto_region 3 with fail
  go_wp2_with (refine wpList_store_row rfl 47 _ _ rfl (w.heap.size + 1) #[.int .i64 x.tag, .string x.text, .int .i64 x.num, .int .i64 x.a, .int .i64 x.b] rfl (by rfl) 47 _ HZ.out (by kernel_rfl) (by rfl) (by kernel_rfl) ?_)
  have HL := HHL.out #[.int .i64 x.tag, .string x.text, .int .i64 x.num, .int .i64 x.a, .int .i64 x.b] rfl
  refine bodyPost_ret (v := .tuple #[.agg #[.int .i64 x.tag, .string x.text, .int .i64 x.num, .int .i64 x.a, .int .i64 x.b], .bool true]) ?_ rfl ?_
  · simp [results, Try.results35, asAddr, HL]
  · exact ⟨by rw [HG.out]; rfl, HKS.out _⟩
set_option maxHeartbeats 4000000 in
theorem ref5_get (pool : List ConstC) (mi ma ac th su : Int) (vP vI vF vM : Value) (n tag : Int) (w : World) (hr : Rd w 5 vP pool.length (pool.flatMap encC)) :
    Calls Try.prog 40 #[.agg #[.int .i64 mi, .int .i64 ma, vP, .int .i64 ac, .int .i64 th, .int .i64 su, vI, vF, vM], .int .i64 n, .int .i64 tag] w (AtG pool n tag w) := by
  obtain ⟨nP, hnP⟩ : ∃ x, x = pool.length := ⟨_, rfl⟩
  have hr0 := hr
  rw [← hnP] at hr0
  have N1 := Lib.hid hnP
  obtain ⟨_, aP, kP, rfl, hk1, hk2, -⟩ := id hr0
  have hk : Kept w ((w.alloc (.cells #[.int .i64 mi, .int .i64 ma, .slice aP nP kP, .int .i64 ac, .int .i64 th, .int .i64 su, vI, vF, vM] 27)).alloc (.cells #[.int .i64 0, .string ⟨#[]⟩, .int .i64 0, .int .i64 0, .int .i64 0] 47)) := ((Below.refl _ _).alloc (Nat.le_refl _) _).alloc (by simp) _
  have HK := Lib.hid hk
  have HPP := Lib.hid (hr0.kept hk)
  have HB := Lib.hid ((Blk.new w 27 #[.int .i64 mi, .int .i64 ma, .slice aP nP kP, .int .i64 ac, .int .i64 th, .int .i64 su, vI, vF, vM]).alloc (.cells #[.int .i64 0, .string ⟨#[]⟩, .int .i64 0, .int .i64 0, .int .i64 0] 47))
  clear hk hr hr0 hnP
  go_enter Try.func40, Try.ntmps40
  go_upto_region 1 with fail
  have hz : Blk ((w.alloc (.cells #[.int .i64 mi, .int .i64 ma, .slice aP nP kP, .int .i64 ac, .int .i64 th, .int .i64 su, vI, vF, vM] 27)).alloc (.cells #[.int .i64 0, .string ⟨#[]⟩, .int .i64 0, .int .i64 0, .int .i64 0] 47)) (w.heap.size + 1) 47 #[.int .i64 0, .string ⟨#[]⟩, .int .i64 0, .int .i64 0, .int .i64 0] := heap_new_at' _ _ (by simp)
  have HZ := Lib.hid hz
  clear hz
  generalize ((w.alloc (.cells #[.int .i64 mi, .int .i64 ma, .slice aP nP kP, .int .i64 ac, .int .i64 th, .int .i64 su, vI, vF, vM] 27)).alloc (.cells #[.int .i64 0, .string ⟨#[]⟩, .int .i64 0, .int .i64 0, .int .i64 0] 47)) = W at *
  have c2 := HB.out.cell 2
  simp only [List.getElem?_toArray, List.getElem?_cons_succ, List.getElem?_cons_zero] at c2
  have KS : ∀ cs : Array Value, Kept w (W.setRow (w.heap.size + 1) cs) := fun cs => ⟨HK.out.os, HK.out.tape, HK.out.output, by have := HK.out.size; simpa using this, fun b hb => by rw [setRow_other _ _ _ _ (by omega)]; exact Below.block HK.out b hb⟩
  have HKS := Lib.hid KS
  clear KS
  have HLV : ∀ cs : Array Value, cs.size = 5 → (loadVar 47 ⟨w.heap.size + 1, 0, none⟩).run Try.prog (W.setRow (w.heap.size + 1) cs) = .ok (.agg cs) (W.setRow (w.heap.size + 1) cs) := fun cs hcs => run_loadVar_row (P := Try.prog) _ (w.heap.size + 1) 47 47 cs (0, 0) _ (setRow_heap _ _ _ _ _ _ HZ.out) Try.underlying47 rfl (by rw [hcs]; kernel_rfl)
  have HHL := Lib.hid HLV
  clear HLV
  by_cases h1 : n < 1
  · have HG : Hid (getC pool n tag = none) := Lib.hid (by unfold getC; rw [if_neg (by omega)])
    go_upto_region 2 with fail
    go_wp2_with (refine wpList_store_row rfl 47 _ _ rfl (w.heap.size + 1) #[.int .i64 0, .string ⟨#[]⟩, .int .i64 0, .int .i64 0, .int .i64 0] rfl (by rfl) 47 _ HZ.out (by kernel_rfl) (by rfl) (by kernel_rfl) ?_)
    have HL := HHL.out #[.int .i64 0, .string ⟨#[]⟩, .int .i64 0, .int .i64 0, .int .i64 0] rfl
    refine bodyPost_ret (v := .tuple #[.agg #[.int .i64 0, .string ⟨#[]⟩, .int .i64 0, .int .i64 0, .int .i64 0], .bool false]) ?_ rfl ?_
    · simp [results, Try.results40, asAddr, HL]
    · exact ⟨by rw [HG.out]; rfl, HKS.out _⟩
  by_cases h2 : (nP : Int) < n
  · have HG : Hid (getC pool n tag = none) := Lib.hid (by unfold getC; have := N1.out; rw [if_neg (by omega)])
    go_upto_region 2 with fail
    go_wp2_with (refine wpList_store_row rfl 47 _ _ rfl (w.heap.size + 1) #[.int .i64 0, .string ⟨#[]⟩, .int .i64 0, .int .i64 0, .int .i64 0] rfl (by rfl) 47 _ HZ.out (by kernel_rfl) (by rfl) (by kernel_rfl) ?_)
    have HL := HHL.out #[.int .i64 0, .string ⟨#[]⟩, .int .i64 0, .int .i64 0, .int .i64 0] rfl
    refine bodyPost_ret (v := .tuple #[.agg #[.int .i64 0, .string ⟨#[]⟩, .int .i64 0, .int .i64 0, .int .i64 0], .bool false]) ?_ rfl ?_
    · simp [results, Try.results40, asAddr, HL]
    · exact ⟨by rw [HG.out]; rfl, HKS.out _⟩
  obtain ⟨k, hk⟩ : ∃ k : Nat, n = (k : Int) + 1 := ⟨(n - 1).toNat, by omega⟩
  subst hk
  obtain ⟨x, hx⟩ : ∃ x, pool[k]? = some x := ⟨_, List.getElem?_eq_getElem (by have := N1.out; omega)⟩
  obtain ⟨b1, o1, d1, hv1, e0, e1, e2, e3, e4⟩ := const_cells N1.out HPP.out hx
  simp only [Value.slice.injEq] at hv1
  obtain ⟨rfl, -, rfl⟩ := hv1
  have hkI : (k : Int) < (nP : Int) := by omega
  have h0I : (0 : Int) ≤ (k : Int) := by omega
  have HGX := Lib.hid (show getC pool ((k : Int) + 1) tag = if x.tag = tag then some x else none by
    unfold getC
    have := N1.out
    rw [if_pos (by omega), show ((k : Int) + 1 - 1).toNat = k by omega, hx])
  clear hx
  by_cases h3 : x.tag = tag
  rotate_left
  · have HG : Hid (getC pool ((k : Int) + 1) tag = none) := Lib.hid (by rw [HGX.out, if_neg h3])
    have hne : (x.tag != tag) = true := by simpa using h3
    clear h3
    go_upto_region 2 with fail
    go_wp2_with (refine wpList_store_row rfl 47 _ _ rfl (w.heap.size + 1) #[.int .i64 0, .string ⟨#[]⟩, .int .i64 0, .int .i64 0, .int .i64 0] rfl (by rfl) 47 _ HZ.out (by kernel_rfl) (by rfl) (by kernel_rfl) ?_)
    have HL := HHL.out #[.int .i64 0, .string ⟨#[]⟩, .int .i64 0, .int .i64 0, .int .i64 0] rfl
    refine bodyPost_ret (v := .tuple #[.agg #[.int .i64 0, .string ⟨#[]⟩, .int .i64 0, .int .i64 0, .int .i64 0], .bool false]) ?_ rfl ?_
    · simp [results, Try.results40, asAddr, HL]
    · exact ⟨by rw [HG.out]; rfl, HKS.out _⟩
  subst h3
  have HG : Hid (getC pool ((k : Int) + 1) x.tag = some x) := Lib.hid (by rw [HGX.out, if_pos rfl])
  go_upto_region 3 with fail
  go_wp2_with (refine wpList_store_row rfl 47 _ _ rfl (w.heap.size + 1) #[.int .i64 x.tag, .string x.text, .int .i64 x.num, .int .i64 x.a, .int .i64 x.b] rfl (by rfl) 47 _ HZ.out (by kernel_rfl) (by rfl) (by kernel_rfl) ?_)
  have HL := HHL.out #[.int .i64 x.tag, .string x.text, .int .i64 x.num, .int .i64 x.a, .int .i64 x.b] rfl
  refine bodyPost_ret (v := .tuple #[.agg #[.int .i64 x.tag, .string x.text, .int .i64 x.num, .int .i64 x.a, .int .i64 x.b], .bool true]) ?_ rfl ?_
  · simp [results, Try.results40, asAddr, HL]
  · exact ⟨by rw [HG.out]; rfl, HKS.out _⟩

/-- The text of a Utf8. -/
def textC (pool : List ConstC) (n : Int) : ByteArray × Bool := (((getC pool n 1).getD zeroK).text, (getC pool n 1).isSome)
/-- The name of a class. -/
def nameC (pool : List ConstC) (n : Int) : ByteArray × Bool := if (getC pool n 7).isSome = true then textC pool ((getC pool n 7).getD zeroK).a else (⟨#[]⟩, false)
def TextG (r : ByteArray × Bool) (w : World) (e : Ending) (w' : World) : Prop := e = .returned (.tuple #[.string r.1, .bool r.2]) ∧ Kept w w'
set_option maxHeartbeats 4000000 in
theorem check_text (pool : List ConstC) (mi ma ac th su : Int) (vP vI vF vM : Value) (n : Int) (w : World) (hr : Rd w 5 vP pool.length (pool.flatMap encC)) :
    Calls Try.prog 34 #[.agg #[.int .i64 mi, .int .i64 ma, vP, .int .i64 ac, .int .i64 th, .int .i64 su, vI, vF, vM], .int .i64 n] w (TextG (textC pool n) w) := by
  have hk : Kept w (w.alloc (.cells #[.int .i64 mi, .int .i64 ma, vP, .int .i64 ac, .int .i64 th, .int .i64 su, vI, vF, vM] 74)) := (Below.refl _ _).alloc (Nat.le_refl _) _
  have HK := Lib.hid hk
  have C := check_at pool mi ma ac th su vP vI vF vM n 1 _ (hr.kept hk)
  have HB := Lib.hid (Blk.new w 74 #[.int .i64 mi, .int .i64 ma, vP, .int .i64 ac, .int .i64 th, .int .i64 su, vI, vF, vM])
  obtain ⟨x, hx⟩ : ∃ x, x = (getC pool n 1).getD zeroK := ⟨_, rfl⟩
  obtain ⟨ok, hok⟩ : ∃ b, b = (getC pool n 1).isSome := ⟨_, rfl⟩
  unfold AtG at C
  rw [← hx, ← hok] at C
  have HR := Lib.hid (show textC pool n = (x.text, ok) by unfold textC; rw [← hx, ← hok])
  clear hk hr hx hok
  go_enter Try.func34, Try.ntmps34
  go_upto_region 1 with fail
  generalize (w.alloc (.cells #[.int .i64 mi, .int .i64 ma, vP, .int .i64 ac, .int .i64 th, .int .i64 su, vI, vF, vM] 74)) = W at *
  have c0 := HB.out.cell 0
  have c1 := HB.out.cell 1
  have c2 := HB.out.cell 2
  have c3 := HB.out.cell 3
  have c4 := HB.out.cell 4
  have c5 := HB.out.cell 5
  have c6 := HB.out.cell 6
  have c7 := HB.out.cell 7
  have c8 := HB.out.cell 8
  simp only [List.getElem?_toArray, List.getElem?_cons_succ, List.getElem?_cons_zero] at c0 c1 c2 c3 c4 c5 c6 c7 c8
  go_wp2_with fail
  refine C.mono ?_
  rintro e w1 ⟨he, hk1⟩
  have he : e = .returned (.tuple #[.agg #[.int .i64 x.tag, .string x.text, .int .i64 x.num, .int .i64 x.a, .int .i64 x.b], .bool ok]) := he
  subst he
  have K1 := Lib.hid (Kept.trans HK.out hk1)
  clear hk1 C
  go_upto_region 2 with fail
  have hk2 : Kept w1 (w1.alloc (.cells #[.int .i64 x.tag, .string x.text, .int .i64 x.num, .int .i64 x.a, .int .i64 x.b] 47)) := (Below.refl _ _).alloc (Nat.le_refl _) _
  have HX := Lib.hid (Blk.new w1 47 #[.int .i64 x.tag, .string x.text, .int .i64 x.num, .int .i64 x.a, .int .i64 x.b])
  have K2 := Lib.hid (Kept.trans K1.out hk2)
  clear hk2
  generalize (w1.alloc (.cells #[.int .i64 x.tag, .string x.text, .int .i64 x.num, .int .i64 x.a, .int .i64 x.b] 47)) = w2 at *
  have x0 := HX.out.cell 0
  have x1 := HX.out.cell 1
  have x2 := HX.out.cell 2
  have x3 := HX.out.cell 3
  have x4 := HX.out.cell 4
  simp only [List.getElem?_toArray, List.getElem?_cons_succ, List.getElem?_cons_zero] at x0 x1 x2 x3 x4
  go_wp2_with fail
  go_returns
  exact ⟨by rw [HR.out]; rfl, K2.out⟩
set_option maxHeartbeats 4000000 in
theorem ref5_Utf (pool : List ConstC) (mi ma ac th su : Int) (vP vI vF vM : Value) (n : Int) (w : World) (hr : Rd w 5 vP pool.length (pool.flatMap encC)) :
    Calls Try.prog 39 #[.agg #[.int .i64 mi, .int .i64 ma, vP, .int .i64 ac, .int .i64 th, .int .i64 su, vI, vF, vM], .int .i64 n] w (TextG (textC pool n) w) := by
  have hk : Kept w (w.alloc (.cells #[.int .i64 mi, .int .i64 ma, vP, .int .i64 ac, .int .i64 th, .int .i64 su, vI, vF, vM] 27)) := (Below.refl _ _).alloc (Nat.le_refl _) _
  have HK := Lib.hid hk
  have C := ref5_get pool mi ma ac th su vP vI vF vM n 1 _ (hr.kept hk)
  have HB := Lib.hid (Blk.new w 27 #[.int .i64 mi, .int .i64 ma, vP, .int .i64 ac, .int .i64 th, .int .i64 su, vI, vF, vM])
  obtain ⟨x, hx⟩ : ∃ x, x = (getC pool n 1).getD zeroK := ⟨_, rfl⟩
  obtain ⟨ok, hok⟩ : ∃ b, b = (getC pool n 1).isSome := ⟨_, rfl⟩
  unfold AtG at C
  rw [← hx, ← hok] at C
  have HR := Lib.hid (show textC pool n = (x.text, ok) by unfold textC; rw [← hx, ← hok])
  clear hk hr hx hok
  go_enter Try.func39, Try.ntmps39
  go_upto_region 1 with fail
  generalize (w.alloc (.cells #[.int .i64 mi, .int .i64 ma, vP, .int .i64 ac, .int .i64 th, .int .i64 su, vI, vF, vM] 27)) = W at *
  have c0 := HB.out.cell 0
  have c1 := HB.out.cell 1
  have c2 := HB.out.cell 2
  have c3 := HB.out.cell 3
  have c4 := HB.out.cell 4
  have c5 := HB.out.cell 5
  have c6 := HB.out.cell 6
  have c7 := HB.out.cell 7
  have c8 := HB.out.cell 8
  simp only [List.getElem?_toArray, List.getElem?_cons_succ, List.getElem?_cons_zero] at c0 c1 c2 c3 c4 c5 c6 c7 c8
  go_wp2_with fail
  refine C.mono ?_
  rintro e w1 ⟨he, hk1⟩
  have he : e = .returned (.tuple #[.agg #[.int .i64 x.tag, .string x.text, .int .i64 x.num, .int .i64 x.a, .int .i64 x.b], .bool ok]) := he
  subst he
  have K1 := Lib.hid (Kept.trans HK.out hk1)
  clear hk1 C
  go_upto_region 2 with fail
  have hk2 : Kept w1 (w1.alloc (.cells #[.int .i64 x.tag, .string x.text, .int .i64 x.num, .int .i64 x.a, .int .i64 x.b] 47)) := (Below.refl _ _).alloc (Nat.le_refl _) _
  have HX := Lib.hid (Blk.new w1 47 #[.int .i64 x.tag, .string x.text, .int .i64 x.num, .int .i64 x.a, .int .i64 x.b])
  have K2 := Lib.hid (Kept.trans K1.out hk2)
  clear hk2
  generalize (w1.alloc (.cells #[.int .i64 x.tag, .string x.text, .int .i64 x.num, .int .i64 x.a, .int .i64 x.b] 47)) = w2 at *
  have x0 := HX.out.cell 0
  have x1 := HX.out.cell 1
  have x2 := HX.out.cell 2
  have x3 := HX.out.cell 3
  have x4 := HX.out.cell 4
  simp only [List.getElem?_toArray, List.getElem?_cons_succ, List.getElem?_cons_zero] at x0 x1 x2 x3 x4
  go_wp2_with fail
  go_returns
  exact ⟨by rw [HR.out]; rfl, K2.out⟩
set_option maxHeartbeats 4000000 in
theorem check_name (pool : List ConstC) (mi ma ac th su : Int) (vP vI vF vM : Value) (n : Int) (w : World) (hr : Rd w 5 vP pool.length (pool.flatMap encC)) :
    Calls Try.prog 33 #[.agg #[.int .i64 mi, .int .i64 ma, vP, .int .i64 ac, .int .i64 th, .int .i64 su, vI, vF, vM], .int .i64 n] w (TextG (nameC pool n) w) := by
  have hk : Kept w (w.alloc (.cells #[.int .i64 mi, .int .i64 ma, vP, .int .i64 ac, .int .i64 th, .int .i64 su, vI, vF, vM] 74)) := (Below.refl _ _).alloc (Nat.le_refl _) _
  have HK := Lib.hid hk
  have HRD := Lib.hid hr
  have C := check_at pool mi ma ac th su vP vI vF vM n 7 _ (hr.kept hk)
  have HB := Lib.hid (Blk.new w 74 #[.int .i64 mi, .int .i64 ma, vP, .int .i64 ac, .int .i64 th, .int .i64 su, vI, vF, vM])
  obtain ⟨x, hx⟩ : ∃ x, x = (getC pool n 7).getD zeroK := ⟨_, rfl⟩
  obtain ⟨ok, hok⟩ : ∃ b, b = (getC pool n 7).isSome := ⟨_, rfl⟩
  unfold AtG at C
  rw [← hx, ← hok] at C
  have HR := Lib.hid (show nameC pool n = if ok = true then textC pool x.a else (⟨#[]⟩, false) by unfold nameC; rw [← hx, ← hok])
  clear hk hr hx hok
  go_enter Try.func33, Try.ntmps33
  go_upto_region 1 with fail
  generalize (w.alloc (.cells #[.int .i64 mi, .int .i64 ma, vP, .int .i64 ac, .int .i64 th, .int .i64 su, vI, vF, vM] 74)) = W at *
  have c0 := HB.out.cell 0
  have c1 := HB.out.cell 1
  have c2 := HB.out.cell 2
  have c3 := HB.out.cell 3
  have c4 := HB.out.cell 4
  have c5 := HB.out.cell 5
  have c6 := HB.out.cell 6
  have c7 := HB.out.cell 7
  have c8 := HB.out.cell 8
  simp only [List.getElem?_toArray, List.getElem?_cons_succ, List.getElem?_cons_zero] at c0 c1 c2 c3 c4 c5 c6 c7 c8
  go_wp2_with fail
  refine C.mono ?_
  rintro e w1 ⟨he, hk1⟩
  have he : e = .returned (.tuple #[.agg #[.int .i64 x.tag, .string x.text, .int .i64 x.num, .int .i64 x.a, .int .i64 x.b], .bool ok]) := he
  subst he
  have K1 := Lib.hid (Kept.trans HK.out hk1)
  have HB1 := Lib.hid (HB.out.kept hk1)
  clear hk1 C
  go_upto_region 2 with fail
  have hk2 : Kept w1 (w1.alloc (.cells #[.int .i64 x.tag, .string x.text, .int .i64 x.num, .int .i64 x.a, .int .i64 x.b] 47)) := (Below.refl _ _).alloc (Nat.le_refl _) _
  have HX := Lib.hid (Blk.new w1 47 #[.int .i64 x.tag, .string x.text, .int .i64 x.num, .int .i64 x.a, .int .i64 x.b])
  have K2 := Lib.hid (Kept.trans K1.out hk2)
  have HB2 := Lib.hid (HB1.out.kept hk2)
  clear hk2
  generalize (w1.alloc (.cells #[.int .i64 x.tag, .string x.text, .int .i64 x.num, .int .i64 x.a, .int .i64 x.b] 47)) = w2 at *
  have x0 := HX.out.cell 0
  have x1 := HX.out.cell 1
  have x2 := HX.out.cell 2
  have x3 := HX.out.cell 3
  have x4 := HX.out.cell 4
  simp only [List.getElem?_toArray, List.getElem?_cons_succ, List.getElem?_cons_zero] at x0 x1 x2 x3 x4
  have d0 := HB2.out.cell 0
  have d1 := HB2.out.cell 1
  have d2 := HB2.out.cell 2
  have d3 := HB2.out.cell 3
  have d4 := HB2.out.cell 4
  have d5 := HB2.out.cell 5
  have d6 := HB2.out.cell 6
  have d7 := HB2.out.cell 7
  have d8 := HB2.out.cell 8
  simp only [List.getElem?_toArray, List.getElem?_cons_succ, List.getElem?_cons_zero] at d0 d1 d2 d3 d4 d5 d6 d7 d8
  cases ok
  · go_wp2_with fail
    go_returns
    exact ⟨by rw [HR.out]; rfl, K2.out⟩
  have C := check_text pool mi ma ac th su vP vI vF vM x.a w2 (HRD.out.kept K2.out)
  go_wp2_with fail
  refine C.mono ?_
  rintro e w3 ⟨rfl, hk3⟩
  have K3 := Lib.hid (Kept.trans K2.out hk3)
  clear hk3 C
  go_wp2_with fail
  go_returns
  exact ⟨by rw [HR.out]; rfl, K3.out⟩
set_option maxHeartbeats 4000000 in
theorem ref5_Name (pool : List ConstC) (mi ma ac th su : Int) (vP vI vF vM : Value) (n : Int) (w : World) (hr : Rd w 5 vP pool.length (pool.flatMap encC)) :
    Calls Try.prog 27 #[.agg #[.int .i64 mi, .int .i64 ma, vP, .int .i64 ac, .int .i64 th, .int .i64 su, vI, vF, vM], .int .i64 n] w (TextG (nameC pool n) w) := by
  have hk : Kept w (w.alloc (.cells #[.int .i64 mi, .int .i64 ma, vP, .int .i64 ac, .int .i64 th, .int .i64 su, vI, vF, vM] 27)) := (Below.refl _ _).alloc (Nat.le_refl _) _
  have HK := Lib.hid hk
  have HRD := Lib.hid hr
  have C := ref5_get pool mi ma ac th su vP vI vF vM n 7 _ (hr.kept hk)
  have HB := Lib.hid (Blk.new w 27 #[.int .i64 mi, .int .i64 ma, vP, .int .i64 ac, .int .i64 th, .int .i64 su, vI, vF, vM])
  obtain ⟨x, hx⟩ : ∃ x, x = (getC pool n 7).getD zeroK := ⟨_, rfl⟩
  obtain ⟨ok, hok⟩ : ∃ b, b = (getC pool n 7).isSome := ⟨_, rfl⟩
  unfold AtG at C
  rw [← hx, ← hok] at C
  have HR := Lib.hid (show nameC pool n = if ok = true then textC pool x.a else (⟨#[]⟩, false) by unfold nameC; rw [← hx, ← hok])
  clear hk hr hx hok
  go_enter Try.func27, Try.ntmps27
  go_upto_region 1 with fail
  generalize (w.alloc (.cells #[.int .i64 mi, .int .i64 ma, vP, .int .i64 ac, .int .i64 th, .int .i64 su, vI, vF, vM] 27)) = W at *
  have c0 := HB.out.cell 0
  have c1 := HB.out.cell 1
  have c2 := HB.out.cell 2
  have c3 := HB.out.cell 3
  have c4 := HB.out.cell 4
  have c5 := HB.out.cell 5
  have c6 := HB.out.cell 6
  have c7 := HB.out.cell 7
  have c8 := HB.out.cell 8
  simp only [List.getElem?_toArray, List.getElem?_cons_succ, List.getElem?_cons_zero] at c0 c1 c2 c3 c4 c5 c6 c7 c8
  go_wp2_with fail
  refine C.mono ?_
  rintro e w1 ⟨he, hk1⟩
  have he : e = .returned (.tuple #[.agg #[.int .i64 x.tag, .string x.text, .int .i64 x.num, .int .i64 x.a, .int .i64 x.b], .bool ok]) := he
  subst he
  have K1 := Lib.hid (Kept.trans HK.out hk1)
  have HB1 := Lib.hid (HB.out.kept hk1)
  clear hk1 C
  go_upto_region 2 with fail
  have hk2 : Kept w1 (w1.alloc (.cells #[.int .i64 x.tag, .string x.text, .int .i64 x.num, .int .i64 x.a, .int .i64 x.b] 47)) := (Below.refl _ _).alloc (Nat.le_refl _) _
  have HX := Lib.hid (Blk.new w1 47 #[.int .i64 x.tag, .string x.text, .int .i64 x.num, .int .i64 x.a, .int .i64 x.b])
  have K2 := Lib.hid (Kept.trans K1.out hk2)
  have HB2 := Lib.hid (HB1.out.kept hk2)
  clear hk2
  generalize (w1.alloc (.cells #[.int .i64 x.tag, .string x.text, .int .i64 x.num, .int .i64 x.a, .int .i64 x.b] 47)) = w2 at *
  have x0 := HX.out.cell 0
  have x1 := HX.out.cell 1
  have x2 := HX.out.cell 2
  have x3 := HX.out.cell 3
  have x4 := HX.out.cell 4
  simp only [List.getElem?_toArray, List.getElem?_cons_succ, List.getElem?_cons_zero] at x0 x1 x2 x3 x4
  have d0 := HB2.out.cell 0
  have d1 := HB2.out.cell 1
  have d2 := HB2.out.cell 2
  have d3 := HB2.out.cell 3
  have d4 := HB2.out.cell 4
  have d5 := HB2.out.cell 5
  have d6 := HB2.out.cell 6
  have d7 := HB2.out.cell 7
  have d8 := HB2.out.cell 8
  simp only [List.getElem?_toArray, List.getElem?_cons_succ, List.getElem?_cons_zero] at d0 d1 d2 d3 d4 d5 d6 d7 d8
  cases ok
  · go_wp2_with fail
    go_returns
    exact ⟨by rw [HR.out]; rfl, K2.out⟩
  have C := ref5_Utf pool mi ma ac th su vP vI vF vM x.a w2 (HRD.out.kept K2.out)
  go_wp2_with fail
  refine C.mono ?_
  rintro e w3 ⟨rfl, hk3⟩
  have K3 := Lib.hid (Kept.trans K2.out hk3)
  clear hk3 C
  go_wp2_with fail
  go_returns
  exact ⟨by rw [HR.out]; rfl, K3.out⟩
end Go.Proofs.Ytcklmhbcjgiplaa
