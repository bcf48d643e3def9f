/-
  Several texts in one: XCkZ XCl0.
-/
import Derived.Test.YtcklmhbcjgiplaaCkY
namespace Go.Proofs.Ytcklmhbcjgiplaa
set_option linter.unusedVariables false
set_option linter.unusedSimpArgs false
open Go.RowKit
set_option maxRecDepth 100000

/-- A class without members. -/
def bareC (mi ma ac th su : Int) (pool : List ConstC) : ClassC := ⟨mi, ma, pool, ac, th, su, [], [], []⟩
theorem bare_rd {mi ma ac th su : Int} {pool : List ConstC} {vP : Value} {w : World} (h : Rd w 5 vP pool.length (pool.flatMap encC)) : CRd w (bareC mi ma ac th su pool) [] vP (.slice none 0 0) (.slice none 0 0) (.slice none 0 0) :=
  ⟨h, Rd.nil, Rd.nil, Rd.nil, fun x hx => by simp at hx, rfl⟩
set_option maxHeartbeats 8000000 in
theorem check_Outline0 (mi ma ac th su : Int) (pool : List ConstC) (vP : Value) (w : World) (hr : Rd w 5 vP pool.length (pool.flatMap encC)) (hs : ∀ k ∈ pool, k.text.size ≤ maxLen) (hc : checkE (bareC mi ma ac th su pool) = 0) :
    Calls Try.prog 17 #[.agg #[.int .i64 mi, .int .i64 ma, vP, .int .i64 ac, .int .i64 th, .int .i64 su, .slice none 0 0, .slice none 0 0, .slice none 0 0]] w fun e w' => e = .returned (.tuple #[.agg #[.string (nameC pool th).1, .string (nameC pool su).1, .int .i64 ac, .slice none 0 0, .slice none 0 0, .slice none 0 0], .int .i64 0]) ∧ Kept w w' := by
  obtain ⟨nP, hnP⟩ : ∃ n, n = pool.length := ⟨_, rfl⟩
  have hr0 := hr
  rw [← hnP] at hr0
  obtain ⟨_, aP, kP, rfl, -, -, -⟩ := id hr0
  have hk : Kept w ((w.alloc (.cells #[.int .i64 mi, .int .i64 ma, .slice aP nP kP, .int .i64 ac, .int .i64 th, .int .i64 su, .slice none 0 0, .slice none 0 0, .slice none 0 0] 27)).alloc (.cells #[.string ⟨#[]⟩, .string ⟨#[]⟩, .int .i64 0, .slice none 0 0, .slice none 0 0, .slice none 0 0] 36)) := ((Below.refl _ _).alloc (Nat.le_refl _) _).alloc (by simp) _
  have HK := Lib.hid hk
  have HB := Lib.hid ((Blk.new w 27 #[.int .i64 mi, .int .i64 ma, .slice aP nP kP, .int .i64 ac, .int .i64 th, .int .i64 su, .slice none 0 0, .slice none 0 0, .slice none 0 0]).alloc (.cells #[.string ⟨#[]⟩, .string ⟨#[]⟩, .int .i64 0, .slice none 0 0, .slice none 0 0, .slice none 0 0] 36))
  have HZ : Hid (Blk ((w.alloc (.cells #[.int .i64 mi, .int .i64 ma, .slice aP nP kP, .int .i64 ac, .int .i64 th, .int .i64 su, .slice none 0 0, .slice none 0 0, .slice none 0 0] 27)).alloc (.cells #[.string ⟨#[]⟩, .string ⟨#[]⟩, .int .i64 0, .slice none 0 0, .slice none 0 0, .slice none 0 0] 36)) (w.heap.size + 1) 36 #[.string ⟨#[]⟩, .string ⟨#[]⟩, .int .i64 0, .slice none 0 0, .slice none 0 0, .slice none 0 0]) := Lib.hid (heap_new_at' _ _ (by simp))
  have C := check_Check (bareC mi ma ac th su pool) [] (.slice aP nP kP) (.slice none 0 0) (.slice none 0 0) (.slice none 0 0) _ (bare_rd (hr.kept hk)) hs
  unfold IntG at C
  rw [hc] at C
  have C1 := fun (W : World) (h : Kept w W) => check_name pool mi ma ac th su (.slice aP nP kP) (.slice none 0 0) (.slice none 0 0) (.slice none 0 0) th W (hr.kept h)
  have C2 := fun (W : World) (h : Kept w W) => check_name pool mi ma ac th su (.slice aP nP kP) (.slice none 0 0) (.slice none 0 0) (.slice none 0 0) su W (hr.kept h)
  unfold TextG at C1 C2
  obtain ⟨s1, h1⟩ : ∃ s, s = (nameC pool th).1 := ⟨_, rfl⟩
  obtain ⟨o1, h2⟩ : ∃ s, s = (nameC pool th).2 := ⟨_, rfl⟩
  obtain ⟨s2, h3⟩ : ∃ s, s = (nameC pool su).1 := ⟨_, rfl⟩
  obtain ⟨o2, h4⟩ : ∃ s, s = (nameC pool su).2 := ⟨_, rfl⟩
  rw [← h1, ← h2] at C1
  rw [← h3, ← h4] at C2
  rw [← h1, ← h3]
  have HC1 := Lib.hid C1
  have HC2 := Lib.hid C2
  obtain ⟨gz, hgz⟩ : ∃ g, g = w.heap.size + 1 := ⟨_, rfl⟩
  have HGZ := Lib.hid (show w.heap.size ≤ gz by omega)
  clear hk hr hr0 hs hc h1 h2 h3 h4 C1 C2 hnP
  go_enter Try.func17, Try.ntmps17
  go_upto_region 1 with fail
  rw [← hgz] at HZ ⊢
  generalize ((w.alloc (.cells #[.int .i64 mi, .int .i64 ma, .slice aP nP kP, .int .i64 ac, .int .i64 th, .int .i64 su, .slice none 0 0, .slice none 0 0, .slice none 0 0] 27)).alloc (.cells #[.string ⟨#[]⟩, .string ⟨#[]⟩, .int .i64 0, .slice none 0 0, .slice none 0 0, .slice none 0 0] 36)) = W at *
  clear hgz
  have c0 := HB.out.cell 0
  have c1 := HB.out.cell 1
  have c2 := HB.out.cell 2
  have c3 := HB.out.cell 3
  have c4 := HB.out.cell 4
  have c5 := HB.out.cell 5
  have c6 := HB.out.cell 6
  have c7 := HB.out.cell 7
  have c8 := HB.out.cell 8
  simp only [List.getElem?_toArray, List.getElem?_cons_succ, List.getElem?_cons_zero] at c0 c1 c2 c3 c4 c5 c6 c7 c8
  go_wp2_with fail
  refine C.mono ?_
  rintro e w1 ⟨rfl, hk1⟩
  have K1 := Lib.hid (Kept.trans HK.out hk1)
  have HB1 := Lib.hid (HB.out.kept hk1)
  have HZ1 := Lib.hid (HZ.out.kept hk1)
  clear hk1 C
  have d0 := HB1.out.cell 0
  have d1 := HB1.out.cell 1
  have d2 := HB1.out.cell 2
  have d3 := HB1.out.cell 3
  have d4 := HB1.out.cell 4
  have d5 := HB1.out.cell 5
  have d6 := HB1.out.cell 6
  have d7 := HB1.out.cell 7
  have d8 := HB1.out.cell 8
  simp only [List.getElem?_toArray, List.getElem?_cons_succ, List.getElem?_cons_zero] at d0 d1 d2 d3 d4 d5 d6 d7 d8
  go_upto_region 5 with fail
  have hk2 : Kept w1 (w1.alloc (.cells #[.int .i64 mi, .int .i64 ma, .slice aP nP kP, .int .i64 ac, .int .i64 th, .int .i64 su, .slice none 0 0, .slice none 0 0, .slice none 0 0] 74)) := (Below.refl _ _).alloc (Nat.le_refl _) _
  obtain ⟨gb, hgb⟩ : ∃ g, g = w1.heap.size := ⟨_, rfl⟩
  have K2 := Lib.hid (Kept.trans K1.out hk2)
  have HB2 := Lib.hid (HB1.out.kept hk2)
  have HZ2 := Lib.hid (HZ1.out.kept hk2)
  have HG2 := Lib.hid (Blk.new w1 74 #[.int .i64 mi, .int .i64 ma, .slice aP nP kP, .int .i64 ac, .int .i64 th, .int .i64 su, .slice none 0 0, .slice none 0 0, .slice none 0 0])
  rw [← hgb] at HG2 ⊢
  clear hk2
  generalize (w1.alloc (.cells #[.int .i64 mi, .int .i64 ma, .slice aP nP kP, .int .i64 ac, .int .i64 th, .int .i64 su, .slice none 0 0, .slice none 0 0, .slice none 0 0] 74)) = w2 at *
  clear hgb
  have f0 := HB2.out.cell 0
  have f1 := HB2.out.cell 1
  have f2 := HB2.out.cell 2
  have f3 := HB2.out.cell 3
  have f4 := HB2.out.cell 4
  have f5 := HB2.out.cell 5
  have f6 := HB2.out.cell 6
  have f7 := HB2.out.cell 7
  have f8 := HB2.out.cell 8
  simp only [List.getElem?_toArray, List.getElem?_cons_succ, List.getElem?_cons_zero] at f0 f1 f2 f3 f4 f5 f6 f7 f8
  go_upto_region 6 with fail
  have hk3 : Kept w2 (w2.alloc (.cells #[.string ⟨#[]⟩, .string ⟨#[]⟩, .int .i64 ac, .slice none 0 0, .slice none 0 0, .slice none 0 0] 36)) := (Below.refl _ _).alloc (Nat.le_refl _) _
  obtain ⟨gt, hgt⟩ : ∃ g, g = w2.heap.size := ⟨_, rfl⟩
  have K3 := Lib.hid (Kept.trans K2.out hk3)
  have HB3 := Lib.hid (HB2.out.kept hk3)
  have HZ3 := Lib.hid (HZ2.out.kept hk3)
  have HG3 := Lib.hid (HG2.out.kept hk3)
  have HT3 := Lib.hid (Blk.new w2 36 #[.string ⟨#[]⟩, .string ⟨#[]⟩, .int .i64 ac, .slice none 0 0, .slice none 0 0, .slice none 0 0])
  have HGT := Lib.hid (show w.heap.size ≤ gt by rw [hgt]; exact K2.out.size)
  have hlt1 := HZ2.out.lt
  have hlt2 := HB2.out.lt
  have hlt3 := HG2.out.lt
  rw [← hgt] at HT3 hlt1 hlt2 hlt3 ⊢
  have HN1 := Lib.hid (show gz ≠ gt by omega)
  have HN2 := Lib.hid (show w.heap.size ≠ gt by omega)
  have HN3 := Lib.hid (show gb ≠ gt by omega)
  clear hk3 hlt1 hlt2 hlt3
  generalize (w2.alloc (.cells #[.string ⟨#[]⟩, .string ⟨#[]⟩, .int .i64 ac, .slice none 0 0, .slice none 0 0, .slice none 0 0] 36)) = w3 at *
  clear hgt
  have j0 := HB3.out.cell 0
  have j1 := HB3.out.cell 1
  have j2 := HB3.out.cell 2
  have j3 := HB3.out.cell 3
  have j4 := HB3.out.cell 4
  have j5 := HB3.out.cell 5
  have j6 := HB3.out.cell 6
  have j7 := HB3.out.cell 7
  have j8 := HB3.out.cell 8
  simp only [List.getElem?_toArray, List.getElem?_cons_succ, List.getElem?_cons_zero] at j0 j1 j2 j3 j4 j5 j6 j7 j8
  have q0 := HG3.out.cell 0
  have q1 := HG3.out.cell 1
  have q2 := HG3.out.cell 2
  have q3 := HG3.out.cell 3
  have q4 := HG3.out.cell 4
  have q5 := HG3.out.cell 5
  have q6 := HG3.out.cell 6
  have q7 := HG3.out.cell 7
  have q8 := HG3.out.cell 8
  simp only [List.getElem?_toArray, List.getElem?_cons_succ, List.getElem?_cons_zero] at q0 q1 q2 q3 q4 q5 q6 q7 q8
  have t0 := HT3.out.cell 0
  have t1 := HT3.out.cell 1
  have t2 := HT3.out.cell 2
  have t3 := HT3.out.cell 3
  have t4 := HT3.out.cell 4
  have t5 := HT3.out.cell 5
  simp only [List.getElem?_toArray, List.getElem?_cons_succ, List.getElem?_cons_zero] at t0 t1 t2 t3 t4 t5
  have tf0 := HT3.out.frozen 0
  have C := HC1.out w3 K3.out
  go_wp2_with fail
  refine C.mono ?_
  rintro e w4 ⟨rfl, hk4⟩
  have K4 := Lib.hid (Kept.trans K3.out hk4)
  have HB4 := Lib.hid (HB3.out.kept hk4)
  have HZ4 := Lib.hid (HZ3.out.kept hk4)
  have HG4 := Lib.hid (HG3.out.kept hk4)
  have HT4 := Lib.hid (HT3.out.kept hk4)
  clear hk4 C tf0
  have t0 := HT4.out.cell 0
  have t1 := HT4.out.cell 1
  have t2 := HT4.out.cell 2
  have t3 := HT4.out.cell 3
  have t4 := HT4.out.cell 4
  have t5 := HT4.out.cell 5
  simp only [List.getElem?_toArray, List.getElem?_cons_succ, List.getElem?_cons_zero] at t0 t1 t2 t3 t4 t5
  have tf0 := HT4.out.frozen 0
  go_upto_region 7 with fail
  have K5 := Lib.hid (K4.out.setCell (p := ⟨gt, 0, none⟩) HGT.out (.string s1))
  have HB5 := Lib.hid (HB4.out.far (p := ⟨gt, 0, none⟩) HN2.out (.string s1))
  have HZ5 := Lib.hid (HZ4.out.far (p := ⟨gt, 0, none⟩) HN1.out (.string s1))
  have HG5 := Lib.hid (HG4.out.far (p := ⟨gt, 0, none⟩) HN3.out (.string s1))
  have HT5 : Hid (Blk (w4.setCell ⟨gt, 0, none⟩ (.string s1)) gt 36 #[.string s1, .string ⟨#[]⟩, .int .i64 ac, .slice none 0 0, .slice none 0 0, .slice none 0 0]) := Lib.hid (HT4.out.set_ 0 (.string s1))
  clear tf0
  generalize (w4.setCell ⟨gt, 0, none⟩ (.string s1)) = w5 at *
  have j0 := HB5.out.cell 0
  have j1 := HB5.out.cell 1
  have j2 := HB5.out.cell 2
  have j3 := HB5.out.cell 3
  have j4 := HB5.out.cell 4
  have j5 := HB5.out.cell 5
  have j6 := HB5.out.cell 6
  have j7 := HB5.out.cell 7
  have j8 := HB5.out.cell 8
  simp only [List.getElem?_toArray, List.getElem?_cons_succ, List.getElem?_cons_zero] at j0 j1 j2 j3 j4 j5 j6 j7 j8
  have q0 := HG5.out.cell 0
  have q1 := HG5.out.cell 1
  have q2 := HG5.out.cell 2
  have q3 := HG5.out.cell 3
  have q4 := HG5.out.cell 4
  have q5 := HG5.out.cell 5
  have q6 := HG5.out.cell 6
  have q7 := HG5.out.cell 7
  have q8 := HG5.out.cell 8
  simp only [List.getElem?_toArray, List.getElem?_cons_succ, List.getElem?_cons_zero] at q0 q1 q2 q3 q4 q5 q6 q7 q8
  have t0 := HT5.out.cell 0
  have t1 := HT5.out.cell 1
  have t2 := HT5.out.cell 2
  have t3 := HT5.out.cell 3
  have t4 := HT5.out.cell 4
  have t5 := HT5.out.cell 5
  simp only [List.getElem?_toArray, List.getElem?_cons_succ, List.getElem?_cons_zero] at t0 t1 t2 t3 t4 t5
  have C := HC2.out w5 K5.out
  go_wp2_with fail
  refine C.mono ?_
  rintro e w6 ⟨rfl, hk6⟩
  have K6 := Lib.hid (Kept.trans K5.out hk6)
  have HB6 := Lib.hid (HB5.out.kept hk6)
  have HZ6 := Lib.hid (HZ5.out.kept hk6)
  have HT6 := Lib.hid (HT5.out.kept hk6)
  clear hk6 C
  have t0 := HT6.out.cell 0
  have t1 := HT6.out.cell 1
  have t2 := HT6.out.cell 2
  have t3 := HT6.out.cell 3
  have t4 := HT6.out.cell 4
  have t5 := HT6.out.cell 5
  simp only [List.getElem?_toArray, List.getElem?_cons_succ, List.getElem?_cons_zero] at t0 t1 t2 t3 t4 t5
  have tf1 := HT6.out.frozen 1
  go_upto_region 8 with fail
  have K7 := Lib.hid (K6.out.setCell (p := ⟨gt, 1, none⟩) HGT.out (.string s2))
  have HB7 := Lib.hid (HB6.out.far (p := ⟨gt, 1, none⟩) HN2.out (.string s2))
  have HZ7 := Lib.hid (HZ6.out.far (p := ⟨gt, 1, none⟩) HN1.out (.string s2))
  have HT7 : Hid (Blk (w6.setCell ⟨gt, 1, none⟩ (.string s2)) gt 36 #[.string s1, .string s2, .int .i64 ac, .slice none 0 0, .slice none 0 0, .slice none 0 0]) := Lib.hid (HT6.out.set_ 1 (.string s2))
  clear tf1
  generalize (w6.setCell ⟨gt, 1, none⟩ (.string s2)) = w7 at *
  have j0 := HB7.out.cell 0
  have j1 := HB7.out.cell 1
  have j2 := HB7.out.cell 2
  have j3 := HB7.out.cell 3
  have j4 := HB7.out.cell 4
  have j5 := HB7.out.cell 5
  have j6 := HB7.out.cell 6
  have j7 := HB7.out.cell 7
  have j8 := HB7.out.cell 8
  simp only [List.getElem?_toArray, List.getElem?_cons_succ, List.getElem?_cons_zero] at j0 j1 j2 j3 j4 j5 j6 j7 j8
  have t0 := HT7.out.cell 0
  have t1 := HT7.out.cell 1
  have t2 := HT7.out.cell 2
  have t3 := HT7.out.cell 3
  have t4 := HT7.out.cell 4
  have t5 := HT7.out.cell 5
  simp only [List.getElem?_toArray, List.getElem?_cons_succ, List.getElem?_cons_zero] at t0 t1 t2 t3 t4 t5
  have KS : ∀ cs : Array Value, Kept w (w7.setRow gz cs) := fun cs => kept_setRow K7.out HGZ.out cs
  have HKS := Lib.hid KS
  clear KS
  have HLV : ∀ cs : Array Value, cs.size = 6 → (loadVar 36 ⟨gz, 0, none⟩).run Try.prog (w7.setRow gz cs) = .ok (.agg cs) (w7.setRow gz cs) := fun cs hcs => run_loadVar_row (P := Try.prog) _ gz 36 36 cs (0, 0) _ (setRow_heap _ _ _ _ _ _ HZ7.out) Try.underlying36 rfl (by rw [hcs]; kernel_rfl)
  have HL := Lib.hid (HLV #[.string s1, .string s2, .int .i64 ac, .slice none 0 0, .slice none 0 0, .slice none 0 0] rfl)
  clear HLV
  go_wp2_with fail
  go_loopw [55] (fun s wr => s = .int .i64 0 ∧ wr = w7) (fun _ _ => 0)
  case atStart => exact ⟨rfl, rfl⟩
  case round =>
  obtain ⟨rfl, rfl⟩ := hrel
  go_wp2_with fail
  go_loopw [75] (fun s w8 => s = .int .i64 0 ∧ w8 = wr) (fun _ _ => 0)
  case atStart => exact ⟨rfl, rfl⟩
  case round =>
  obtain ⟨rfl, rfl⟩ := hrel
  go_wp2_with fail
  go_loopw [121] (fun s w8 => s = .int .i64 0 ∧ w8 = wr) (fun _ _ => 0)
  case atStart => exact ⟨rfl, rfl⟩
  case round =>
  obtain ⟨rfl, rfl⟩ := hrel
  go_upto_region 29 with fail
  go_wp2_with (refine wpList_store_row rfl 36 _ _ rfl gz #[.string s1, .string s2, .int .i64 ac, .slice none 0 0, .slice none 0 0, .slice none 0 0] rfl (by rfl) 36 _ HZ7.out (by kernel_rfl) (by rfl) (by kernel_rfl) ?_)
  have HL2 := HL.out
  refine bodyPost_ret (v := .tuple #[.agg #[.string s1, .string s2, .int .i64 ac, .slice none 0 0, .slice none 0 0, .slice none 0 0], .int .i64 0]) ?_ rfl ?_
  · simp [results, Try.results17, asAddr, HL2]
  · exact ⟨rfl, HKS.out _⟩
end Go.Proofs.Ytcklmhbcjgiplaa

namespace Go.Proofs.Ytcklmhbcjgiplaa
set_option linter.unusedVariables false
set_option linter.unusedSimpArgs false
open Go.RowKit
set_option maxRecDepth 100000

def smallK : ClassC := ⟨0, 52, [⟨1, ⟨#[65]⟩, 0, 0, 0⟩, ⟨7, ⟨#[]⟩, 0, 1, 0⟩, ⟨1, ⟨#[106, 97, 118, 97, 47, 108, 97, 110, 103, 47, 79, 98, 106, 101, 99, 116]⟩, 0, 0, 0⟩, ⟨7, ⟨#[]⟩, 0, 3, 0⟩], 33, 2, 4, [], [], []⟩
set_option maxHeartbeats 2000000 in
theorem law5_small (w : World) : Calls Try.prog 23 #[] w fun e w' => ∃ vP, e = .returned (.agg (classV smallK vP (.slice none 0 0) (.slice none 0 0) (.slice none 0 0)).toArray) ∧ w'.ownsRow w.heap.size 47 5 vP 4 (smallK.pool.flatMap encC) ∧ Kept w w' := by
  go_enter Try.func23, Try.ntmps23
  go_wp2_with fail
  have hB : Blk ((w.alloc (.cells #[.int .i64 0, .int .i64 52, .slice (some ⟨w.heap.size + 1, 0, none⟩) 4 4, .int .i64 33, .int .i64 2, .int .i64 4, .slice none 0 0, .slice none 0 0, .slice none 0 0] 27)).alloc (.cells #[.int .i64 1, .string ⟨#[65]⟩, .int .i64 0, .int .i64 0, .int .i64 0, .int .i64 7, .string ⟨#[]⟩, .int .i64 0, .int .i64 1, .int .i64 0, .int .i64 1, .string ⟨#[106, 97, 118, 97, 47, 108, 97, 110, 103, 47, 79, 98, 106, 101, 99, 116]⟩, .int .i64 0, .int .i64 0, .int .i64 0, .int .i64 7, .string ⟨#[]⟩, .int .i64 0, .int .i64 3, .int .i64 0] 47)) w.heap.size 27 #[.int .i64 0, .int .i64 52, .slice (some ⟨w.heap.size + 1, 0, none⟩) 4 4, .int .i64 33, .int .i64 2, .int .i64 4, .slice none 0 0, .slice none 0 0, .slice none 0 0] := (Blk.new _ _ _).alloc _
  have HLV := run_loadVar_row (P := Try.prog) _ w.heap.size 27 27 _ (0, 0) _ hB Try.underlying27 rfl (by kernel_rfl)
  refine bodyPost_ret (v := .agg #[.int .i64 0, .int .i64 52, .slice (some ⟨w.heap.size + 1, 0, none⟩) 4 4, .int .i64 33, .int .i64 2, .int .i64 4, .slice none 0 0, .slice none 0 0, .slice none 0 0]) ?_ rfl ?_
  · simp [results, Try.results23, asAddr, HLV]
  · refine ⟨.slice (some ⟨w.heap.size + 1, 0, none⟩) 4 4, rfl, ⟨rfl, .inr ⟨w.heap.size + 1, 4, (smallK.pool.flatMap encC).toArray, rfl, by omega, ?_, Nat.le_refl _, by decide, rfl, rfl⟩⟩, ((Below.refl _ _).alloc (Nat.le_refl _) _).alloc (by simp) _⟩
    exact heap_new_at' _ _ (by simp)
theorem law5_num (n : Int) (w : World) : Calls Try.prog 21 #[.int .i64 n] w fun e w' => e = .returned (.int .i64 n) ∧ w = w' := by
  go_enter Try.func21, Try.ntmps21
  go_wp2
  go_ret
  exact ⟨rfl, rfl⟩
theorem smallK_text : ∀ k ∈ smallK.pool, k.text.size ≤ maxLen := by
  intro k hk
  have h : k.text.size ≤ 16 := by
    simp only [smallK, List.mem_cons, List.not_mem_nil, or_false] at hk
    rcases hk with rfl | rfl | rfl | rfl <;> decide
  exact Nat.le_trans h (by unfold maxLen; omega)
theorem small_check : checkE (bareC 0 52 33 2 4 smallK.pool) = 0 := by decide +kernel
theorem small_n1 : (nameC smallK.pool 2).1 = ⟨#[65]⟩ := by decide +kernel
theorem small_n2 : (nameC smallK.pool 4).1 = ⟨#[106, 97, 118, 97, 47, 108, 97, 110, 103, 47, 79, 98, 106, 101, 99, 116]⟩ := by decide +kernel
theorem zero_check : checkE (bareC 0 0 0 0 0 []) = 12 := by decide +kernel
set_option maxHeartbeats 4000000 in
theorem alive5 (w : World) : Calls Try.prog 13 #[] w fun e w' => e = .returned (.bool true) ∧ Kept w w' := by
  go_enter Try.func13, Try.ntmps13
  go_wp2_with fail
  refine (law5_small w).mono ?_
  rintro e w1 ⟨vP, he, ho, hk1⟩
  have he : e = .returned (.agg #[.int .i64 0, .int .i64 52, vP, .int .i64 33, .int .i64 2, .int .i64 4, .slice none 0 0, .slice none 0 0, .slice none 0 0]) := he
  subst he
  have K1 := Lib.hid hk1
  have C := check_Outline0 0 52 33 2 4 smallK.pool vP w1 (Rd.of_own ho) smallK_text small_check
  obtain ⟨n1, hn1⟩ : ∃ n, n = (nameC smallK.pool 2).1 := ⟨_, rfl⟩
  obtain ⟨n2, hn2⟩ : ∃ n, n = (nameC smallK.pool 4).1 := ⟨_, rfl⟩
  rw [← hn1, ← hn2] at C
  rw [small_n1] at hn1
  rw [small_n2] at hn2
  have q1 : (n1.toList == [65]) = true := by rw [hn1, ByteArray.toList_eq]; rfl
  have q2 : (n2.toList == [106, 97, 118, 97, 47, 108, 97, 110, 103, 47, 79, 98, 106, 101, 99, 116]) = true := by rw [hn2, ByteArray.toList_eq]; rfl
  clear ho hk1 hn1 hn2
  go_wp2_with fail
  refine C.mono ?_
  rintro e w2 ⟨rfl, hk2⟩
  have K2 := Lib.hid (Kept.trans K1.out hk2)
  clear hk2 C
  go_upto_region 2 with fail
  have hk3 : Kept w2 (w2.alloc (.cells #[.string n1, .string n2, .int .i64 33, .slice none 0 0, .slice none 0 0, .slice none 0 0] 36)) := (Below.refl _ _).alloc (Nat.le_refl _) _
  obtain ⟨g, hg⟩ : ∃ g, g = w2.heap.size := ⟨_, rfl⟩
  have K3 := Lib.hid (Kept.trans K2.out hk3)
  have HT := Lib.hid (Blk.new w2 36 #[.string n1, .string n2, .int .i64 33, .slice none 0 0, .slice none 0 0, .slice none 0 0])
  rw [← hg] at HT ⊢
  clear hk3
  generalize (w2.alloc (.cells #[.string n1, .string n2, .int .i64 33, .slice none 0 0, .slice none 0 0, .slice none 0 0] 36)) = w3 at *
  clear hg
  have C := check_Check (bareC 0 0 0 0 0 []) [] (.slice none 0 0) (.slice none 0 0) (.slice none 0 0) (.slice none 0 0) w3 (bare_rd Rd.nil) (fun k hk => by cases hk)
  unfold IntG at C
  rw [zero_check] at C
  go_wp2_with fail
  refine C.mono ?_
  rintro e w4 ⟨rfl, hk4⟩
  have K4 := Lib.hid (Kept.trans K3.out hk4)
  have HT4 := Lib.hid (HT.out.kept hk4)
  clear hk4 C
  have t0 := HT4.out.cell 0
  have t1 := HT4.out.cell 1
  have t2 := HT4.out.cell 2
  have t3 := HT4.out.cell 3
  have t4 := HT4.out.cell 4
  have t5 := HT4.out.cell 5
  simp only [List.getElem?_toArray, List.getElem?_cons_succ, List.getElem?_cons_zero] at t0 t1 t2 t3 t4 t5
  go_wp2_with (go_at_call 21; refine (law5_num _ _).mono ?_; rintro e w9 ⟨rfl, rfl⟩)
  go_ret
  exact ⟨rfl, K4.out⟩
end Go.Proofs.Ytcklmhbcjgiplaa
