/-
  Package check by contract: a field.
-/
import Derived.Test.YtcklmhbcjgiplaaCk9
namespace Go.Proofs.Ytcklmhbcjgiplaa
set_option linter.unusedVariables false
set_option linter.unusedSimpArgs false
open Go.RowKit
open Go.Maps Go.WideMaps
set_option maxRecDepth 100000

theorem Dict.cell_none {α : Type} {P : Program} {k : TypeId} {enc : α → Value} {w : World} {b n : Nat} {f : α → Option Value} (h : Dict P k enc w b n f) (p : Addr) (hp : p.block = b) : w.cell? p = none := by
  obtain ⟨D, ⟨es, clock, hb, _⟩, _⟩ := h
  subst hp
  simp [World.cell?, hb]
theorem Rd.touchD {α : Type} {P : Program} {k : TypeId} {enc : α → Value} {w w' : World} {b n sz m : Nat} {f : α → Option Value} {v : Value} {xs : List Value} (h : Rd w sz v m xs) (hd : Dict P k enc w b n f) (ht : Touch (fun c => c = b) w w') : Rd w' sz v m xs :=
  h.keep fun p u hc => ht.cell hc fun e => by rw [hd.cell_none p e] at hc; cases hc
/-- What field and method tell; what the map holds behind them, where nothing is wrong. -/
def MembG (r : Int) (bm n : Nat) (l : List (ByteArray × ByteArray)) (k : ByteArray × ByteArray) (w : World) (e : Ending) (w' : World) : Prop :=
  e = .returned (.int .i64 r) ∧ (r = 0 → SeenN w' bm (n + 1) (l ++ [k])) ∧ Touch (fun b => b = bm) w w'
/-- How it stands ahead of rule j; 't': from which rule on the map has it. -/
structure InvN (w : World) (bm n t : Nat) (l : List (ByteArray × ByteArray)) (k : ByteArray × ByteArray) (j : Nat) (W : World) : Prop where
  tch : Touch (fun b => b = bm) w W
  old : j ≤ t → SeenN W bm n l
  new : t < j → l.contains k = false → SeenN W bm (n + 1) (l ++ [k])
theorem InvN.kept {w : World} {bm n t j : Nat} {l : List (ByteArray × ByteArray)} {k : ByteArray × ByteArray} {W W' : World} (h : InvN w bm n t l k j W) (hk : Kept W W') : InvN w bm n t l k j W' :=
  ⟨h.tch.trans (Touch.of_kept (S := fun b => b = bm) hk) fun _ hb => .inl hb, fun hj => Dict.kept (h.old hj) hk, fun hj hc => Dict.kept (h.new hj hc) hk⟩
theorem InvN.next {w : World} {bm n t j : Nat} {l : List (ByteArray × ByteArray)} {k : ByteArray × ByteArray} {W W' : World} (h : InvN w bm n t l k j W) (hj : j ≠ t) (hk : Kept W W') : InvN w bm n t l k (j + 1) W' :=
  ⟨h.tch.trans (Touch.of_kept (S := fun b => b = bm) hk) fun _ hb => .inl hb, fun hq => Dict.kept (h.old (by omega)) hk, fun hq hc => Dict.kept (h.new (by omega) hc) hk⟩
def bsF (q0 q1 q2 q3 q4 q5 : Bool) : Nat → Bool
  | 0 => q0
  | 1 => q1
  | 2 => q2
  | 3 => q3
  | 4 => q4
  | _ => q5
theorem firstF (q0 q1 q2 q3 q4 q5 : Bool) (f0 f1 f2 f3 f4 f5 : Nat) (k0 k1 k2 k3 k4 k5 : Array Value) : firstE (bsF q0 q1 q2 q3 q4 q5) 0 [⟨20, f0, k0⟩, ⟨21, f1, k1⟩, ⟨22, f2, k2⟩, ⟨23, f3, k3⟩, ⟨24, f4, k4⟩, ⟨26, f5, k5⟩] = if q0 = true then 20 else if q1 = true then 21 else if q2 = true then 22 else if q3 = true then 23 else if q4 = true then 24 else if q5 = true then 26 else 0 := by
  cases q0 <;> cases q1 <;> cases q2 <;> cases q3 <;> cases q4 <;> cases q5 <;> rfl
theorem allrF {q0 q1 q2 q3 q4 q5 : Bool} (h : (if q0 = true then 20 else if q1 = true then 21 else if q2 = true then 22 else if q3 = true then 23 else if q4 = true then 24 else if q5 = true then 26 else 0 : Int) = 0) : ∀ k, k < 6 → bsF q0 q1 q2 q3 q4 q5 k = false := by
  intro k hk
  revert h
  rcases (by omega : k = 0 ∨ k = 1 ∨ k = 2 ∨ k = 3 ∨ k = 4 ∨ k = 5) with rfl | rfl | rfl | rfl | rfl | rfl <;> cases q0 <;> cases q1 <;> cases q2 <;> cases q3 <;> cases q4 <;> cases q5 <;> decide
theorem fnF (gb gm g1 g2 g3 g4 : Nat) : ∀ r ∈ ([⟨20, 55, #[.pointer (some ⟨g2, 0, none⟩), .pointer (some ⟨g4, 0, none⟩)]⟩, ⟨21, 56, #[.pointer (some ⟨g1, 0, none⟩)]⟩, ⟨22, 58, #[.pointer (some ⟨g3, 0, none⟩)]⟩, ⟨23, 59, #[.pointer (some ⟨gb, 0, none⟩)]⟩, ⟨24, 61, #[.pointer (some ⟨gm, 0, none⟩), .pointer (some ⟨g1, 0, none⟩), .pointer (some ⟨g3, 0, none⟩)]⟩, ⟨26, 62, #[.pointer (some ⟨gb, 0, none⟩), .pointer (some ⟨g3, 0, none⟩)]⟩] : List RuleC), ∀ args W, Sem.run Try.prog (callFunc r.f args) W = .ok (.enter r.f args) W := by
  intro r hr
  simp only [List.mem_cons, List.mem_singleton, List.not_mem_nil, or_false] at hr
  rcases hr with rfl | rfl | rfl | rfl | rfl | rfl
  · exact (fun args W => call_enter Try.func55 (by kernel_rfl) rfl args W)
  · exact (fun args W => call_enter Try.func56 (by kernel_rfl) rfl args W)
  · exact (fun args W => call_enter Try.func58 (by kernel_rfl) rfl args W)
  · exact (fun args W => call_enter Try.func59 (by kernel_rfl) rfl args W)
  · exact (fun args W => call_enter Try.func61 (by kernel_rfl) rfl args W)
  · exact (fun args W => call_enter Try.func62 (by kernel_rfl) rfl args W)
theorem ifnot {b : Bool} {x y : Int} : (if b = false then x else y) = (if (!b) = true then x else y) := by cases b <;> rfl
set_option maxHeartbeats 8000000 in
theorem check_field (xa xn xd xv : Int) (pool : List ConstC) (mi ma ac th su : Int) (vP vI vF vM : Value) (l : List (ByteArray × ByteArray)) (n bm : Nat) (w : World) (hr : Rd w 5 vP pool.length (pool.flatMap encC)) (hs : ∀ k ∈ pool, k.text.size ≤ maxLen) (hn : n ≤ 100) (hm : SeenN w bm n l) :
    Calls Try.prog 31 #[.agg #[.int .i64 mi, .int .i64 ma, vP, .int .i64 ac, .int .i64 th, .int .i64 su, vI, vF, vM], .agg #[.int .i64 xa, .int .i64 xn, .int .i64 xd, .int .i64 xv], .map (some bm)] w (MembG (fieldE pool ac l ⟨xa, xn, xd, xv⟩) bm n l (keyC pool xn xd) w) := by
  obtain ⟨R, hR⟩ : ∃ R, R = fieldE pool ac l ⟨xa, xn, xd, xv⟩ := ⟨_, rfl⟩
  rw [← hR]
  have hk : Kept w (((w.alloc (.cells #[.int .i64 mi, .int .i64 ma, vP, .int .i64 ac, .int .i64 th, .int .i64 su, vI, vF, vM] 74)).alloc (.cells #[.int .i64 xa, .int .i64 xn, .int .i64 xd, .int .i64 xv] 55)).alloc (.cells #[.map (some bm)] 75)) := (((Below.refl _ _).alloc (Nat.le_refl _) _).alloc (by simp) _).alloc (by simp; omega) _
  have HK := Lib.hid hk
  have HRD := Lib.hid hr
  have HMD := Lib.hid hm
  have HB := Lib.hid (((Blk.new w 74 #[.int .i64 mi, .int .i64 ma, vP, .int .i64 ac, .int .i64 th, .int .i64 su, vI, vF, vM]).alloc (.cells #[.int .i64 xa, .int .i64 xn, .int .i64 xd, .int .i64 xv] 55)).alloc (.cells #[.map (some bm)] 75))
  have HX : Hid (Blk (((w.alloc (.cells #[.int .i64 mi, .int .i64 ma, vP, .int .i64 ac, .int .i64 th, .int .i64 su, vI, vF, vM] 74)).alloc (.cells #[.int .i64 xa, .int .i64 xn, .int .i64 xd, .int .i64 xv] 55)).alloc (.cells #[.map (some bm)] 75)) (w.heap.size + 1) 55 #[.int .i64 xa, .int .i64 xn, .int .i64 xd, .int .i64 xv]) := Lib.hid (Blk.alloc (heap_new_at' _ _ (by simp)) _)
  have HM : Hid (Blk (((w.alloc (.cells #[.int .i64 mi, .int .i64 ma, vP, .int .i64 ac, .int .i64 th, .int .i64 su, vI, vF, vM] 74)).alloc (.cells #[.int .i64 xa, .int .i64 xn, .int .i64 xd, .int .i64 xv] 55)).alloc (.cells #[.map (some bm)] 75)) (w.heap.size + 1 + 1) 75 #[.map (some bm)]) := Lib.hid (heap_new_at' _ _ (by simp))
  have zs := textC_size hs xn
  have zd := textC_size hs xd
  obtain ⟨s, hsv⟩ : ∃ s, s = (textC pool xn).1 := ⟨_, rfl⟩
  obtain ⟨b1, hb1⟩ : ∃ s, s = (textC pool xn).2 := ⟨_, rfl⟩
  obtain ⟨d, hdv⟩ : ∃ s, s = (textC pool xd).1 := ⟨_, rfl⟩
  obtain ⟨b2, hb2⟩ : ∃ s, s = (textC pool xd).2 := ⟨_, rfl⟩
  have hkc : keyC pool xn xd = (s, d) := by unfold keyC; rw [hsv, hdv]
  rw [hkc]
  rw [← hsv] at zs
  rw [← hdv] at zd
  have hR2 : R = (if (!(b1 && b2)) = true then 20 else if (!memS s) = true then 21 else if (!fldS d) = true then 22 else if (decide (1 < viewsI xa) || hasF ac 512 && !allF xa 25) = true then 23 else if l.contains (s, d) = true then 24 else if (xv != 0 && (!hasF xa 8 || !isS d [73] || !(getC pool xv 3).isSome)) = true then 26 else 0) := by
    rw [hR, hsv, hb1, hdv, hb2]
    unfold fieldE keyC
    dsimp only
    rw [ifnot, ifnot, ifnot]
  have HR := Lib.hid hR2
  have HZS := Lib.hid zs
  have HZD := Lib.hid zd
  have C := check_text pool mi ma ac th su vP vI vF vM xn _ (hr.kept hk)
  unfold TextG at C
  rw [← hsv, ← hb1] at C
  have C2 := fun (W : World) (h : Kept w W) => check_text pool mi ma ac th su vP vI vF vM xd W (hr.kept h)
  unfold TextG at C2
  rw [← hdv, ← hb2] at C2
  have HC2 := Lib.hid C2
  clear hR hR2 hk hr hs hm hsv hb1 hdv hb2 hkc C2 zs zd
  go_enter Try.func31, Try.ntmps31
  go_upto_region 1 with fail
  generalize (((w.alloc (.cells #[.int .i64 mi, .int .i64 ma, vP, .int .i64 ac, .int .i64 th, .int .i64 su, vI, vF, vM] 74)).alloc (.cells #[.int .i64 xa, .int .i64 xn, .int .i64 xd, .int .i64 xv] 55)).alloc (.cells #[.map (some bm)] 75)) = W at *
  obtain ⟨gb, hgb⟩ : ∃ g, g = w.heap.size := ⟨_, rfl⟩
  obtain ⟨gf, hgf⟩ : ∃ g, g = w.heap.size + 1 := ⟨_, rfl⟩
  obtain ⟨gm, hgm⟩ : ∃ g, g = w.heap.size + 1 + 1 := ⟨_, rfl⟩
  rw [← hgb] at HB
  rw [← hgf] at HX
  rw [← hgm] at HM
  rw [← hgm, ← hgf, ← hgb]
  clear hgb hgf hgm
  have c0 := HB.out.cell 0
  have c1 := HB.out.cell 1
  have c2 := HB.out.cell 2
  have c3 := HB.out.cell 3
  have c4 := HB.out.cell 4
  have c5 := HB.out.cell 5
  have c6 := HB.out.cell 6
  have c7 := HB.out.cell 7
  have c8 := HB.out.cell 8
  simp only [List.getElem?_toArray, List.getElem?_cons_succ, List.getElem?_cons_zero] at c0 c1 c2 c3 c4 c5 c6 c7 c8
  have x0 := HX.out.cell 0
  have x1 := HX.out.cell 1
  have x2 := HX.out.cell 2
  have x3 := HX.out.cell 3
  simp only [List.getElem?_toArray, List.getElem?_cons_succ, List.getElem?_cons_zero] at x0 x1 x2 x3
  go_wp2_with fail
  refine C.mono ?_
  rintro e w1 ⟨rfl, hk1⟩
  go_upto_region 2 with fail
  obtain ⟨g1, hg1⟩ : ∃ g, g = w1.heap.size := ⟨_, rfl⟩
  obtain ⟨g2, hg2⟩ : ∃ g, g = w1.heap.size + 1 := ⟨_, rfl⟩
  have hkx := Kept.trans hk1 (show Kept w1 ((w1.alloc (.cells #[.string s] 9)).alloc (.cells #[.bool b1] 4)) from ((Below.refl _ _).alloc (Nat.le_refl _) _).alloc (by simp) _)
  have HGg1 : Hid (Blk ((w1.alloc (.cells #[.string s] 9)).alloc (.cells #[.bool b1] 4)) g1 9 #[.string s]) := Lib.hid (hg1 ▸ (Blk.new w1 9 #[.string s]).alloc _)
  have HGg2 : Hid (Blk ((w1.alloc (.cells #[.string s] 9)).alloc (.cells #[.bool b1] 4)) g2 4 #[.bool b1]) := Lib.hid (heap_new_at' _ _ (by rw [hg2]; simp))
  have K2 := Lib.hid (Kept.trans HK.out hkx)
  have HB2 := Lib.hid (HB.out.kept hkx)
  have HX2 := Lib.hid (HX.out.kept hkx)
  have HM2 := Lib.hid (HM.out.kept hkx)
  rw [← hg2, ← hg1]
  clear hkx hk1 hg2 C
  generalize ((w1.alloc (.cells #[.string s] 9)).alloc (.cells #[.bool b1] 4)) = w2 at *
  clear hg1
  have d0 := HB2.out.cell 0
  have d1 := HB2.out.cell 1
  have d2 := HB2.out.cell 2
  have d3 := HB2.out.cell 3
  have d4 := HB2.out.cell 4
  have d5 := HB2.out.cell 5
  have d6 := HB2.out.cell 6
  have d7 := HB2.out.cell 7
  have d8 := HB2.out.cell 8
  simp only [List.getElem?_toArray, List.getElem?_cons_succ, List.getElem?_cons_zero] at d0 d1 d2 d3 d4 d5 d6 d7 d8
  have y0 := HX2.out.cell 0
  have y1 := HX2.out.cell 1
  have y2 := HX2.out.cell 2
  have y3 := HX2.out.cell 3
  simp only [List.getElem?_toArray, List.getElem?_cons_succ, List.getElem?_cons_zero] at y0 y1 y2 y3
  have C := HC2.out w2 K2.out
  go_wp2_with fail
  refine C.mono ?_
  rintro e w3 ⟨rfl, hk3⟩
  go_upto_region 3 with fail
  obtain ⟨g3, hg3⟩ : ∃ g, g = w3.heap.size := ⟨_, rfl⟩
  obtain ⟨g4, hg4⟩ : ∃ g, g = w3.heap.size + 1 := ⟨_, rfl⟩
  have hkx := Kept.trans hk3 (show Kept w3 ((w3.alloc (.cells #[.string d] 9)).alloc (.cells #[.bool b2] 4)) from ((Below.refl _ _).alloc (Nat.le_refl _) _).alloc (by simp) _)
  have HGg3 : Hid (Blk ((w3.alloc (.cells #[.string d] 9)).alloc (.cells #[.bool b2] 4)) g3 9 #[.string d]) := Lib.hid (hg3 ▸ (Blk.new w3 9 #[.string d]).alloc _)
  have HGg4 : Hid (Blk ((w3.alloc (.cells #[.string d] 9)).alloc (.cells #[.bool b2] 4)) g4 4 #[.bool b2]) := Lib.hid (heap_new_at' _ _ (by rw [hg4]; simp))
  have K4 := Lib.hid (Kept.trans K2.out hkx)
  have HB4 := Lib.hid (HB2.out.kept hkx)
  have HX4 := Lib.hid (HX2.out.kept hkx)
  have HM4 := Lib.hid (HM2.out.kept hkx)
  have HG1x := Lib.hid (HGg1.out.kept hkx)
  have HG2x := Lib.hid (HGg2.out.kept hkx)
  rw [← hg4, ← hg3]
  clear hkx hk3 hg4 C
  generalize ((w3.alloc (.cells #[.string d] 9)).alloc (.cells #[.bool b2] 4)) = w4 at *
  clear hg3
  obtain ⟨gr, hgr⟩ : ∃ g, g = w4.heap.size := ⟨_, rfl⟩
  obtain ⟨w9, hw9⟩ : ∃ w9, w9 = w4.alloc (.cells #[.int .i64 20, .func (.func 55) #[] #[.pointer (some ⟨g2, 0, none⟩), .pointer (some ⟨g4, 0, none⟩)], .int .i64 21, .func (.func 56) #[] #[.pointer (some ⟨g1, 0, none⟩)], .int .i64 22, .func (.func 58) #[] #[.pointer (some ⟨g3, 0, none⟩)], .int .i64 23, .func (.func 59) #[] #[.pointer (some ⟨gb, 0, none⟩)], .int .i64 24, .func (.func 61) #[] #[.pointer (some ⟨gm, 0, none⟩), .pointer (some ⟨g1, 0, none⟩), .pointer (some ⟨g3, 0, none⟩)], .int .i64 26, .func (.func 62) #[] #[.pointer (some ⟨gb, 0, none⟩), .pointer (some ⟨g3, 0, none⟩)]] 99) := ⟨_, rfl⟩
  have hk9 : Kept w4 w9 := hw9 ▸ (Below.refl _ _).alloc (Nat.le_refl _) _
  have hblk : Blk w9 gr 99 #[.int .i64 20, .func (.func 55) #[] #[.pointer (some ⟨g2, 0, none⟩), .pointer (some ⟨g4, 0, none⟩)], .int .i64 21, .func (.func 56) #[] #[.pointer (some ⟨g1, 0, none⟩)], .int .i64 22, .func (.func 58) #[] #[.pointer (some ⟨g3, 0, none⟩)], .int .i64 23, .func (.func 59) #[] #[.pointer (some ⟨gb, 0, none⟩)], .int .i64 24, .func (.func 61) #[] #[.pointer (some ⟨gm, 0, none⟩), .pointer (some ⟨g1, 0, none⟩), .pointer (some ⟨g3, 0, none⟩)], .int .i64 26, .func (.func 62) #[] #[.pointer (some ⟨gb, 0, none⟩), .pointer (some ⟨g3, 0, none⟩)]] := by rw [hw9, hgr]; exact Blk.new _ _ _
  have K9 := Lib.hid (Kept.trans K4.out hk9)
  have HD9 := Lib.hid (Dict.kept HMD.out K9.out)
  have H9gb := Lib.hid (HB4.out.kept hk9)
  have HNgb := Lib.hid (show bm ≠ gb from Dict.blk HD9.out H9gb.out)
  have H9gm := Lib.hid (HM4.out.kept hk9)
  have HNgm := Lib.hid (show bm ≠ gm from Dict.blk HD9.out H9gm.out)
  have H9g1 := Lib.hid (HG1x.out.kept hk9)
  have HNg1 := Lib.hid (show bm ≠ g1 from Dict.blk HD9.out H9g1.out)
  have H9g2 := Lib.hid (HG2x.out.kept hk9)
  have HNg2 := Lib.hid (show bm ≠ g2 from Dict.blk HD9.out H9g2.out)
  have H9g3 := Lib.hid (HGg3.out.kept hk9)
  have HNg3 := Lib.hid (show bm ≠ g3 from Dict.blk HD9.out H9g3.out)
  have H9g4 := Lib.hid (HGg4.out.kept hk9)
  have HNg4 := Lib.hid (show bm ≠ g4 from Dict.blk HD9.out H9g4.out)
  have C := check_firstF (.int .i64 xa) (.int .i64 xn) (.int .i64 xd) (.int .i64 xv) [⟨20, 55, #[.pointer (some ⟨g2, 0, none⟩), .pointer (some ⟨g4, 0, none⟩)]⟩, ⟨21, 56, #[.pointer (some ⟨g1, 0, none⟩)]⟩, ⟨22, 58, #[.pointer (some ⟨g3, 0, none⟩)]⟩, ⟨23, 59, #[.pointer (some ⟨gb, 0, none⟩)]⟩, ⟨24, 61, #[.pointer (some ⟨gm, 0, none⟩), .pointer (some ⟨g1, 0, none⟩), .pointer (some ⟨g3, 0, none⟩)]⟩, ⟨26, 62, #[.pointer (some ⟨gb, 0, none⟩), .pointer (some ⟨g3, 0, none⟩)]⟩] (.slice (some ⟨gr, 0, none⟩) 6 6) (bsF (!(b1 && b2)) (!memS s) (!fldS d) (decide (1 < viewsI xa) || hasF ac 512 && !allF xa 25) (l.contains (s, d)) (xv != 0 && (!hasF xa 8 || !isS d [73] || !(getC pool xv 3).isSome))) (InvN w9 bm n 4 l (s, d)) (fun b => b = bm) w9
    (fun X hX => rows_rd (hblk.touch hX (fun e => (Dict.blk HD9.out hblk) e.symm)) (by omega) rfl rfl)
    ⟨fnF gb gm g1 g2 g3 g4, fun b hb => hb ▸ HD9.out.lt, fun _ _ _ h1 h2 => h1.kept h2, fun k r X hr hno hi _ => by
      rcases k with _ | _ | _ | _ | _ | _ | k
      · simp only [List.getElem?_cons_zero, Option.some.injEq] at hr
        subst hr
        refine Calls.mono (field_1 xa xn xd xv b1 b2 g2 g4 X (H9g2.out.touch hi.tch (fun e => HNg2.out e.symm)) (H9g4.out.touch hi.tch (fun e => HNg4.out e.symm))) ?_
        rintro e w' ⟨he, hk⟩
        exact ⟨by rw [he]; rfl, hi.next (by omega) hk, Touch.of_kept hk⟩
      · simp only [List.getElem?_cons_succ, List.getElem?_cons_zero, Option.some.injEq] at hr
        subst hr
        refine Calls.mono (field_2 xa xn xd xv s g1 X HZS.out (H9g1.out.touch hi.tch (fun e => HNg1.out e.symm))) ?_
        rintro e w' ⟨he, hk⟩
        exact ⟨by rw [he]; rfl, hi.next (by omega) hk, Touch.of_kept hk⟩
      · simp only [List.getElem?_cons_succ, List.getElem?_cons_zero, Option.some.injEq] at hr
        subst hr
        refine Calls.mono (field_3 xa xn xd xv d g3 X HZD.out (H9g3.out.touch hi.tch (fun e => HNg3.out e.symm))) ?_
        rintro e w' ⟨he, hk⟩
        exact ⟨by rw [he]; rfl, hi.next (by omega) hk, Touch.of_kept hk⟩
      · simp only [List.getElem?_cons_succ, List.getElem?_cons_zero, Option.some.injEq] at hr
        subst hr
        refine Calls.mono (field_4 xa xn xd xv mi ma ac th su vP vI vF vM gb X (H9gb.out.touch hi.tch (fun e => HNgb.out e.symm))) ?_
        rintro e w' ⟨he, hk⟩
        exact ⟨by rw [he]; rfl, hi.next (by omega) hk, Touch.of_kept hk⟩
      · simp only [List.getElem?_cons_succ, List.getElem?_cons_zero, Option.some.injEq] at hr
        subst hr
        refine Calls.mono (field_5 xa xn xd xv s d l n bm gm g1 g3 X HZS.out HZD.out hn (H9gm.out.touch hi.tch (fun e => HNgm.out e.symm)) (H9g1.out.touch hi.tch (fun e => HNg1.out e.symm)) (H9g3.out.touch hi.tch (fun e => HNg3.out e.symm)) (hi.old (Nat.le_refl _))) ?_
        rintro e w' ⟨he, hk, htc⟩
        exact ⟨by rw [he]; rfl, ⟨hi.tch.trans htc fun _ hb => .inl hb, fun hq => absurd hq (by omega), fun _ hc => hk hc⟩, htc⟩
      · simp only [List.getElem?_cons_succ, List.getElem?_cons_zero, Option.some.injEq] at hr
        subst hr
        refine Calls.mono (field_6 xa xn xd xv pool mi ma ac th su vP vI vF vM d gb g3 X (Rd.touchD (HRD.out.kept K9.out) HD9.out hi.tch) (H9gb.out.touch hi.tch (fun e => HNgb.out e.symm)) (H9g3.out.touch hi.tch (fun e => HNg3.out e.symm))) ?_
        rintro e w' ⟨he, hk⟩
        exact ⟨by rw [he]; rfl, hi.next (by omega) hk, Touch.of_kept hk⟩
      · simp at hr⟩ ⟨Touch.refl _ _, fun _ => HD9.out, fun h => absurd h (by omega)⟩
  unfold FirstG at C
  rw [firstF, ← HR.out] at C
  have HW9 := Lib.hid hw9
  have HGR := Lib.hid hgr
  have HALL := Lib.hid (show R = 0 → ∀ k, k < 6 → bsF (!(b1 && b2)) (!memS s) (!fldS d) (decide (1 < viewsI xa) || hasF ac 512 && !allF xa 25) (l.contains (s, d)) (xv != 0 && (!hasF xa 8 || !isS d [73] || !(getC pool xv 3).isSome)) k = false from fun h0 => allrF (by rw [← HR.out]; exact h0))
  clear hk9 hblk hw9 hgr
  have n0 := HX4.out.cell 0
  have n1 := HX4.out.cell 1
  have n2 := HX4.out.cell 2
  have n3 := HX4.out.cell 3
  simp only [List.getElem?_toArray, List.getElem?_cons_succ, List.getElem?_cons_zero] at n0 n1 n2 n3
  go_wp2_with (rw [← HGR.out, ← HW9.out]; refine C.mono ?_; rintro e wz ⟨rfl, hall, htz⟩; have HAZ := Lib.hid hall; have HTZ := Lib.hid htz; clear hall htz)
  go_ret
  refine ⟨rfl, fun h0 => ?_, (Touch.of_kept K9.out).trans HTZ.out fun _ hb => .inl hb⟩
  exact (HAZ.out (HALL.out h0)).new (by simp) (HALL.out h0 4 (by decide))
end Go.Proofs.Ytcklmhbcjgiplaa
