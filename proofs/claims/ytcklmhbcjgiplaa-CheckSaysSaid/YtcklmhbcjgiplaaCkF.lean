/-
  Package check by contract: a method.
-/
import Derived.Test.YtcklmhbcjgiplaaCkE
import Derived.Test.YtcklmhbcjgiplaaCkD
namespace Go.Proofs.Ytcklmhbcjgiplaa
set_option linter.unusedVariables false
set_option linter.unusedSimpArgs false
open Go.RowKit
open Go.Maps Go.WideMaps
set_option maxRecDepth 100000

def bsM (q0 q1 q2 q3 q4 q5 q6 q7 : Bool) : Nat → Bool
  | 0 => q0
  | 1 => q1
  | 2 => q2
  | 3 => q3
  | 4 => q4
  | 5 => q5
  | 6 => q6
  | _ => q7
theorem firstM (q0 q1 q2 q3 q4 q5 q6 q7 : Bool) (f0 f1 f2 f3 f4 f5 f6 f7 : Nat) (k0 k1 k2 k3 k4 k5 k6 k7 : Array Value) : firstE (bsM q0 q1 q2 q3 q4 q5 q6 q7) 0 [⟨20, f0, k0⟩, ⟨21, f1, k1⟩, ⟨22, f2, k2⟩, ⟨23, f3, k3⟩, ⟨22, f4, k4⟩, ⟨24, f5, k5⟩, ⟨25, f6, k6⟩, ⟨20, f7, k7⟩] = if q0 = true then 20 else if q1 = true then 21 else if q2 = true then 22 else if q3 = true then 23 else if q4 = true then 22 else if q5 = true then 24 else if q6 = true then 25 else if q7 = true then 20 else 0 := by
  cases q0 <;> cases q1 <;> cases q2 <;> cases q3 <;> cases q4 <;> cases q5 <;> cases q6 <;> cases q7 <;> rfl
theorem allrM {q0 q1 q2 q3 q4 q5 q6 q7 : Bool} (h : (if q0 = true then 20 else if q1 = true then 21 else if q2 = true then 22 else if q3 = true then 23 else if q4 = true then 22 else if q5 = true then 24 else if q6 = true then 25 else if q7 = true then 20 else 0 : Int) = 0) : ∀ k, k < 8 → bsM q0 q1 q2 q3 q4 q5 q6 q7 k = false := by
  intro k hk
  revert h
  rcases (by omega : k = 0 ∨ k = 1 ∨ k = 2 ∨ k = 3 ∨ k = 4 ∨ k = 5 ∨ k = 6 ∨ k = 7) with rfl | rfl | rfl | rfl | rfl | rfl | rfl | rfl <;> cases q0 <;> cases q1 <;> cases q2 <;> cases q3 <;> cases q4 <;> cases q5 <;> cases q6 <;> cases q7 <;> decide
theorem fnM (gb gm g1 g2 g3 g4 g5 g6 g7 : Nat) : ∀ r ∈ ([⟨20, 65, #[.pointer (some ⟨g2, 0, none⟩), .pointer (some ⟨g4, 0, none⟩)]⟩, ⟨21, 66, #[.pointer (some ⟨g1, 0, none⟩)]⟩, ⟨22, 67, #[.pointer (some ⟨g7, 0, none⟩)]⟩, ⟨23, 68, #[.pointer (some ⟨gb, 0, none⟩), .pointer (some ⟨g1, 0, none⟩)]⟩, ⟨22, 70, #[.pointer (some ⟨g1, 0, none⟩), .pointer (some ⟨g6, 0, none⟩), .pointer (some ⟨g3, 0, none⟩)]⟩, ⟨24, 71, #[.pointer (some ⟨gm, 0, none⟩), .pointer (some ⟨g1, 0, none⟩), .pointer (some ⟨g3, 0, none⟩)]⟩, ⟨25, 72, #[.pointer (some ⟨g5, 0, none⟩)]⟩, ⟨20, 74, #[.pointer (some ⟨gb, 0, none⟩)]⟩] : List RuleC), ∀ args W, Sem.run Try.prog (callFunc r.f args) W = .ok (.enter r.f args) W := by
  intro r hr
  simp only [List.mem_cons, List.mem_singleton, List.not_mem_nil, or_false] at hr
  rcases hr with rfl | rfl | rfl | rfl | rfl | rfl | rfl | rfl
  · exact (fun args W => call_enter Try.func65 (by kernel_rfl) rfl args W)
  · exact (fun args W => call_enter Try.func66 (by kernel_rfl) rfl args W)
  · exact (fun args W => call_enter Try.func67 (by kernel_rfl) rfl args W)
  · exact (fun args W => call_enter Try.func68 (by kernel_rfl) rfl args W)
  · exact (fun args W => call_enter Try.func70 (by kernel_rfl) rfl args W)
  · exact (fun args W => call_enter Try.func71 (by kernel_rfl) rfl args W)
  · exact (fun args W => call_enter Try.func72 (by kernel_rfl) rfl args W)
  · exact (fun args W => call_enter Try.func74 (by kernel_rfl) rfl args W)
theorem argK_le (s : ByteArray) : (argK s).length ≤ 16 := by
  unfold argK kindsL
  split
  · simp
  · split
    · split
      · simp
      · rename_i h
        split
        · simpa using (kgo_len h (by simp)).1
        · simp
    · simp
/-- As methE, its parts as they lie in memory. -/
def methQ (pool : List ConstC) (acc : Int) (seen : List (ByteArray × ByteArray)) (xa xn xd : Int) (xh : Bool) (xs xl : Int) (nC : Nat) (traps : List TrapC) : Int :=
  if ((textC pool xn).2 && (textC pool xd).2) = false then 20
  else if metS (textC pool xn).1 = false then 21
  else if isK (textC pool xd).1 = false then 22
  else if methF acc xa (textC pool xn).1 = true then 23
  else if (isS (textC pool xn).1 iniL && !(retK (textC pool xd).1 == [86]) || isS (textC pool xn).1 cliL && !isS (textC pool xd).1 [40, 41, 86]) = true then 22
  else if seen.contains (keyC pool xn xd) = true then 24
  else if codeQ xa xh xs xl nC traps (argK (textC pool xd).1).length = true then 25
  else if traps.any (badC pool xh) = true then 20
  else 0
theorem methE_Q (pool : List ConstC) (acc : Int) (seen : List (ByteArray × ByteArray)) (m : MethC) : methE pool acc seen m = methQ pool acc seen m.access m.name m.desc m.has m.stack m.locals m.code.length m.traps := rfl
theorem ret_isS (d : ByteArray) : isS ⟨(retK d).toArray⟩ [86] = (retK d == [86]) := by
  unfold isS
  rw [ByteArray.toList_eq]
set_option maxHeartbeats 8000000 in
theorem check_method (xa xn xd : Int) (xh : Bool) (xs xl : Int) (aC aT : Option Addr) (nC kC nT kT : Nat) (traps : List TrapC) (pool : List ConstC) (mi ma ac th su : Int) (vP vI vF vM : Value) (l : List (ByteArray × ByteArray)) (n bm : Nat) (w : World) (hr : Rd w 5 vP pool.length (pool.flatMap encC)) (hs : ∀ k ∈ pool, k.text.size ≤ maxLen) (hn : n ≤ 100) (hm : SeenN w bm n l) (hl : nC ≤ 4611686018427387904) (ht : Rd w 4 (.slice aT nT kT) traps.length (traps.flatMap encT)) (hnt : nT = traps.length) :
    Calls Try.prog 32 #[.agg #[.int .i64 mi, .int .i64 ma, vP, .int .i64 ac, .int .i64 th, .int .i64 su, vI, vF, vM], .agg #[.int .i64 xa, .int .i64 xn, .int .i64 xd, .bool xh, .int .i64 xs, .int .i64 xl, .slice aC nC kC, .slice aT nT kT], .map (some bm)] w (MembG (methQ pool ac l xa xn xd xh xs xl nC traps) bm n l (keyC pool xn xd) w) := by
  obtain ⟨R, hR⟩ : ∃ R, R = methQ pool ac l xa xn xd xh xs xl nC traps := ⟨_, rfl⟩
  rw [← hR]
  have hk : Kept w (((w.alloc (.cells #[.int .i64 mi, .int .i64 ma, vP, .int .i64 ac, .int .i64 th, .int .i64 su, vI, vF, vM] 74)).alloc (.cells #[.int .i64 xa, .int .i64 xn, .int .i64 xd, .bool xh, .int .i64 xs, .int .i64 xl, .slice aC nC kC, .slice aT nT kT] 52)).alloc (.cells #[.map (some bm)] 75)) := (((Below.refl _ _).alloc (Nat.le_refl _) _).alloc (by simp) _).alloc (by simp; omega) _
  have HK := Lib.hid hk
  have HRD := Lib.hid hr
  have HMD := Lib.hid hm
  have HB := Lib.hid (((Blk.new w 74 #[.int .i64 mi, .int .i64 ma, vP, .int .i64 ac, .int .i64 th, .int .i64 su, vI, vF, vM]).alloc (.cells #[.int .i64 xa, .int .i64 xn, .int .i64 xd, .bool xh, .int .i64 xs, .int .i64 xl, .slice aC nC kC, .slice aT nT kT] 52)).alloc (.cells #[.map (some bm)] 75))
  have HX : Hid (Blk (((w.alloc (.cells #[.int .i64 mi, .int .i64 ma, vP, .int .i64 ac, .int .i64 th, .int .i64 su, vI, vF, vM] 74)).alloc (.cells #[.int .i64 xa, .int .i64 xn, .int .i64 xd, .bool xh, .int .i64 xs, .int .i64 xl, .slice aC nC kC, .slice aT nT kT] 52)).alloc (.cells #[.map (some bm)] 75)) (w.heap.size + 1) 52 #[.int .i64 xa, .int .i64 xn, .int .i64 xd, .bool xh, .int .i64 xs, .int .i64 xl, .slice aC nC kC, .slice aT nT kT]) := Lib.hid (Blk.alloc (heap_new_at' _ _ (by simp)) _)
  have HM : Hid (Blk (((w.alloc (.cells #[.int .i64 mi, .int .i64 ma, vP, .int .i64 ac, .int .i64 th, .int .i64 su, vI, vF, vM] 74)).alloc (.cells #[.int .i64 xa, .int .i64 xn, .int .i64 xd, .bool xh, .int .i64 xs, .int .i64 xl, .slice aC nC kC, .slice aT nT kT] 52)).alloc (.cells #[.map (some bm)] 75)) (w.heap.size + 1 + 1) 75 #[.map (some bm)]) := Lib.hid (heap_new_at' _ _ (by simp))
  have zs := textC_size hs xn
  have zd := textC_size hs xd
  obtain ⟨s, hsv⟩ : ∃ s, s = (textC pool xn).1 := ⟨_, rfl⟩
  obtain ⟨b1, hb1⟩ : ∃ s, s = (textC pool xn).2 := ⟨_, rfl⟩
  obtain ⟨d, hdv⟩ : ∃ s, s = (textC pool xd).1 := ⟨_, rfl⟩
  obtain ⟨b2, hb2⟩ : ∃ s, s = (textC pool xd).2 := ⟨_, rfl⟩
  have hkc : keyC pool xn xd = (s, d) := by unfold keyC; rw [hsv, hdv]
  rw [hkc]
  rw [← hsv] at zs
  rw [← hdv] at zd
  obtain ⟨a, ha⟩ : ∃ a : ByteArray, a = ⟨(argK d).toArray⟩ := ⟨_, rfl⟩
  obtain ⟨q, hq⟩ : ∃ a : ByteArray, a = ⟨(retK d).toArray⟩ := ⟨_, rfl⟩
  have hasz : a.size = (argK d).length := by rw [ha]; simp [ByteArray.size]
  have ha255 : a.size ≤ 255 := by have := argK_le d; omega
  have hR2 : R = (if (!(b1 && b2)) = true then 20 else if (!metS s) = true then 21 else if (!isK d) = true then 22 else if methF ac xa s = true then 23 else if (isS s iniL && !isS q [86] || isS s cliL && !isS d [40, 41, 86]) = true then 22 else if l.contains (s, d) = true then 24 else if codeQ xa xh xs xl nC traps a.size = true then 25 else if traps.any (badC pool xh) = true then 20 else 0) := by
    rw [hR, hasz, hq, ret_isS, hsv, hb1, hdv, hb2]
    unfold methQ keyC
    rw [ifnot, ifnot, ifnot]
  have C0 := fun W => desc_KindsT d W zd
  unfold KindG at C0
  rw [← ha, ← hq] at C0
  obtain ⟨kb, hkb⟩ : ∃ b, b = isK d := ⟨_, rfl⟩
  rw [← hkb] at C0
  have HCK := Lib.hid C0
  have HKB := Lib.hid hkb
  have HTR := Lib.hid ht
  have HNT := Lib.hid hnt
  clear C0 hkb ht hnt ha hq hasz
  have HR := Lib.hid hR2
  have HZS := Lib.hid zs
  have HZD := Lib.hid zd
  have C := check_text pool mi ma ac th su vP vI vF vM xn _ (hr.kept hk)
  unfold TextG at C
  rw [← hsv, ← hb1] at C
  have C2 := fun (W : World) (h : Kept w W) => check_text pool mi ma ac th su vP vI vF vM xd W (hr.kept h)
  unfold TextG at C2
  rw [← hdv, ← hb2] at C2
  have HC2 := Lib.hid C2
  clear hR hR2 hk hr hs hm hsv hb1 hdv hb2 hkc C2 zs zd
  go_enter Try.func32, Try.ntmps32
  go_upto_region 1 with fail
  generalize (((w.alloc (.cells #[.int .i64 mi, .int .i64 ma, vP, .int .i64 ac, .int .i64 th, .int .i64 su, vI, vF, vM] 74)).alloc (.cells #[.int .i64 xa, .int .i64 xn, .int .i64 xd, .bool xh, .int .i64 xs, .int .i64 xl, .slice aC nC kC, .slice aT nT kT] 52)).alloc (.cells #[.map (some bm)] 75)) = W at *
  obtain ⟨gb, hgb⟩ : ∃ g, g = w.heap.size := ⟨_, rfl⟩
  obtain ⟨gf, hgf⟩ : ∃ g, g = w.heap.size + 1 := ⟨_, rfl⟩
  obtain ⟨gm, hgm⟩ : ∃ g, g = w.heap.size + 1 + 1 := ⟨_, rfl⟩
  rw [← hgb] at HB
  rw [← hgf] at HX
  rw [← hgm] at HM
  rw [← hgm, ← hgf, ← hgb]
  clear hgb hgf hgm
  have c0 := HB.out.cell 0
  have c1 := HB.out.cell 1
  have c2 := HB.out.cell 2
  have c3 := HB.out.cell 3
  have c4 := HB.out.cell 4
  have c5 := HB.out.cell 5
  have c6 := HB.out.cell 6
  have c7 := HB.out.cell 7
  have c8 := HB.out.cell 8
  simp only [List.getElem?_toArray, List.getElem?_cons_succ, List.getElem?_cons_zero] at c0 c1 c2 c3 c4 c5 c6 c7 c8
  have x0 := HX.out.cell 0
  have x1 := HX.out.cell 1
  have x2 := HX.out.cell 2
  have x3 := HX.out.cell 3
  have x4 := HX.out.cell 4
  have x5 := HX.out.cell 5
  have x6 := HX.out.cell 6
  have x7 := HX.out.cell 7
  simp only [List.getElem?_toArray, List.getElem?_cons_succ, List.getElem?_cons_zero] at x0 x1 x2 x3 x4 x5 x6 x7
  go_wp2_with fail
  refine C.mono ?_
  rintro e w1 ⟨rfl, hk1⟩
  go_upto_region 2 with fail
  obtain ⟨g1, hg1⟩ : ∃ g, g = w1.heap.size := ⟨_, rfl⟩
  obtain ⟨g2, hg2⟩ : ∃ g, g = w1.heap.size + 1 := ⟨_, rfl⟩
  have hkx := Kept.trans hk1 (show Kept w1 ((w1.alloc (.cells #[.string s] 9)).alloc (.cells #[.bool b1] 4)) from ((Below.refl _ _).alloc (Nat.le_refl _) _).alloc (by simp) _)
  have HGg1 : Hid (Blk ((w1.alloc (.cells #[.string s] 9)).alloc (.cells #[.bool b1] 4)) g1 9 #[.string s]) := Lib.hid (hg1 ▸ (Blk.new w1 9 #[.string s]).alloc _)
  have HGg2 : Hid (Blk ((w1.alloc (.cells #[.string s] 9)).alloc (.cells #[.bool b1] 4)) g2 4 #[.bool b1]) := Lib.hid (heap_new_at' _ _ (by rw [hg2]; simp))
  have K2 := Lib.hid (Kept.trans HK.out hkx)
  have HB2 := Lib.hid (HB.out.kept hkx)
  have HX2 := Lib.hid (HX.out.kept hkx)
  have HM2 := Lib.hid (HM.out.kept hkx)
  rw [← hg2, ← hg1]
  clear hkx hk1 hg2 C
  generalize ((w1.alloc (.cells #[.string s] 9)).alloc (.cells #[.bool b1] 4)) = w2 at *
  clear hg1
  have d0 := HB2.out.cell 0
  have d1 := HB2.out.cell 1
  have d2 := HB2.out.cell 2
  have d3 := HB2.out.cell 3
  have d4 := HB2.out.cell 4
  have d5 := HB2.out.cell 5
  have d6 := HB2.out.cell 6
  have d7 := HB2.out.cell 7
  have d8 := HB2.out.cell 8
  simp only [List.getElem?_toArray, List.getElem?_cons_succ, List.getElem?_cons_zero] at d0 d1 d2 d3 d4 d5 d6 d7 d8
  have y0 := HX2.out.cell 0
  have y1 := HX2.out.cell 1
  have y2 := HX2.out.cell 2
  have y3 := HX2.out.cell 3
  have y4 := HX2.out.cell 4
  have y5 := HX2.out.cell 5
  have y6 := HX2.out.cell 6
  have y7 := HX2.out.cell 7
  simp only [List.getElem?_toArray, List.getElem?_cons_succ, List.getElem?_cons_zero] at y0 y1 y2 y3 y4 y5 y6 y7
  have C := HC2.out w2 K2.out
  go_wp2_with fail
  refine C.mono ?_
  rintro e w3 ⟨rfl, hk3⟩
  go_upto_region 3 with fail
  obtain ⟨g3, hg3⟩ : ∃ g, g = w3.heap.size := ⟨_, rfl⟩
  obtain ⟨g4, hg4⟩ : ∃ g, g = w3.heap.size + 1 := ⟨_, rfl⟩
  have hkx := Kept.trans hk3 (show Kept w3 ((w3.alloc (.cells #[.string d] 9)).alloc (.cells #[.bool b2] 4)) from ((Below.refl _ _).alloc (Nat.le_refl _) _).alloc (by simp) _)
  have HGg3 : Hid (Blk ((w3.alloc (.cells #[.string d] 9)).alloc (.cells #[.bool b2] 4)) g3 9 #[.string d]) := Lib.hid (hg3 ▸ (Blk.new w3 9 #[.string d]).alloc _)
  have HGg4 : Hid (Blk ((w3.alloc (.cells #[.string d] 9)).alloc (.cells #[.bool b2] 4)) g4 4 #[.bool b2]) := Lib.hid (heap_new_at' _ _ (by rw [hg4]; simp))
  have K4 := Lib.hid (Kept.trans K2.out hkx)
  have HB4 := Lib.hid (HB2.out.kept hkx)
  have HX4 := Lib.hid (HX2.out.kept hkx)
  have HM4 := Lib.hid (HM2.out.kept hkx)
  have HG1x := Lib.hid (HGg1.out.kept hkx)
  have HG2x := Lib.hid (HGg2.out.kept hkx)
  rw [← hg4, ← hg3]
  clear hkx hk3 hg4 C
  generalize ((w3.alloc (.cells #[.string d] 9)).alloc (.cells #[.bool b2] 4)) = w4 at *
  clear hg3
  have z0 := HGg3.out.cell 0
  simp only [List.getElem?_toArray, List.getElem?_cons_succ, List.getElem?_cons_zero] at z0
  have C := HCK.out w4
  go_wp2_with fail
  refine C.mono ?_
  rintro e w5 ⟨rfl, hk5⟩
  go_upto_region 4 with fail
  obtain ⟨g5, hg5⟩ : ∃ g, g = w5.heap.size := ⟨_, rfl⟩
  obtain ⟨g6, hg6⟩ : ∃ g, g = w5.heap.size + 1 := ⟨_, rfl⟩
  obtain ⟨g7, hg7⟩ : ∃ g, g = w5.heap.size + 1 + 1 := ⟨_, rfl⟩
  have hkx := Kept.trans hk5 (show Kept w5 (((w5.alloc (.cells #[.string a] 9)).alloc (.cells #[.string q] 9)).alloc (.cells #[.bool kb] 4)) from (((Below.refl _ _).alloc (Nat.le_refl _) _).alloc (by simp) _).alloc (by simp; omega) _)
  have HGg5 : Hid (Blk (((w5.alloc (.cells #[.string a] 9)).alloc (.cells #[.string q] 9)).alloc (.cells #[.bool kb] 4)) g5 9 #[.string a]) := Lib.hid (hg5 ▸ ((Blk.new w5 9 #[.string a]).alloc _).alloc _)
  have HGg6 : Hid (Blk (((w5.alloc (.cells #[.string a] 9)).alloc (.cells #[.string q] 9)).alloc (.cells #[.bool kb] 4)) g6 9 #[.string q]) := Lib.hid (Blk.alloc (heap_new_at' _ _ (by rw [hg6]; simp)) _)
  have HGg7 : Hid (Blk (((w5.alloc (.cells #[.string a] 9)).alloc (.cells #[.string q] 9)).alloc (.cells #[.bool kb] 4)) g7 4 #[.bool kb]) := Lib.hid (heap_new_at' _ _ (by rw [hg7]; simp))
  have K6 := Lib.hid (Kept.trans K4.out hkx)
  have HB6 := Lib.hid (HB4.out.kept hkx)
  have HX6 := Lib.hid (HX4.out.kept hkx)
  have HM6 := Lib.hid (HM4.out.kept hkx)
  have HG1y := Lib.hid (HG1x.out.kept hkx)
  have HG2y := Lib.hid (HG2x.out.kept hkx)
  have HG3y := Lib.hid (HGg3.out.kept hkx)
  have HG4y := Lib.hid (HGg4.out.kept hkx)
  rw [← hg7, ← hg6, ← hg5]
  clear hkx hk5 hg7 hg6 C
  generalize (((w5.alloc (.cells #[.string a] 9)).alloc (.cells #[.string q] 9)).alloc (.cells #[.bool kb] 4)) = w6 at *
  clear hg5
  obtain ⟨gr, hgr⟩ : ∃ g, g = w6.heap.size := ⟨_, rfl⟩
  obtain ⟨w9, hw9⟩ : ∃ w9, w9 = w6.alloc (.cells #[.int .i64 20, .func (.func 65) #[] #[.pointer (some ⟨g2, 0, none⟩), .pointer (some ⟨g4, 0, none⟩)], .int .i64 21, .func (.func 66) #[] #[.pointer (some ⟨g1, 0, none⟩)], .int .i64 22, .func (.func 67) #[] #[.pointer (some ⟨g7, 0, none⟩)], .int .i64 23, .func (.func 68) #[] #[.pointer (some ⟨gb, 0, none⟩), .pointer (some ⟨g1, 0, none⟩)], .int .i64 22, .func (.func 70) #[] #[.pointer (some ⟨g1, 0, none⟩), .pointer (some ⟨g6, 0, none⟩), .pointer (some ⟨g3, 0, none⟩)], .int .i64 24, .func (.func 71) #[] #[.pointer (some ⟨gm, 0, none⟩), .pointer (some ⟨g1, 0, none⟩), .pointer (some ⟨g3, 0, none⟩)], .int .i64 25, .func (.func 72) #[] #[.pointer (some ⟨g5, 0, none⟩)], .int .i64 20, .func (.func 74) #[] #[.pointer (some ⟨gb, 0, none⟩)]] 108) := ⟨_, rfl⟩
  have hk9 : Kept w6 w9 := hw9 ▸ (Below.refl _ _).alloc (Nat.le_refl _) _
  have hblk : Blk w9 gr 108 #[.int .i64 20, .func (.func 65) #[] #[.pointer (some ⟨g2, 0, none⟩), .pointer (some ⟨g4, 0, none⟩)], .int .i64 21, .func (.func 66) #[] #[.pointer (some ⟨g1, 0, none⟩)], .int .i64 22, .func (.func 67) #[] #[.pointer (some ⟨g7, 0, none⟩)], .int .i64 23, .func (.func 68) #[] #[.pointer (some ⟨gb, 0, none⟩), .pointer (some ⟨g1, 0, none⟩)], .int .i64 22, .func (.func 70) #[] #[.pointer (some ⟨g1, 0, none⟩), .pointer (some ⟨g6, 0, none⟩), .pointer (some ⟨g3, 0, none⟩)], .int .i64 24, .func (.func 71) #[] #[.pointer (some ⟨gm, 0, none⟩), .pointer (some ⟨g1, 0, none⟩), .pointer (some ⟨g3, 0, none⟩)], .int .i64 25, .func (.func 72) #[] #[.pointer (some ⟨g5, 0, none⟩)], .int .i64 20, .func (.func 74) #[] #[.pointer (some ⟨gb, 0, none⟩)]] := by rw [hw9, hgr]; exact Blk.new _ _ _
  have K9 := Lib.hid (Kept.trans K6.out hk9)
  have HD9 := Lib.hid (Dict.kept HMD.out K9.out)
  have H9gb := Lib.hid (HB6.out.kept hk9)
  have HNgb := Lib.hid (show bm ≠ gb from Dict.blk HD9.out H9gb.out)
  have H9gm := Lib.hid (HM6.out.kept hk9)
  have HNgm := Lib.hid (show bm ≠ gm from Dict.blk HD9.out H9gm.out)
  have H9g1 := Lib.hid (HG1y.out.kept hk9)
  have HNg1 := Lib.hid (show bm ≠ g1 from Dict.blk HD9.out H9g1.out)
  have H9g2 := Lib.hid (HG2y.out.kept hk9)
  have HNg2 := Lib.hid (show bm ≠ g2 from Dict.blk HD9.out H9g2.out)
  have H9g3 := Lib.hid (HG3y.out.kept hk9)
  have HNg3 := Lib.hid (show bm ≠ g3 from Dict.blk HD9.out H9g3.out)
  have H9g4 := Lib.hid (HG4y.out.kept hk9)
  have HNg4 := Lib.hid (show bm ≠ g4 from Dict.blk HD9.out H9g4.out)
  have H9g5 := Lib.hid (HGg5.out.kept hk9)
  have HNg5 := Lib.hid (show bm ≠ g5 from Dict.blk HD9.out H9g5.out)
  have H9g6 := Lib.hid (HGg6.out.kept hk9)
  have HNg6 := Lib.hid (show bm ≠ g6 from Dict.blk HD9.out H9g6.out)
  have H9g7 := Lib.hid (HGg7.out.kept hk9)
  have HNg7 := Lib.hid (show bm ≠ g7 from Dict.blk HD9.out H9g7.out)
  have C := check_firstM (.int .i64 xa) (.int .i64 xn) (.int .i64 xd) (.bool xh) (.int .i64 xs) (.int .i64 xl) (.slice aC nC kC) (.slice aT nT kT) [⟨20, 65, #[.pointer (some ⟨g2, 0, none⟩), .pointer (some ⟨g4, 0, none⟩)]⟩, ⟨21, 66, #[.pointer (some ⟨g1, 0, none⟩)]⟩, ⟨22, 67, #[.pointer (some ⟨g7, 0, none⟩)]⟩, ⟨23, 68, #[.pointer (some ⟨gb, 0, none⟩), .pointer (some ⟨g1, 0, none⟩)]⟩, ⟨22, 70, #[.pointer (some ⟨g1, 0, none⟩), .pointer (some ⟨g6, 0, none⟩), .pointer (some ⟨g3, 0, none⟩)]⟩, ⟨24, 71, #[.pointer (some ⟨gm, 0, none⟩), .pointer (some ⟨g1, 0, none⟩), .pointer (some ⟨g3, 0, none⟩)]⟩, ⟨25, 72, #[.pointer (some ⟨g5, 0, none⟩)]⟩, ⟨20, 74, #[.pointer (some ⟨gb, 0, none⟩)]⟩] (.slice (some ⟨gr, 0, none⟩) 8 8) (bsM (!(b1 && b2)) (!metS s) (!isK d) (methF ac xa s) (isS s iniL && !isS q [86] || isS s cliL && !isS d [40, 41, 86]) (l.contains (s, d)) (codeQ xa xh xs xl nC traps a.size) (traps.any (badC pool xh))) (InvN w9 bm n 5 l (s, d)) (fun b => b = bm) w9
    (fun X hX => rows_rd (hblk.touch hX (fun e => (Dict.blk HD9.out hblk) e.symm)) (by omega) rfl rfl)
    ⟨fnM gb gm g1 g2 g3 g4 g5 g6 g7, fun b hb => hb ▸ HD9.out.lt, fun _ _ _ h1 h2 => h1.kept h2, fun k r X hr hno hi _ => by
      rcases k with _ | _ | _ | _ | _ | _ | _ | _ | k
      · simp only [List.getElem?_cons_zero, Option.some.injEq] at hr
        subst hr
        refine Calls.mono (meth_1 xa xn xd xh xs xl (.slice aC nC kC) (.slice aT nT kT) b1 b2 g2 g4 X (H9g2.out.touch hi.tch (fun e => HNg2.out e.symm)) (H9g4.out.touch hi.tch (fun e => HNg4.out e.symm))) ?_
        rintro e w' ⟨he, hk⟩
        exact ⟨by rw [he]; rfl, hi.next (by omega) hk, Touch.of_kept hk⟩
      · simp only [List.getElem?_cons_succ, List.getElem?_cons_zero, Option.some.injEq] at hr
        subst hr
        refine Calls.mono (meth_2 xa xn xd xh xs xl (.slice aC nC kC) (.slice aT nT kT) s g1 X HZS.out (H9g1.out.touch hi.tch (fun e => HNg1.out e.symm))) ?_
        rintro e w' ⟨he, hk⟩
        exact ⟨by rw [he]; rfl, hi.next (by omega) hk, Touch.of_kept hk⟩
      · simp only [List.getElem?_cons_succ, List.getElem?_cons_zero, Option.some.injEq] at hr
        subst hr
        refine Calls.mono (meth_3 xa xn xd xh xs xl (.slice aC nC kC) (.slice aT nT kT) kb g7 X (H9g7.out.touch hi.tch (fun e => HNg7.out e.symm))) ?_
        rintro e w' ⟨he, hk⟩
        exact ⟨by rw [he, HKB.out]; rfl, hi.next (by omega) hk, Touch.of_kept hk⟩
      · simp only [List.getElem?_cons_succ, List.getElem?_cons_zero, Option.some.injEq] at hr
        subst hr
        refine Calls.mono (meth_4 xa xn xd xh xs xl (.slice aC nC kC) (.slice aT nT kT) mi ma ac th su vP vI vF vM s gb g1 X (H9gb.out.touch hi.tch (fun e => HNgb.out e.symm)) (H9g1.out.touch hi.tch (fun e => HNg1.out e.symm))) ?_
        rintro e w' ⟨he, hk⟩
        exact ⟨by rw [he]; rfl, hi.next (by omega) hk, Touch.of_kept hk⟩
      · simp only [List.getElem?_cons_succ, List.getElem?_cons_zero, Option.some.injEq] at hr
        subst hr
        refine Calls.mono (meth_5 xa xn xd xh xs xl (.slice aC nC kC) (.slice aT nT kT) s q d g1 g6 g3 X (H9g1.out.touch hi.tch (fun e => HNg1.out e.symm)) (H9g6.out.touch hi.tch (fun e => HNg6.out e.symm)) (H9g3.out.touch hi.tch (fun e => HNg3.out e.symm))) ?_
        rintro e w' ⟨he, hk⟩
        exact ⟨by rw [he]; rfl, hi.next (by omega) hk, Touch.of_kept hk⟩
      · simp only [List.getElem?_cons_succ, List.getElem?_cons_zero, Option.some.injEq] at hr
        subst hr
        refine Calls.mono (meth_6 xa xn xd xh xs xl (.slice aC nC kC) (.slice aT nT kT) s d l n bm gm g1 g3 X HZS.out HZD.out hn (H9gm.out.touch hi.tch (fun e => HNgm.out e.symm)) (H9g1.out.touch hi.tch (fun e => HNg1.out e.symm)) (H9g3.out.touch hi.tch (fun e => HNg3.out e.symm)) (hi.old (Nat.le_refl _))) ?_
        rintro e w' ⟨he, hk, htc⟩
        exact ⟨by rw [he]; rfl, ⟨hi.tch.trans htc fun _ hb => .inl hb, fun hq => absurd hq (by omega), fun _ hc => hk hc⟩, htc⟩
      · simp only [List.getElem?_cons_succ, List.getElem?_cons_zero, Option.some.injEq] at hr
        subst hr
        refine Calls.mono (meth_7 xa xn xd xh xs xl aC aT nC kC nT kT traps a g5 X ha255 hl (Rd.touchD (HTR.out.kept K9.out) HD9.out hi.tch) HNT.out (H9g5.out.touch hi.tch (fun e => HNg5.out e.symm))) ?_
        rintro e w' ⟨he, hk⟩
        exact ⟨by rw [he]; rfl, hi.next (by omega) hk, Touch.of_kept hk⟩
      · simp only [List.getElem?_cons_succ, List.getElem?_cons_zero, Option.some.injEq] at hr
        subst hr
        refine Calls.mono (meth_8 xa xn xd xh xs xl aC aT nC kC nT kT traps pool mi ma ac th su vP vI vF vM gb X (Rd.touchD (HRD.out.kept K9.out) HD9.out hi.tch) (Rd.touchD (HTR.out.kept K9.out) HD9.out hi.tch) HNT.out (H9gb.out.touch hi.tch (fun e => HNgb.out e.symm))) ?_
        rintro e w' ⟨he, hk⟩
        exact ⟨by rw [he]; rfl, hi.next (by omega) hk, Touch.of_kept hk⟩
      · simp at hr⟩ ⟨Touch.refl _ _, fun _ => HD9.out, fun h => absurd h (by omega)⟩
  unfold FirstG at C
  rw [firstM, ← HR.out] at C
  have HW9 := Lib.hid hw9
  have HGR := Lib.hid hgr
  have HALL := Lib.hid (show R = 0 → ∀ k, k < 8 → bsM (!(b1 && b2)) (!metS s) (!isK d) (methF ac xa s) (isS s iniL && !isS q [86] || isS s cliL && !isS d [40, 41, 86]) (l.contains (s, d)) (codeQ xa xh xs xl nC traps a.size) (traps.any (badC pool xh)) k = false from fun h0 => allrM (by rw [← HR.out]; exact h0))
  clear hk9 hblk hw9 hgr
  have n0 := HX6.out.cell 0
  have n1 := HX6.out.cell 1
  have n2 := HX6.out.cell 2
  have n3 := HX6.out.cell 3
  have n4 := HX6.out.cell 4
  have n5 := HX6.out.cell 5
  have n6 := HX6.out.cell 6
  have n7 := HX6.out.cell 7
  simp only [List.getElem?_toArray, List.getElem?_cons_succ, List.getElem?_cons_zero] at n0 n1 n2 n3 n4 n5 n6 n7
  go_wp2_with (rw [← HGR.out, ← HW9.out]; refine C.mono ?_; rintro e wz ⟨rfl, hall, htz⟩; have HAZ := Lib.hid hall; have HTZ := Lib.hid htz; clear hall htz)
  go_ret
  refine ⟨rfl, fun h0 => ?_, (Touch.of_kept K9.out).trans HTZ.out fun _ hb => .inl hb⟩
  exact (HAZ.out (HALL.out h0)).new (by simp) (HALL.out h0 5 (by decide))
end Go.Proofs.Ytcklmhbcjgiplaa
