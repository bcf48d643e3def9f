/-
  Package check by contract: the rules of a method.
-/
import Derived.Test.YtcklmhbcjgiplaaCkC
namespace Go.Proofs.Ytcklmhbcjgiplaa
set_option linter.unusedVariables false
set_option linter.unusedSimpArgs false
open Go.RowKit
open Go.Maps Go.WideMaps
set_option maxRecDepth 100000

set_option maxHeartbeats 4000000 in
theorem meth_4 (xa xn xd : Int) (xh : Bool) (xs xl : Int) (vC vT : Value) (mi ma ac th su : Int) (vP vI vF vM : Value) (s : ByteArray) (gb gs : Nat) (w : World) (h1 : Blk w gb 74 #[.int .i64 mi, .int .i64 ma, vP, .int .i64 ac, .int .i64 th, .int .i64 su, vI, vF, vM]) (h2 : Blk w gs 9 #[.string s]) :
    Calls Try.prog 68 #[.agg #[.int .i64 xa, .int .i64 xn, .int .i64 xd, .bool xh, .int .i64 xs, .int .i64 xl, vC, vT], .pointer (some ⟨gb, 0, none⟩), .pointer (some ⟨gs, 0, none⟩)] w (BoolG (methF ac xa s) w) := by
  have hk : Kept w (w.alloc (.cells #[.int .i64 xa, .int .i64 xn, .int .i64 xd, .bool xh, .int .i64 xs, .int .i64 xl, vC, vT] 52)) := (Below.refl _ _).alloc (Nat.le_refl _) _
  have HK := Lib.hid hk
  have HB := Lib.hid (Blk.new w 52 #[.int .i64 xa, .int .i64 xn, .int .i64 xd, .bool xh, .int .i64 xs, .int .i64 xl, vC, vT])
  have HG := Lib.hid (h1.kept hk)
  have HS := Lib.hid (h2.kept hk)
  have C := check_flags xa xn xd xh xs xl vC vT mi ma ac th su vP vI vF vM s (w.alloc (.cells #[.int .i64 xa, .int .i64 xn, .int .i64 xd, .bool xh, .int .i64 xs, .int .i64 xl, vC, vT] 52))
  obtain ⟨R, hR⟩ : ∃ R, R = methF ac xa s := ⟨_, rfl⟩
  rw [← hR] at C ⊢
  clear hk h1 h2 hR
  go_enter Try.func68, Try.ntmps68
  go_upto_region 1 with fail
  generalize (w.alloc (.cells #[.int .i64 xa, .int .i64 xn, .int .i64 xd, .bool xh, .int .i64 xs, .int .i64 xl, vC, vT] 52)) = W at *
  have c0 := HB.out.cell 0
  have c1 := HB.out.cell 1
  have c2 := HB.out.cell 2
  have c3 := HB.out.cell 3
  have c4 := HB.out.cell 4
  have c5 := HB.out.cell 5
  have c6 := HB.out.cell 6
  have c7 := HB.out.cell 7
  simp only [List.getElem?_toArray, List.getElem?_cons_succ, List.getElem?_cons_zero] at c0 c1 c2 c3 c4 c5 c6 c7
  have j0 := HG.out.cell 0
  have j1 := HG.out.cell 1
  have j2 := HG.out.cell 2
  have j3 := HG.out.cell 3
  have j4 := HG.out.cell 4
  have j5 := HG.out.cell 5
  have j6 := HG.out.cell 6
  have j7 := HG.out.cell 7
  have j8 := HG.out.cell 8
  simp only [List.getElem?_toArray, List.getElem?_cons_succ, List.getElem?_cons_zero] at j0 j1 j2 j3 j4 j5 j6 j7 j8
  have q0 := HS.out.cell 0
  simp only [List.getElem?_toArray, List.getElem?_cons_succ, List.getElem?_cons_zero] at q0
  go_wp2_with fail
  refine C.mono ?_
  rintro e w1 ⟨rfl, hk1⟩
  have K1 := Lib.hid (Kept.trans HK.out hk1)
  clear hk1 C
  go_wp2_with fail
  go_ret
  exact ⟨rfl, K1.out⟩
set_option maxHeartbeats 4000000 in
theorem meth_5 (xa xn xd : Int) (xh : Bool) (xs xl : Int) (vC vT : Value) (s q d : ByteArray) (gs gq gd : Nat) (w : World) (h1 : Blk w gs 9 #[.string s]) (h2 : Blk w gq 9 #[.string q]) (h3 : Blk w gd 9 #[.string d]) :
    Calls Try.prog 70 #[.agg #[.int .i64 xa, .int .i64 xn, .int .i64 xd, .bool xh, .int .i64 xs, .int .i64 xl, vC, vT], .pointer (some ⟨gs, 0, none⟩), .pointer (some ⟨gq, 0, none⟩), .pointer (some ⟨gd, 0, none⟩)] w (BoolG (isS s iniL && !isS q [86] || isS s cliL && !isS d [40, 41, 86]) w) := by
  have hk : Kept w (w.alloc (.cells #[.int .i64 xa, .int .i64 xn, .int .i64 xd, .bool xh, .int .i64 xs, .int .i64 xl, vC, vT] 52)) := (Below.refl _ _).alloc (Nat.le_refl _) _
  have HK := Lib.hid hk
  have c1 := (h1.kept hk).cell 0
  simp only [List.getElem?_toArray, List.getElem?_cons_succ, List.getElem?_cons_zero] at c1
  have c2 := (h2.kept hk).cell 0
  simp only [List.getElem?_toArray, List.getElem?_cons_succ, List.getElem?_cons_zero] at c2
  have c3 := (h3.kept hk).cell 0
  simp only [List.getElem?_toArray, List.getElem?_cons_succ, List.getElem?_cons_zero] at c3
  obtain ⟨bi, hbi⟩ : ∃ b, (s.toList == [60, 105, 110, 105, 116, 62]) = b := ⟨_, rfl⟩
  obtain ⟨bc, hbc⟩ : ∃ b, (s.toList == [60, 99, 108, 105, 110, 105, 116, 62]) = b := ⟨_, rfl⟩
  obtain ⟨bq, hbq⟩ : ∃ b, (q.toList == [86]) = b := ⟨_, rfl⟩
  obtain ⟨bd, hbd⟩ : ∃ b, (d.toList == [40, 41, 86]) = b := ⟨_, rfl⟩
  have hqn : (q.toList != [86]) = !bq := by rw [← hbq]; rfl
  have hdn : (d.toList != [40, 41, 86]) = !bd := by rw [← hbd]; rfl
  obtain ⟨R, hR⟩ : ∃ R, R = (isS s iniL && !isS q [86] || isS s cliL && !isS d [40, 41, 86]) := ⟨_, rfl⟩
  rw [← hR]
  rw [show isS s iniL = bi from hbi, show isS s cliL = bc from hbc, show isS q [86] = bq from hbq, show isS d [40, 41, 86] = bd from hbd] at hR
  have HR := Lib.hid hR
  clear hk h1 h2 h3 hR
  go_enter Try.func70, Try.ntmps70
  go_upto_region 1 with fail
  generalize (w.alloc (.cells #[.int .i64 xa, .int .i64 xn, .int .i64 xd, .bool xh, .int .i64 xs, .int .i64 xl, vC, vT] 52)) = W at *
  cases bi
  · cases bc
    · (go_wp2_with fail; go_ret; exact ⟨by rw [HR.out]; rfl, HK.out⟩)
    cases bd <;>
    (go_wp2_with fail; go_ret; exact ⟨by rw [HR.out]; rfl, HK.out⟩)
  cases bq
  · (go_wp2_with fail; go_ret; exact ⟨by rw [HR.out]; rfl, HK.out⟩)
  cases bc
  · (go_wp2_with fail; go_ret; exact ⟨by rw [HR.out]; rfl, HK.out⟩)
  cases bd <;>
  (go_wp2_with fail; go_ret; exact ⟨by rw [HR.out]; rfl, HK.out⟩)
set_option maxHeartbeats 4000000 in
theorem meth_7 (xa xn xd : Int) (xh : Bool) (xs xl : Int) (aC aT : Option Addr) (nC kC nT kT : Nat) (traps : List TrapC) (s : ByteArray) (gs : Nat) (w : World) (hn : s.size ≤ 255) (hl : nC ≤ 4611686018427387904) (ht : Rd w 4 (.slice aT nT kT) traps.length (traps.flatMap encT)) (hnt : nT = traps.length) (h1 : Blk w gs 9 #[.string s]) :
    Calls Try.prog 72 #[.agg #[.int .i64 xa, .int .i64 xn, .int .i64 xd, .bool xh, .int .i64 xs, .int .i64 xl, .slice aC nC kC, .slice aT nT kT], .pointer (some ⟨gs, 0, none⟩)] w (BoolG (codeQ xa xh xs xl nC traps s.size) w) := by
  have hk : Kept w (w.alloc (.cells #[.int .i64 xa, .int .i64 xn, .int .i64 xd, .bool xh, .int .i64 xs, .int .i64 xl, .slice aC nC kC, .slice aT nT kT] 52)) := (Below.refl _ _).alloc (Nat.le_refl _) _
  have HK := Lib.hid hk
  have HB := Lib.hid (Blk.new w 52 #[.int .i64 xa, .int .i64 xn, .int .i64 xd, .bool xh, .int .i64 xs, .int .i64 xl, .slice aC nC kC, .slice aT nT kT])
  have HS := Lib.hid (h1.kept hk)
  have C := check_code xa xn xd xh xs xl aC aT nC kC nT kT traps s (w.alloc (.cells #[.int .i64 xa, .int .i64 xn, .int .i64 xd, .bool xh, .int .i64 xs, .int .i64 xl, .slice aC nC kC, .slice aT nT kT] 52)) hn hl (ht.kept hk) hnt
  obtain ⟨R, hR⟩ : ∃ R, R = codeQ xa xh xs xl nC traps s.size := ⟨_, rfl⟩
  rw [← hR] at C ⊢
  clear hk h1 hR ht hnt hn hl
  go_enter Try.func72, Try.ntmps72
  go_upto_region 1 with fail
  generalize (w.alloc (.cells #[.int .i64 xa, .int .i64 xn, .int .i64 xd, .bool xh, .int .i64 xs, .int .i64 xl, .slice aC nC kC, .slice aT nT kT] 52)) = W at *
  have c0 := HB.out.cell 0
  have c1 := HB.out.cell 1
  have c2 := HB.out.cell 2
  have c3 := HB.out.cell 3
  have c4 := HB.out.cell 4
  have c5 := HB.out.cell 5
  have c6 := HB.out.cell 6
  have c7 := HB.out.cell 7
  simp only [List.getElem?_toArray, List.getElem?_cons_succ, List.getElem?_cons_zero] at c0 c1 c2 c3 c4 c5 c6 c7
  have q0 := HS.out.cell 0
  simp only [List.getElem?_toArray, List.getElem?_cons_succ, List.getElem?_cons_zero] at q0
  go_wp2_with fail
  refine C.mono ?_
  rintro e w1 ⟨rfl, hk1⟩
  have K1 := Lib.hid (Kept.trans HK.out hk1)
  clear hk1 C
  go_wp2_with fail
  go_ret
  exact ⟨rfl, K1.out⟩
set_option maxHeartbeats 8000000 in
theorem meth_8 (xa xn xd : Int) (xh : Bool) (xs xl : Int) (aC aT : Option Addr) (nC kC nT kT : Nat) (traps : List TrapC) (pool : List ConstC) (mi ma ac th su : Int) (vP vI vF vM : Value) (gb : Nat) (w : World) (hr : Rd w 5 vP pool.length (pool.flatMap encC)) (ht : Rd w 4 (.slice aT nT kT) traps.length (traps.flatMap encT)) (hnt : nT = traps.length) (h1 : Blk w gb 74 #[.int .i64 mi, .int .i64 ma, vP, .int .i64 ac, .int .i64 th, .int .i64 su, vI, vF, vM]) :
    Calls Try.prog 74 #[.agg #[.int .i64 xa, .int .i64 xn, .int .i64 xd, .bool xh, .int .i64 xs, .int .i64 xl, .slice aC nC kC, .slice aT nT kT], .pointer (some ⟨gb, 0, none⟩)] w (BoolG (traps.any (badC pool xh)) w) := by
  have hk : Kept w (w.alloc (.cells #[.int .i64 xa, .int .i64 xn, .int .i64 xd, .bool xh, .int .i64 xs, .int .i64 xl, .slice aC nC kC, .slice aT nT kT] 52)) := (Below.refl _ _).alloc (Nat.le_refl _) _
  have HK := Lib.hid hk
  have HB := Lib.hid (Blk.new w 52 #[.int .i64 xa, .int .i64 xn, .int .i64 xd, .bool xh, .int .i64 xs, .int .i64 xl, .slice aC nC kC, .slice aT nT kT])
  have HG := Lib.hid (h1.kept hk)
  have HRD := Lib.hid hr
  have N1 := Lib.hid hnt
  have htn : Rd w 4 (.slice aT nT kT) nT (traps.flatMap encT) := by rw [hnt] at ht ⊢; exact ht
  have HTN := Lib.hid htn
  have hnb : nT ≤ 9223372036854775807 := by obtain ⟨_, _, _, e, q1, q2, _⟩ := htn; cases e; omega
  obtain ⟨R, hR⟩ : ∃ R, R = traps.any (badC pool xh) := ⟨_, rfl⟩
  rw [← hR]
  have HR := Lib.hid hR
  clear hk hr ht hnt htn h1 hR
  go_enter Try.func74, Try.ntmps74
  go_upto_region 1 with fail
  generalize (w.alloc (.cells #[.int .i64 xa, .int .i64 xn, .int .i64 xd, .bool xh, .int .i64 xs, .int .i64 xl, .slice aC nC kC, .slice aT nT kT] 52)) = W at *
  have c0 := HB.out.cell 0
  have c1 := HB.out.cell 1
  have c2 := HB.out.cell 2
  have c3 := HB.out.cell 3
  have c4 := HB.out.cell 4
  have c5 := HB.out.cell 5
  have c6 := HB.out.cell 6
  have c7 := HB.out.cell 7
  simp only [List.getElem?_toArray, List.getElem?_cons_succ, List.getElem?_cons_zero] at c0 c1 c2 c3 c4 c5 c6 c7
  go_wp2_with fail
  go_loopw [11] (fun sl wr => ∃ k : Nat, k ≤ nT ∧ sl = .int .i64 k ∧ Kept w wr ∧ Blk wr w.heap.size 52 #[.int .i64 xa, .int .i64 xn, .int .i64 xd, .bool xh, .int .i64 xs, .int .i64 xl, .slice aC nC kC, .slice aT nT kT] ∧ Blk wr gb 74 #[.int .i64 mi, .int .i64 ma, vP, .int .i64 ac, .int .i64 th, .int .i64 su, vI, vF, vM] ∧ (traps.take k).any (badC pool xh) = false) (fun sl _ => nT - (intOf sl).toNat)
  case atStart => exact ⟨0, by omega, rfl, HK.out, HB.out, HG.out, by simp⟩
  case round =>
    obtain ⟨k, hk, rfl, hkw, hb, hg, hno⟩ := hrel
    have HNO := Lib.hid hno
    have KW := Lib.hid hkw
    have HBW := Lib.hid hb
    have HGW := Lib.hid hg
    clear hno hkw hb hg
    by_cases hlt : k < nT
    rotate_left
    · obtain rfl : k = nT := by omega
      have HR2 := Lib.hid (show R = false by rw [HR.out, ← HNO.out, List.take_of_length_le (by have := N1.out; omega)])
      go_wp2_with fail
      go_ret
      exact ⟨by rw [HR2.out]; rfl, KW.out⟩
    obtain ⟨⟨fr, tq, at_, ty⟩, hx⟩ : ∃ x, traps[k]? = some x := ⟨_, List.getElem?_eq_getElem (by have := N1.out; omega)⟩
    obtain ⟨b1, o1, d1, hv1, e0, e1, e2, e3⟩ := trap_cell N1.out (HTN.out.kept KW.out) hx
    simp only [Value.slice.injEq] at hv1
    obtain ⟨rfl, -, rfl⟩ := hv1
    dsimp only at e0 e1 e2 e3
    have hkI : (k : Int) < (nT : Int) := by omega
    have h0I : (0 : Int) ≤ (k : Int) := by omega
    have HX := Lib.hid hx
    clear hx
    have HRH := Lib.hid (show badC pool xh ⟨fr, tq, at_, ty⟩ = true → R = true from fun h => by rw [HR.out]; exact any_at HX.out h)
    go_upto_region 4 with fail
    have hkt : Kept wr (wr.alloc (.cells #[.int .i64 fr, .int .i64 tq, .int .i64 at_, .int .i64 ty] 59)) := (Below.refl _ _).alloc (Nat.le_refl _) _
    have HTB := Lib.hid (Blk.new wr 59 #[.int .i64 fr, .int .i64 tq, .int .i64 at_, .int .i64 ty])
    have K1 := Lib.hid (Kept.trans KW.out hkt)
    have HB1 := Lib.hid (HBW.out.kept hkt)
    have HG1 := Lib.hid (HGW.out.kept hkt)
    clear hkt
    obtain ⟨gt, hgt⟩ : ∃ g, g = wr.heap.size := ⟨_, rfl⟩
    rw [← hgt] at HTB ⊢
    generalize (wr.alloc (.cells #[.int .i64 fr, .int .i64 tq, .int .i64 at_, .int .i64 ty] 59)) = w1 at *
    clear hgt
    have t0 := HTB.out.cell 0
    have t1 := HTB.out.cell 1
    have t2 := HTB.out.cell 2
    have t3 := HTB.out.cell 3
    simp only [List.getElem?_toArray, List.getElem?_cons_succ, List.getElem?_cons_zero] at t0 t1 t2 t3
    have m0 := HB1.out.cell 0
    have m1 := HB1.out.cell 1
    have m2 := HB1.out.cell 2
    have m3 := HB1.out.cell 3
    have m4 := HB1.out.cell 4
    have m5 := HB1.out.cell 5
    have m6 := HB1.out.cell 6
    have m7 := HB1.out.cell 7
    simp only [List.getElem?_toArray, List.getElem?_cons_succ, List.getElem?_cons_zero] at m0 m1 m2 m3 m4 m5 m6 m7
    have j0 := HG1.out.cell 0
    have j1 := HG1.out.cell 1
    have j2 := HG1.out.cell 2
    have j3 := HG1.out.cell 3
    have j4 := HG1.out.cell 4
    have j5 := HG1.out.cell 5
    have j6 := HG1.out.cell 6
    have j7 := HG1.out.cell 7
    have j8 := HG1.out.cell 8
    simp only [List.getElem?_toArray, List.getElem?_cons_succ, List.getElem?_cons_zero] at j0 j1 j2 j3 j4 j5 j6 j7 j8
    have C := check_at pool mi ma ac th su vP vI vF vM ty 7 w1 (HRD.out.kept K1.out)
    obtain ⟨y, hy⟩ : ∃ x, x = (getC pool ty 7).getD zeroK := ⟨_, rfl⟩
    obtain ⟨ok, hok⟩ : ∃ b, b = (getC pool ty 7).isSome := ⟨_, rfl⟩
    unfold AtG at C
    rw [← hy, ← hok] at C
    have HV := Lib.hid (show badC pool xh ⟨fr, tq, at_, ty⟩ = (xh && ty != 0 && !ok) by unfold badC; rw [hok])
    clear hy hok
    go_wp2_with fail
    refine C.mono ?_
    rintro e w2 ⟨he, hk2⟩
    have he : e = .returned (.tuple #[.agg #[.int .i64 y.tag, .string y.text, .int .i64 y.num, .int .i64 y.a, .int .i64 y.b], .bool ok]) := he
    subst he
    have K2 := Lib.hid (Kept.trans K1.out hk2)
    have HB2 := Lib.hid (HB1.out.kept hk2)
    have HG2 := Lib.hid (HG1.out.kept hk2)
    have HT2 := Lib.hid (HTB.out.kept hk2)
    clear hk2 C
    go_upto_region 5 with fail
    have hk3 : Kept w2 (w2.alloc (.cells #[.int .i64 y.tag, .string y.text, .int .i64 y.num, .int .i64 y.a, .int .i64 y.b] 47)) := (Below.refl _ _).alloc (Nat.le_refl _) _
    have K3 := Lib.hid (Kept.trans K2.out hk3)
    have HB3 := Lib.hid (HB2.out.kept hk3)
    have HG3 := Lib.hid (HG2.out.kept hk3)
    have HT3 := Lib.hid (HT2.out.kept hk3)
    clear hk3
    generalize (w2.alloc (.cells #[.int .i64 y.tag, .string y.text, .int .i64 y.num, .int .i64 y.a, .int .i64 y.b] 47)) = w3 at *
    have u0 := HT3.out.cell 0
    have u1 := HT3.out.cell 1
    have u2 := HT3.out.cell 2
    have u3 := HT3.out.cell 3
    simp only [List.getElem?_toArray, List.getElem?_cons_succ, List.getElem?_cons_zero] at u0 u1 u2 u3
    have n0 := HB3.out.cell 0
    have n1 := HB3.out.cell 1
    have n2 := HB3.out.cell 2
    have n3 := HB3.out.cell 3
    have n4 := HB3.out.cell 4
    have n5 := HB3.out.cell 5
    have n6 := HB3.out.cell 6
    have n7 := HB3.out.cell 7
    simp only [List.getElem?_toArray, List.getElem?_cons_succ, List.getElem?_cons_zero] at n0 n1 n2 n3 n4 n5 n6 n7
    by_cases hz : ty = 0
    · have hz1 : (ty != 0) = false := by simpa using hz
      have HV2 := Lib.hid (show badC pool xh ⟨fr, tq, at_, ty⟩ = false by rw [HV.out, hz1]; simp)
      clear hz
      cases xh <;>
      (go_wp2_with fail
       go_roundw
       case rel => exact ⟨k + 1, by omega, by go_num, K3.out, HB3.out, HG3.out, any_take HX.out HNO.out HV2.out⟩
       case measure => simp [intOf]; omega)
    · have hz1 : (ty != 0) = true := by simpa using hz
      clear hz
      cases xh
      · have HV2 := Lib.hid (show badC pool false ⟨fr, tq, at_, ty⟩ = false by rw [HV.out]; rfl)
        go_wp2_with fail
        go_roundw
        case rel => exact ⟨k + 1, by omega, by go_num, K3.out, HB3.out, HG3.out, any_take HX.out HNO.out HV2.out⟩
        case measure => simp [intOf]; omega
      cases ok
      · have HR2 := Lib.hid (HRH.out (by rw [HV.out, hz1]; rfl))
        go_wp2_with fail
        go_ret
        exact ⟨by rw [HR2.out]; rfl, K3.out⟩
      · have HV2 := Lib.hid (show badC pool true ⟨fr, tq, at_, ty⟩ = false by rw [HV.out, hz1]; rfl)
        go_wp2_with fail
        go_roundw
        case rel => exact ⟨k + 1, by omega, by go_num, K3.out, HB3.out, HG3.out, any_take HX.out HNO.out HV2.out⟩
        case measure => simp [intOf]; omega
end Go.Proofs.Ytcklmhbcjgiplaa
