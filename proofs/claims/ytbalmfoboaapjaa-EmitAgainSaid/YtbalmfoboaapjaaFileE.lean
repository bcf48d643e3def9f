/-
  Package file by contract: class. Printed by gen_filee.py.
-/
import Derived.Test.YtbalmfoboaapjaaFileD
namespace Go.Proofs.Ytbalmfoboaapjaa
open Go.RowKit
set_option maxRecDepth 100000

theorem elem_const : ElemTy Try.prog 22 41 (.agg #[.int .i64 0, .string ⟨#[]⟩, .int .i64 0, .int .i64 0, .int .i64 0]) 5 48 := ⟨Try.underlying22, by kernel_rfl, rfl, by decide⟩
theorem elem_int : ElemTy Try.prog 23 3 (.int .i64 0) 1 8 := ⟨Try.underlying23, by kernel_rfl, rfl, by decide⟩
theorem elem_field : ElemTy Try.prog 24 51 (.agg #[.int .i64 0, .int .i64 0, .int .i64 0, .int .i64 0]) 4 32 := ⟨Try.underlying24, by kernel_rfl, rfl, by decide⟩
theorem elem_meth : ElemTy Try.prog 25 49 (.agg #[.int .i64 0, .int .i64 0, .int .i64 0, .bool false, .int .i64 0, .int .i64 0, .slice none 0 0, .slice none 0 0]) 8 96 := ⟨Try.underlying25, by kernel_rfl, rfl, by decide⟩
structure MPut9 (w : World) (r : Nat) (u0 u1 u2 u3 u4 u5 u6 u7 u8 : Value) : Prop where
  e0 : (((((((((w.setCell ⟨r, 0, none⟩ u0).setCell ⟨r, 1, none⟩ u1).setCell ⟨r, 2, none⟩ u2).setCell ⟨r, 3, none⟩ u3).setCell ⟨r, 4, none⟩ u4).setCell ⟨r, 5, none⟩ u5).setCell ⟨r, 6, none⟩ u6).setCell ⟨r, 7, none⟩ u7).setCell ⟨r, 8, none⟩ u8).cell? ⟨r, 0, none⟩ = some u0
  e1 : (((((((((w.setCell ⟨r, 0, none⟩ u0).setCell ⟨r, 1, none⟩ u1).setCell ⟨r, 2, none⟩ u2).setCell ⟨r, 3, none⟩ u3).setCell ⟨r, 4, none⟩ u4).setCell ⟨r, 5, none⟩ u5).setCell ⟨r, 6, none⟩ u6).setCell ⟨r, 7, none⟩ u7).setCell ⟨r, 8, none⟩ u8).cell? ⟨r, 1, none⟩ = some u1
  e2 : (((((((((w.setCell ⟨r, 0, none⟩ u0).setCell ⟨r, 1, none⟩ u1).setCell ⟨r, 2, none⟩ u2).setCell ⟨r, 3, none⟩ u3).setCell ⟨r, 4, none⟩ u4).setCell ⟨r, 5, none⟩ u5).setCell ⟨r, 6, none⟩ u6).setCell ⟨r, 7, none⟩ u7).setCell ⟨r, 8, none⟩ u8).cell? ⟨r, 2, none⟩ = some u2
  e3 : (((((((((w.setCell ⟨r, 0, none⟩ u0).setCell ⟨r, 1, none⟩ u1).setCell ⟨r, 2, none⟩ u2).setCell ⟨r, 3, none⟩ u3).setCell ⟨r, 4, none⟩ u4).setCell ⟨r, 5, none⟩ u5).setCell ⟨r, 6, none⟩ u6).setCell ⟨r, 7, none⟩ u7).setCell ⟨r, 8, none⟩ u8).cell? ⟨r, 3, none⟩ = some u3
  e4 : (((((((((w.setCell ⟨r, 0, none⟩ u0).setCell ⟨r, 1, none⟩ u1).setCell ⟨r, 2, none⟩ u2).setCell ⟨r, 3, none⟩ u3).setCell ⟨r, 4, none⟩ u4).setCell ⟨r, 5, none⟩ u5).setCell ⟨r, 6, none⟩ u6).setCell ⟨r, 7, none⟩ u7).setCell ⟨r, 8, none⟩ u8).cell? ⟨r, 4, none⟩ = some u4
  e5 : (((((((((w.setCell ⟨r, 0, none⟩ u0).setCell ⟨r, 1, none⟩ u1).setCell ⟨r, 2, none⟩ u2).setCell ⟨r, 3, none⟩ u3).setCell ⟨r, 4, none⟩ u4).setCell ⟨r, 5, none⟩ u5).setCell ⟨r, 6, none⟩ u6).setCell ⟨r, 7, none⟩ u7).setCell ⟨r, 8, none⟩ u8).cell? ⟨r, 5, none⟩ = some u5
  e6 : (((((((((w.setCell ⟨r, 0, none⟩ u0).setCell ⟨r, 1, none⟩ u1).setCell ⟨r, 2, none⟩ u2).setCell ⟨r, 3, none⟩ u3).setCell ⟨r, 4, none⟩ u4).setCell ⟨r, 5, none⟩ u5).setCell ⟨r, 6, none⟩ u6).setCell ⟨r, 7, none⟩ u7).setCell ⟨r, 8, none⟩ u8).cell? ⟨r, 6, none⟩ = some u6
  e7 : (((((((((w.setCell ⟨r, 0, none⟩ u0).setCell ⟨r, 1, none⟩ u1).setCell ⟨r, 2, none⟩ u2).setCell ⟨r, 3, none⟩ u3).setCell ⟨r, 4, none⟩ u4).setCell ⟨r, 5, none⟩ u5).setCell ⟨r, 6, none⟩ u6).setCell ⟨r, 7, none⟩ u7).setCell ⟨r, 8, none⟩ u8).cell? ⟨r, 7, none⟩ = some u7
  e8 : (((((((((w.setCell ⟨r, 0, none⟩ u0).setCell ⟨r, 1, none⟩ u1).setCell ⟨r, 2, none⟩ u2).setCell ⟨r, 3, none⟩ u3).setCell ⟨r, 4, none⟩ u4).setCell ⟨r, 5, none⟩ u5).setCell ⟨r, 6, none⟩ u6).setCell ⟨r, 7, none⟩ u7).setCell ⟨r, 8, none⟩ u8).cell? ⟨r, 8, none⟩ = some u8
  tch : Touch (fun b => b = r) w (((((((((w.setCell ⟨r, 0, none⟩ u0).setCell ⟨r, 1, none⟩ u1).setCell ⟨r, 2, none⟩ u2).setCell ⟨r, 3, none⟩ u3).setCell ⟨r, 4, none⟩ u4).setCell ⟨r, 5, none⟩ u5).setCell ⟨r, 6, none⟩ u6).setCell ⟨r, 7, none⟩ u7).setCell ⟨r, 8, none⟩ u8)
theorem mput9 {w : World} {r : Nat} {t : TypeId} {a b c d e f g h i : Value} (h : Blk w r t #[a, b, c, d, e, f, g, h, i]) (u0 u1 u2 u3 u4 u5 u6 u7 u8 : Value) : MPut9 w r u0 u1 u2 u3 u4 u5 u6 u7 u8 := by
  have hn := (((((((((h.set_ 0 u0).set_ 1 u1).set_ 2 u2).set_ 3 u3).set_ 4 u4).set_ 5 u5).set_ 6 u6).set_ 7 u7).set_ 8 u8)
  simp at hn
  exact ⟨hn.cell 0, hn.cell 1, hn.cell 2, hn.cell 3, hn.cell 4, hn.cell 5, hn.cell 6, hn.cell 7, hn.cell 8, ((((((((((Touch.refl _ _).one 0 u0).one 1 u1).one 2 u2).one 3 u3).one 4 u4).one 5 u5).one 6 u6).one 7 u7).one 8 u8)⟩
def ClassG (g : Nat) (w : World) (c : ClassC) (_ : PS) (e : Ending) (w' : World) : Prop :=
  ∃ mv vP vI vF vM, e = .returned (.agg (classV c vP vI vF vM).toArray) ∧ CR w.heap.size c mv vP vI vF vM w' ∧ Touch (fun b => b = g) w w'
theorem CR.mono {base base' : Nat} {c : ClassC} {mv : List (MethC × Value × Value)} {vP vI vF vM : Value} {w : World} (h : CR base c mv vP vI vF vM w) (hb : base' ≤ base) : CR base' c mv vP vI vF vM w :=
  ⟨⟨h.p.1, h.p.2.imp id fun ⟨g, cap, cur, e1, e2, e3⟩ => ⟨g, cap, cur, e1, Nat.le_trans hb e2, e3⟩⟩, ⟨h.i.1, h.i.2.imp id fun ⟨g, cap, cur, e1, e2, e3⟩ => ⟨g, cap, cur, e1, Nat.le_trans hb e2, e3⟩⟩,
   ⟨h.f.1, h.f.2.imp id fun ⟨g, cap, cur, e1, e2, e3⟩ => ⟨g, cap, cur, e1, Nat.le_trans hb e2, e3⟩⟩, ⟨h.m.1, h.m.2.imp id fun ⟨g, cap, cur, e1, e2, e3⟩ => ⟨g, cap, cur, e1, Nat.le_trans hb e2, e3⟩⟩, fun x hx => (h.r x hx).mono hb, h.ms⟩

set_option maxHeartbeats 4000000 in
theorem file_class (g B : Nat) (L : List UInt8) (vb : Value) (s : PS) (w : World) (h : RS w g B L vb [] (.slice none 0 0) s) :
    Calls Try.prog 31 #[.pointer (some ⟨g, 0, none⟩)] w (Ans (classP L s) (fun b => b = g) w (ClassG g w)) := by
  obtain ⟨R, hR⟩ : ∃ R, R = classP L s := ⟨_, rfl⟩
  rw [← hR]
  have HR := Lib.hid (hR.trans (classP_eq L s))
  have K0 : Hid (KB w g B L vb [] (.slice none 0 0) ⟨0, 0, [], 0, 0, 0, [], [], []⟩ [] (.slice none 0 0) (.slice none 0 0) (.slice none 0 0) (.slice none 0 0) s ((w.alloc (.cells #[.int .i64 0, .int .i64 0, .slice none 0 0, .int .i64 0, .int .i64 0, .int .i64 0, .slice none 0 0, .slice none 0 0, .slice none 0 0] 27)).alloc (.cells #[.int .i64 0, .int .i64 0, .slice none 0 0, .int .i64 0, .int .i64 0, .int .i64 0, .slice none 0 0, .slice none 0 0, .slice none 0 0] 27))) :=
    Lib.hid ⟨(h.alloc _).alloc _, fun h0 k hk => by have := (h.nb h0 k hk).2; have := h.le; omega, .inl rfl, by have := h.lt; have := h.le; omega, blkF (by simp), (Blk.new _ _ _).alloc _, ⟨World.ownsRow_nil _ _ _ _, World.ownsRow_nil _ _ _ _, World.ownsRow_nil _ _ _ _, World.ownsRow_nil _ _ _ _, fun x hx => (by cases hx), rfl⟩, ((Touch.refl _ w).alloc _).alloc _⟩
  clear h hR
  go_enter Try.func31, Try.ntmps31
  go_upto_region 2 with fail
  generalize ((w.alloc (.cells #[.int .i64 0, .int .i64 0, .slice none 0 0, .int .i64 0, .int .i64 0, .int .i64 0, .slice none 0 0, .slice none 0 0, .slice none 0 0] 27)).alloc (.cells #[.int .i64 0, .int .i64 0, .slice none 0 0, .int .i64 0, .int .i64 0, .int .i64 0, .slice none 0 0, .slice none 0 0, .slice none 0 0] 27)) = W0 at *
  go_wp2_with fail
  refine (ans_k (file_number g B L vb [] (.slice none 0 0) _ 4 W0 K0.out.rs (by omega) (by omega) 4 rfl) HR.out).mono ?_
  rintro e w1 (⟨magic, s1, -, hr, rfl, hrs, ht, -, -⟩ | ⟨q, k, hr, rfl, ht⟩)
  rotate_left
  · refine ⟨rfl, ?_⟩
    rw [hr]
    exact ⟨rfl, K0.out.bad ht⟩
  have R1 := Lib.hid hr
  have K1 := Lib.hid (K0.out.next hrs ht)
  clear hr hrs ht
  clear HR K0
  by_cases hm : magic = 3405691582
  rotate_left
  · have HB := Lib.hid (R1.out.trans (if_pos hm))
    have hmb : (magic != 3405691582) = true := by simpa using hm
    go_wp2_with fail
    refine (file_wrong _ _ _ _).mono ?_
    rintro e w2 ⟨rfl, rfl⟩
    refine ⟨rfl, ?_⟩
    rw [HB.out]
    exact ⟨rfl, K1.out.tch⟩
  have R1' := Lib.hid (R1.out.trans (if_neg (fun e => e hm)))
  clear R1
  subst hm
  go_wp2_with fail
  refine (ans_k (file_number g B L vb [] (.slice none 0 0) _ 2 w1 K1.out.rs (by omega) (by omega) 2 rfl) R1'.out).mono ?_
  rintro e w2 (⟨mi, s2, -, hr, rfl, hrs, ht, -, -⟩ | ⟨q, k, hr, rfl, ht⟩)
  rotate_left
  · refine ⟨rfl, ?_⟩
    rw [hr]
    exact ⟨rfl, K1.out.bad ht⟩
  have R2 := Lib.hid hr
  have K2 := Lib.hid (K1.out.next hrs ht)
  clear hr hrs ht
  clear R1' K1
  go_wp2_with fail
  refine (ans_k (file_number g B L vb [] (.slice none 0 0) _ 2 w2 K2.out.rs (by omega) (by omega) 2 rfl) R2.out).mono ?_
  rintro e w3 (⟨ma, s3, -, hr, rfl, hrs, ht, -, -⟩ | ⟨q, k, hr, rfl, ht⟩)
  rotate_left
  · refine ⟨rfl, ?_⟩
    rw [hr]
    exact ⟨rfl, K2.out.bad ht⟩
  have R3 := Lib.hid hr
  have K3 := Lib.hid (K2.out.next hrs ht)
  clear hr hrs ht
  clear R2 K2
  obtain ⟨z0, z1, -, -, -, -, -, -, -⟩ := K3.out.cells
  have i0 := K3.out.cls.frozen 0
  have i1 := K3.out.cls.frozen 1
  have lz := K3.out.cls.lt
  have K4 := Lib.hid ((K3.out.put 0 (.int .i64 mi) ⟨mi, 0, [], 0, 0, 0, [], [], []⟩ rfl rfl rfl rfl rfl).put 1 (.int .i64 ma) ⟨mi, ma, [], 0, 0, 0, [], [], []⟩ rfl rfl rfl rfl rfl)
  go_upto_region 5 with fail
  clear z0 z1 i0 i1 lz K3
  generalize (w3.setCell ⟨w.heap.size + 1, 0, none⟩ (.int .i64 mi)).setCell ⟨w.heap.size + 1, 1, none⟩ (.int .i64 ma) = W4 at *
  have c1 := K4.out.rs.cells.2.1
  go_wp2_with fail
  refine (ans_k (file_count g B L vb [] (.slice none 0 0) _ 1025 W4 K4.out.rs) R3.out).mono ?_
  rintro e w5 (⟨n5, s4, hcn, hr, rfl, hrs, ht, hn0, -⟩ | ⟨q, k, hr, rfl, ht⟩)
  rotate_left
  · refine ⟨rfl, ?_⟩
    rw [hr]
    exact ⟨rfl, K4.out.bad ht⟩
  have hn1 := countP_le hcn
  have R4 := Lib.hid hr
  have K5 := Lib.hid (K4.out.next hrs ht)
  clear hr hrs ht hcn c1 R3 K4
  by_cases hz : n5 = 0
  · have HB := Lib.hid (R4.out.trans (if_pos hz))
    subst hz
    go_wp2_with fail
    refine (file_wrong _ _ _ _).mono ?_
    rintro e w6 ⟨rfl, rfl⟩
    refine ⟨rfl, ?_⟩
    rw [HB.out]
    exact ⟨rfl, K5.out.tch⟩
  have R5 := Lib.hid (R4.out.trans (if_neg hz))
  obtain ⟨N, rfl⟩ : ∃ N : Nat, n5 = (N : Int) + 1 := ⟨(n5 - 1).toNat, by omega⟩
  have R6 := Lib.hid (show R = (manyP (constP L) N s4).bind (fun pl s5 => clsK1 L mi ma ([] ++ pl) s5) by
    refine R5.out.trans ?_
    rw [show ((N : Int) + 1).toNat - 1 = N by omega]
    rfl)
  have hwr : IntKind.i64.wrap ((N : Int) + 1 - 1) = N := by rw [show (N : Int) + 1 - 1 = N by omega]; exact IntWalk.i64_in _ (by omega)
  have hz2 : ((N : Int) + 1 == 0) = false := by simpa using hz
  have hN : N ≤ 1024 := by omega
  clear R4 R5 hz hn0 hn1
  go_wp2_with fail
  go_loopw [30] (fun sl wr => ∃ (k : Nat) (s5 : PS) (pl : List ConstC) (v : Value), k ≤ N ∧ sl = .int .i64 k ∧ pl.length = k ∧ KB w g B L vb [] (.slice none 0 0) ⟨mi, ma, pl, 0, 0, 0, [], [], []⟩ [] v (.slice none 0 0) (.slice none 0 0) (.slice none 0 0) s5 wr ∧ R = (manyP (constP L) (N - k) s5).bind (fun tr s6 => clsK1 L mi ma (pl ++ tr) s6)) (fun sl _ => N - (intOf sl).toNat)
  case atStart => exact ⟨0, s4, [], _, by omega, rfl, rfl, K5.out, R6.out⟩
  case round =>
    obtain ⟨k, s5, pl, v, hk, rfl, rfl, hC, hr⟩ := hrel
    clear K5 R6
    by_cases hlt : pl.length < N
    · obtain ⟨j, hj⟩ : ∃ j, N - pl.length = j + 1 := ⟨N - pl.length - 1, by omega⟩
      have hjk : j = N - (pl.length + 1) := by omega
      rw [hj, many_succ] at hr
      have hltI : (pl.length : Int) < (N : Int) := by omega
      obtain ⟨av, cv, rfl, -, -⟩ := own_slice hC.rows.p
      have t7 := hC.cells.2.2.1
      have D0 := Lib.hid hC
      have R0 := Lib.hid hr
      have zw := hC.cls.lt
      clear hr hC hj
      go_wp2_with fail
      go_region_law (first
        | (refine step_pushH _ elem_const rfl (.tmp 33) (.tmp 36) rfl (w.heap.size + 2) _ pl.length _ rfl D1.out.rows.p (encC x) _ _ rfl rfl rfl (by intro u hu; simp [encC] at hu; rcases hu with rfl | rfl | rfl | rfl | rfl <;> rfl) (by omega) (by omega) (by have := D1.out.cls.lt; omega) ?_
           intro v5 w9 ho5 hg5 hk5
           obtain ⟨a5, c5, rfl, -, -⟩ := own_slice (n := pl.length + 1) ho5
           have hbl := D1.out.grow D1.out.rows.p hg5
           have y7 := hbl.cell 2
           have i7 := hbl.frozen 2
           have l7 := hbl.lt
           simp only [classV, List.getElem?_toArray, List.getElem?_cons_succ, List.getElem?_cons_zero] at y7
           have D5 := Lib.hid (D1.out.push D1.out.rows.p (fun k hk => by cases hk) hg5 2 (v := .slice a5 (pl.length + 1) c5) (D1.out.rows.pushP hg5 ho5) rfl (.inl rfl))
           clear ho5 hg5 hk5 hbl)
        | (go_simp
           go_at_call 41
           refine (ans_k (file_constant g B L vb [] (.slice none 0 0) _ _ (by first | exact D0.out.rs | exact D0.out.drew.rs)) R0.out).mono ?_
           rintro e x1 (⟨x, q1, -, hr, he, hrs, ht⟩ | ⟨q, kk, hr, rfl, ht⟩)
           rotate_left
           · refine ⟨rfl, ?_⟩
             rw [hr]
             exact ⟨rfl, D0.out.drew.bad ht⟩
           have he : e = .returned (.agg #[.int .i64 x.tag, .string x.text, .int .i64 x.num, .int .i64 x.a, .int .i64 x.b]) := he
           subst he
           have D1 := Lib.hid (D0.out.drew.next hrs ht)
           have R1 := Lib.hid hr
           have t7 := D1.out.cells.2.2.1
           have zw := D1.out.cls.lt
           clear hr hrs ht))
      all_goals
        (have RR := Lib.hid (show R = (manyP (constP L) (N - (pl.length + 1)) q1).bind (fun tr s6 => clsK1 L mi ma ((pl ++ [x]) ++ tr) s6) by
           refine R1.out.trans ?_
           rw [hjk]
           simp only [List.append_assoc, List.singleton_append])
         have DD : Hid (KB w g B L vb [] (.slice none 0 0) ⟨mi, ma, (pl ++ [x]), 0, 0, 0, [], [], []⟩ [] (.slice a5 (pl.length + 1) c5) (.slice none 0 0) (.slice none 0 0) (.slice none 0 0) q1 (w9.setCell ⟨w.heap.size + 1, 2, none⟩ (.slice a5 (pl.length + 1) c5))) := D5
         clear D0 D1 D5 R0 R1 t7 zw y7 i7 l7
         generalize w9.setCell ⟨w.heap.size + 1, 2, none⟩ (.slice a5 (pl.length + 1) c5) = W9 at *
         go_wp2_with fail
         go_roundw
         case rel => exact ⟨pl.length + 1, q1, pl ++ [x], _, by omega, by go_num, by simp, DD.out, RR.out⟩
         case measure => simp [intOf]; omega)
    · have hlN : pl.length = N := by omega
      subst hlN
      have Ra := Lib.hid (show R = clsK1 L mi ma pl s5 by rw [hr, Nat.sub_self]; show clsK1 L mi ma (pl ++ []) s5 = _; rw [List.append_nil])
      have Ka := Lib.hid hC
      have hltI : ¬ (pl.length : Int) < (pl.length : Int) := by omega
      clear hr hC
      clear hlt
      obtain ⟨avP, cvP, rfl, -, -⟩ := own_slice Ka.out.rows.p
      have q2 := Ka.out.cells.2.2.1
      obtain ⟨-, -, -, -, g4⟩ := Ka.out.rs.cells
      have i4 := Ka.out.rs.blk.frozen 4
      have lg := Ka.out.rs.blk.lt
      have ng1 : ¬ (g = w.heap.size + 1) := by have := Ka.out.hg; omega
      have ng2 : ¬ (w.heap.size + 1 = g) := fun e => ng1 e.symm
      have Kb := Lib.hid (Ka.out.pool_ (show pl.length ≤ 1024 by omega))
      go_upto_region 14 with fail
      clear q2 g4 i4 lg Ka hltI hwr hz2
      generalize wr.heap.size = B2 at *
      generalize wr.setCell ⟨g, 4, none⟩ (.slice avP pl.length cvP) = W5 at *
      dsimp only at Kb
      go_wp2_with fail
      refine (ans_k (file_number g B2 L vb pl (.slice avP pl.length cvP) _ 2 W5 Kb.out.rs (by omega) (by omega) 2 rfl) Ra.out).mono ?_
      rintro e w6 (⟨acc, s6, -, hr, rfl, hrs, ht, -, -⟩ | ⟨q, k, hr, rfl, ht⟩)
      rotate_left
      · refine ⟨rfl, ?_⟩
        rw [hr]
        exact ⟨rfl, Kb.out.bad ht⟩
      have Rb := Lib.hid hr
      have Kc := Lib.hid (Kb.out.next hrs ht)
      clear hr hrs ht
      clear Ra Kb
      go_wp2_with fail
      refine (ans_k (file_number g B2 L vb pl (.slice avP pl.length cvP) _ 2 w6 Kc.out.rs (by omega) (by omega) 2 rfl) Rb.out).mono ?_
      rintro e w7 (⟨th, s7, -, hr, rfl, hrs, ht, -, -⟩ | ⟨q, k, hr, rfl, ht⟩)
      rotate_left
      · refine ⟨rfl, ?_⟩
        rw [hr]
        exact ⟨rfl, Kc.out.bad ht⟩
      have Rc := Lib.hid hr
      have Kd := Lib.hid (Kc.out.next hrs ht)
      clear hr hrs ht
      clear Rb Kc
      go_wp2_with fail
      refine (ans_k (file_number g B2 L vb pl (.slice avP pl.length cvP) _ 2 w7 Kd.out.rs (by omega) (by omega) 2 rfl) Rc.out).mono ?_
      rintro e w8 (⟨su, s8, -, hr, rfl, hrs, ht, -, -⟩ | ⟨q, k, hr, rfl, ht⟩)
      rotate_left
      · refine ⟨rfl, ?_⟩
        rw [hr]
        exact ⟨rfl, Kd.out.bad ht⟩
      have Rd_ := Lib.hid hr
      have Ke := Lib.hid (Kd.out.next hrs ht)
      clear hr hrs ht
      clear Rc Kd
      obtain ⟨-, -, -, z3, z4, z5, -, -, -⟩ := Ke.out.cells
      have i3 := Ke.out.cls.frozen 3
      have i4 := Ke.out.cls.frozen 4
      have i5 := Ke.out.cls.frozen 5
      have lz := Ke.out.cls.lt
      have Kf := Lib.hid (((Ke.out.put 3 (.int .i64 acc) ⟨mi, ma, pl, acc, 0, 0, [], [], []⟩ rfl rfl rfl rfl rfl).put 4 (.int .i64 th) ⟨mi, ma, pl, acc, th, 0, [], [], []⟩ rfl rfl rfl rfl rfl).put 5 (.int .i64 su) ⟨mi, ma, pl, acc, th, su, [], [], []⟩ rfl rfl rfl rfl rfl)
      go_upto_region 15 with fail
      clear z3 z4 z5 i3 i4 i5 lz Ke
      generalize ((w8.setCell ⟨w.heap.size + 1, 3, none⟩ (.int .i64 acc)).setCell ⟨w.heap.size + 1, 4, none⟩ (.int .i64 th)).setCell ⟨w.heap.size + 1, 5, none⟩ (.int .i64 su) = W8 at *
      go_wp2_with fail
      refine (ans_k (file_count g B2 L vb pl (.slice avP pl.length cvP) _ 64 W8 Kf.out.rs) Rd_.out).mono ?_
      rintro e w9 (⟨n9, s9, hcn, hr, rfl, hrs, ht, hn0, -⟩ | ⟨q, k, hr, rfl, ht⟩)
      rotate_left
      · refine ⟨rfl, ?_⟩
        rw [hr]
        exact ⟨rfl, Kf.out.bad ht⟩
      have hn1 := countP_le hcn
      obtain ⟨N2, rfl⟩ : ∃ N2 : Nat, n9 = N2 := ⟨n9.toNat, by omega⟩
      have Re := Lib.hid (show R = (manyP (numP L 2) N2 s9).bind (fun tr s6 => clsK2 L mi ma pl acc th su ([] ++ tr) s6) from hr)
      have Kg := Lib.hid (Kf.out.next hrs ht)
      have hN2 : N2 ≤ 64 := by omega
      clear hr hrs ht hcn hn0 hn1 Rd_ Kf
      go_wp2_with fail
      go_loopw [56] (fun sl wr => ∃ (k : Nat) (sI : PS) (is : List Int) (v : Value), k ≤ N2 ∧ sl = .int .i64 k ∧ is.length = k ∧ KB w g B2 L vb pl (.slice avP pl.length cvP) ⟨mi, ma, pl, acc, th, su, is, [], []⟩ [] (.slice avP pl.length cvP) v (.slice none 0 0) (.slice none 0 0) sI wr ∧ R = (manyP (numP L 2) (N2 - k) sI).bind (fun tr s6 => clsK2 L mi ma pl acc th su (is ++ tr) s6)) (fun sl _ => N2 - (intOf sl).toNat)
      case atStart => exact ⟨0, s9, [], _, by omega, rfl, rfl, Kg.out, Re.out⟩
      case round =>
        obtain ⟨k, sI, is, v, hk, rfl, rfl, hC, hr⟩ := hrel
        clear Kg Re
        by_cases hlt : is.length < N2
        · obtain ⟨j, hj⟩ : ∃ j, N2 - is.length = j + 1 := ⟨N2 - is.length - 1, by omega⟩
          have hjk : j = N2 - (is.length + 1) := by omega
          rw [hj, many_succ] at hr
          have hltI : (is.length : Int) < (N2 : Int) := by omega
          obtain ⟨av, cv, rfl, -, -⟩ := own_slice hC.rows.i
          have t7 := hC.cells.2.2.2.2.2.2.1
          have D0 := Lib.hid hC
          have R0 := Lib.hid hr
          have zw := hC.cls.lt
          clear hr hC hj
          go_wp2_with fail
          go_region_law (first
            | (refine step_pushH _ elem_int rfl (.tmp 59) (.tmp 62) rfl (w.heap.size + 2) _ is.length _ rfl D1.out.rows.i (encI x) _ _ rfl rfl rfl (by intro u hu; simp [encI] at hu; subst hu; rfl) (by omega) (by omega) (by have := D1.out.cls.lt; omega) ?_
               intro v5 w9 ho5 hg5 hk5
               obtain ⟨a5, c5, rfl, -, -⟩ := own_slice (n := is.length + 1) ho5
               have hbl := D1.out.grow D1.out.rows.i hg5
               have y7 := hbl.cell 6
               have i7 := hbl.frozen 6
               have l7 := hbl.lt
               simp only [classV, List.getElem?_toArray, List.getElem?_cons_succ, List.getElem?_cons_zero] at y7
               have D5 := Lib.hid (D1.out.push D1.out.rows.i (D1.out.pne D1.out.rows.i (by decide)) hg5 6 (v := .slice a5 (is.length + 1) c5) (D1.out.rows.pushI hg5 ho5) rfl (.inr rfl))
               clear ho5 hg5 hk5 hbl)
            | (go_simp
               go_at_call 38
               refine (ans_k (file_number g B2 L vb pl (.slice avP pl.length cvP) _ 2 _ (by first | exact D0.out.rs | exact D0.out.drew.rs) (by omega) (by omega) 2 rfl) R0.out).mono ?_
               rintro e x1 (⟨x, q1, -, hr, rfl, hrs, ht, -, -⟩ | ⟨q, kk, hr, rfl, ht⟩)
               rotate_left
               · refine ⟨rfl, ?_⟩
                 rw [hr]
                 exact ⟨rfl, D0.out.drew.bad ht⟩
               have D1 := Lib.hid (D0.out.drew.next hrs ht)
               have R1 := Lib.hid hr
               have t7 := D1.out.cells.2.2.2.2.2.2.1
               have zw := D1.out.cls.lt
               clear hr hrs ht))
          all_goals
            (have RR := Lib.hid (show R = (manyP (numP L 2) (N2 - (is.length + 1)) q1).bind (fun tr s6 => clsK2 L mi ma pl acc th su ((is ++ [x]) ++ tr) s6) by
               refine R1.out.trans ?_
               rw [hjk]
               simp only [List.append_assoc, List.singleton_append])
             have DD : Hid (KB w g B2 L vb pl (.slice avP pl.length cvP) ⟨mi, ma, pl, acc, th, su, (is ++ [x]), [], []⟩ [] (.slice avP pl.length cvP) (.slice a5 (is.length + 1) c5) (.slice none 0 0) (.slice none 0 0) q1 (w9.setCell ⟨w.heap.size + 1, 6, none⟩ (.slice a5 (is.length + 1) c5))) := D5
             clear D0 D1 D5 R0 R1 t7 zw y7 i7 l7
             generalize w9.setCell ⟨w.heap.size + 1, 6, none⟩ (.slice a5 (is.length + 1) c5) = W9 at *
             go_wp2_with fail
             go_roundw
             case rel => exact ⟨is.length + 1, q1, is ++ [x], _, by omega, by go_num, by simp, DD.out, RR.out⟩
             case measure => simp [intOf]; omega)
        · have hlN : is.length = N2 := by omega
          subst hlN
          have Rf := Lib.hid (show R = clsK2 L mi ma pl acc th su is sI by rw [hr, Nat.sub_self]; show clsK2 L mi ma pl acc th su (is ++ []) sI = _; rw [List.append_nil])
          have Kh := Lib.hid hC
          have hltI : ¬ (is.length : Int) < (is.length : Int) := by omega
          clear hr hC
          clear hlt
          obtain ⟨avI, cvI, rfl, -, -⟩ := own_slice Kh.out.rows.i
          clear hltI
          go_wp2_with fail
          refine (ans_k (file_count g B2 L vb pl (.slice avP pl.length cvP) _ 64 wr Kh.out.rs) Rf.out).mono ?_
          rintro e wa (⟨na, sa, hcn, hr, rfl, hrs, ht, hn0, -⟩ | ⟨q, k, hr, rfl, ht⟩)
          rotate_left
          · refine ⟨rfl, ?_⟩
            rw [hr]
            exact ⟨rfl, Kh.out.bad ht⟩
          have hn1 := countP_le hcn
          obtain ⟨N3, rfl⟩ : ∃ N3 : Nat, na = N3 := ⟨na.toNat, by omega⟩
          have Rg := Lib.hid (show R = (manyP (fieldP L pl) N3 sa).bind (fun tr s6 => clsK3 L mi ma pl acc th su is ([] ++ tr) s6) from hr)
          have Ki := Lib.hid (Kh.out.next hrs ht)
          have hN3 : N3 ≤ 64 := by omega
          clear hr hrs ht hcn hn0 hn1 Rf Kh
          go_wp2_with fail
          go_loopw [68] (fun sl wr => ∃ (k : Nat) (sF : PS) (fs : List FieldC) (v : Value), k ≤ N3 ∧ sl = .int .i64 k ∧ fs.length = k ∧ KB w g B2 L vb pl (.slice avP pl.length cvP) ⟨mi, ma, pl, acc, th, su, is, fs, []⟩ [] (.slice avP pl.length cvP) (.slice avI is.length cvI) v (.slice none 0 0) sF wr ∧ R = (manyP (fieldP L pl) (N3 - k) sF).bind (fun tr s6 => clsK3 L mi ma pl acc th su is (fs ++ tr) s6)) (fun sl _ => N3 - (intOf sl).toNat)
          case atStart => exact ⟨0, sa, [], _, by omega, rfl, rfl, Ki.out, Rg.out⟩
          case round =>
            obtain ⟨k, sF, fs, v, hk, rfl, rfl, hC, hr⟩ := hrel
            clear Ki Rg
            by_cases hlt : fs.length < N3
            · obtain ⟨j, hj⟩ : ∃ j, N3 - fs.length = j + 1 := ⟨N3 - fs.length - 1, by omega⟩
              have hjk : j = N3 - (fs.length + 1) := by omega
              rw [hj, many_succ] at hr
              have hltI : (fs.length : Int) < (N3 : Int) := by omega
              obtain ⟨av, cv, rfl, -, -⟩ := own_slice hC.rows.f
              have t7 := hC.cells.2.2.2.2.2.2.2.1
              have D0 := Lib.hid hC
              have R0 := Lib.hid hr
              have zw := hC.cls.lt
              clear hr hC hj
              go_wp2_with fail
              go_region_law (first
                | (refine step_pushH _ elem_field rfl (.tmp 71) (.tmp 74) rfl (w.heap.size + 2) _ fs.length _ rfl D1.out.rows.f (encF x) _ _ rfl rfl rfl (by intro u hu; simp [encF] at hu; rcases hu with rfl | rfl | rfl | rfl <;> rfl) (by omega) (by omega) (by have := D1.out.cls.lt; omega) ?_
                   intro v5 w9 ho5 hg5 hk5
                   obtain ⟨a5, c5, rfl, -, -⟩ := own_slice (n := fs.length + 1) ho5
                   have hbl := D1.out.grow D1.out.rows.f hg5
                   have y7 := hbl.cell 7
                   have i7 := hbl.frozen 7
                   have l7 := hbl.lt
                   simp only [classV, List.getElem?_toArray, List.getElem?_cons_succ, List.getElem?_cons_zero] at y7
                   have D5 := Lib.hid (D1.out.push D1.out.rows.f (D1.out.pne D1.out.rows.f (by decide)) hg5 7 (v := .slice a5 (fs.length + 1) c5) (D1.out.rows.pushF hg5 ho5) rfl (.inr rfl))
                   clear ho5 hg5 hk5 hbl)
                | (go_simp
                   go_at_call 42
                   refine (ans_k (file_field g B2 L vb pl (.slice avP pl.length cvP) _ _ (by first | exact D0.out.rs | exact D0.out.drew.rs)) R0.out).mono ?_
                   rintro e x1 (⟨x, q1, -, hr, rfl, hrs, ht⟩ | ⟨q, kk, hr, rfl, ht⟩)
                   rotate_left
                   · refine ⟨rfl, ?_⟩
                     rw [hr]
                     exact ⟨rfl, D0.out.drew.bad ht⟩
                   have D1 := Lib.hid (D0.out.drew.next hrs ht)
                   have R1 := Lib.hid hr
                   have t7 := D1.out.cells.2.2.2.2.2.2.2.1
                   have zw := D1.out.cls.lt
                   clear hr hrs ht))
              all_goals
                (have RR := Lib.hid (show R = (manyP (fieldP L pl) (N3 - (fs.length + 1)) q1).bind (fun tr s6 => clsK3 L mi ma pl acc th su is ((fs ++ [x]) ++ tr) s6) by
                   refine R1.out.trans ?_
                   rw [hjk]
                   simp only [List.append_assoc, List.singleton_append])
                 have DD : Hid (KB w g B2 L vb pl (.slice avP pl.length cvP) ⟨mi, ma, pl, acc, th, su, is, (fs ++ [x]), []⟩ [] (.slice avP pl.length cvP) (.slice avI is.length cvI) (.slice a5 (fs.length + 1) c5) (.slice none 0 0) q1 (w9.setCell ⟨w.heap.size + 1, 7, none⟩ (.slice a5 (fs.length + 1) c5))) := D5
                 clear D0 D1 D5 R0 R1 t7 zw y7 i7 l7
                 generalize w9.setCell ⟨w.heap.size + 1, 7, none⟩ (.slice a5 (fs.length + 1) c5) = W9 at *
                 go_wp2_with fail
                 go_roundw
                 case rel => exact ⟨fs.length + 1, q1, fs ++ [x], _, by omega, by go_num, by simp, DD.out, RR.out⟩
                 case measure => simp [intOf]; omega)
            · have hlN : fs.length = N3 := by omega
              subst hlN
              have Rh := Lib.hid (show R = clsK3 L mi ma pl acc th su is fs sF by rw [hr, Nat.sub_self]; show clsK3 L mi ma pl acc th su is (fs ++ []) sF = _; rw [List.append_nil])
              have Kj := Lib.hid hC
              have hltI : ¬ (fs.length : Int) < (fs.length : Int) := by omega
              clear hr hC
              clear hlt
              obtain ⟨avF, cvF, rfl, -, -⟩ := own_slice Kj.out.rows.f
              clear hltI
              go_wp2_with fail
              refine (ans_k (file_count g B2 L vb pl (.slice avP pl.length cvP) _ 64 wr Kj.out.rs) Rh.out).mono ?_
              rintro e wb (⟨nb, sb, hcn, hr, rfl, hrs, ht, hn0, -⟩ | ⟨q, k, hr, rfl, ht⟩)
              rotate_left
              · refine ⟨rfl, ?_⟩
                rw [hr]
                exact ⟨rfl, Kj.out.bad ht⟩
              have hn1 := countP_le hcn
              obtain ⟨N4, rfl⟩ : ∃ N4 : Nat, nb = N4 := ⟨nb.toNat, by omega⟩
              have Ri := Lib.hid (show R = (manyP (methP L pl) N4 sb).bind (fun tr s6 => clsK4 L mi ma pl acc th su is fs ([] ++ tr) s6) from hr)
              have Kk := Lib.hid (Kj.out.next hrs ht)
              have hN4 : N4 ≤ 64 := by omega
              clear hr hrs ht hcn hn0 hn1 Rh Kj
              go_wp2_with fail
              go_loopw [80] (fun sl wr => ∃ (k : Nat) (sM : PS) (ms : List (MethC × Value × Value)) (v : Value), k ≤ N4 ∧ sl = .int .i64 k ∧ ms.length = k ∧ KB w g B2 L vb pl (.slice avP pl.length cvP) ⟨mi, ma, pl, acc, th, su, is, fs, (ms.map fun x => x.1)⟩ ms (.slice avP pl.length cvP) (.slice avI is.length cvI) (.slice avF fs.length cvF) v sM wr ∧ R = (manyP (methP L pl) (N4 - k) sM).bind (fun tr s6 => clsK4 L mi ma pl acc th su is fs (ms.map (fun x => x.1) ++ tr) s6)) (fun sl _ => N4 - (intOf sl).toNat)
              case atStart => exact ⟨0, sb, [], _, by omega, rfl, rfl, Kk.out, Ri.out⟩
              case round =>
                obtain ⟨k, sM, ms, v, hk, rfl, rfl, hC, hr⟩ := hrel
                clear Kk Ri
                by_cases hlt : ms.length < N4
                · obtain ⟨j, hj⟩ : ∃ j, N4 - ms.length = j + 1 := ⟨N4 - ms.length - 1, by omega⟩
                  have hjk : j = N4 - (ms.length + 1) := by omega
                  rw [hj, many_succ] at hr
                  have hltI : (ms.length : Int) < (N4 : Int) := by omega
                  obtain ⟨av, cv, rfl, -, -⟩ := own_slice hC.rows.m
                  have t7 := hC.cells.2.2.2.2.2.2.2.2
                  have D0 := Lib.hid hC
                  have R0 := Lib.hid hr
                  have zw := hC.cls.lt
                  clear hr hC hj
                  go_wp2_with fail
                  go_region_law (first
                    | (refine step_pushH _ elem_meth rfl (.tmp 83) (.tmp 86) rfl (w.heap.size + 2) _ ms.length _ rfl D1.out.rows.m (encM (x, Value.slice axc x.code.length cxc, Value.slice axt x.traps.length cxt)) _ _ rfl rfl rfl (by intro u hu; simp [encM, methV] at hu; rcases hu with rfl | rfl | rfl | rfl | rfl | rfl | rfl | rfl <;> rfl) (by omega) (by omega) (by have := D1.out.cls.lt; omega) ?_
                       intro v5 w9 ho5 hg5 hk5
                       obtain ⟨a5, c5, rfl, -, -⟩ := own_slice (n := ms.length + 1) ho5
                       have hbl := D1.out.grow D1.out.rows.m hg5
                       have y7 := hbl.cell 8
                       have i7 := hbl.frozen 8
                       have l7 := hbl.lt
                       simp only [classV, List.getElem?_toArray, List.getElem?_cons_succ, List.getElem?_cons_zero] at y7
                       have D5 := Lib.hid (D1.out.push D1.out.rows.m (D1.out.pne D1.out.rows.m (by decide)) hg5 8 (v := .slice a5 (ms.length + 1) c5) (D1.out.rows.pushM HMR.out hg5 ho5) rfl (.inr rfl))
                       clear ho5 hg5 hk5 hbl)
                    | (go_simp
                       go_at_call 43
                       refine (ans_k (file_method g B2 L vb pl (.slice avP pl.length cvP) _ _ (by first | exact D0.out.rs | exact D0.out.drew.rs)) R0.out).mono ?_
                       rintro e x1 (⟨x, q1, -, hr, vc, vt, he, hmr, hrs, ht⟩ | ⟨q, kk, hr, rfl, ht⟩)
                       rotate_left
                       · refine ⟨rfl, ?_⟩
                         rw [hr]
                         exact ⟨rfl, D0.out.drew.bad ht⟩
                       have HMR := Lib.hid (hmr.mono (show w.heap.size + 2 ≤ _ by have := D0.out.cls.lt; show w.heap.size + 2 ≤ wr.heap.size; omega))
                       obtain ⟨axc, cxc, rfl, -, -⟩ := own_slice hmr.code
                       obtain ⟨axt, cxt, rfl, -, -⟩ := own_slice hmr.traps
                       have he : e = .returned (.agg #[.int .i64 x.access, .int .i64 x.name, .int .i64 x.desc, .bool x.has, .int .i64 x.stack, .int .i64 x.locals, .slice axc x.code.length cxc, .slice axt x.traps.length cxt]) := he
                       subst he
                       clear hmr
                       have D1 := Lib.hid (D0.out.drew.next hrs ht)
                       have R1 := Lib.hid hr
                       have t7 := D1.out.cells.2.2.2.2.2.2.2.2
                       have zw := D1.out.cls.lt
                       clear hr hrs ht))
                  all_goals
                    (have RR := Lib.hid (show R = (manyP (methP L pl) (N4 - (ms.length + 1)) q1).bind (fun tr s6 => clsK4 L mi ma pl acc th su is fs ((ms ++ [(x, Value.slice axc x.code.length cxc, Value.slice axt x.traps.length cxt)]).map (fun x => x.1) ++ tr) s6) by
                       refine R1.out.trans ?_
                       rw [hjk]
                       simp only [List.map_append, List.map_cons, List.map_nil, List.append_assoc, List.singleton_append])
                     have DD : Hid (KB w g B2 L vb pl (.slice avP pl.length cvP) ⟨mi, ma, pl, acc, th, su, is, fs, ((ms ++ [(x, Value.slice axc x.code.length cxc, Value.slice axt x.traps.length cxt)]).map fun x => x.1)⟩ (ms ++ [(x, Value.slice axc x.code.length cxc, Value.slice axt x.traps.length cxt)]) (.slice avP pl.length cvP) (.slice avI is.length cvI) (.slice avF fs.length cvF) (.slice a5 (ms.length + 1) c5) q1 (w9.setCell ⟨w.heap.size + 1, 8, none⟩ (.slice a5 (ms.length + 1) c5))) := by rw [List.map_append]; exact D5
                     clear D0 D1 D5 R0 R1 t7 zw y7 i7 l7
                     generalize w9.setCell ⟨w.heap.size + 1, 8, none⟩ (.slice a5 (ms.length + 1) c5) = W9 at *
                     go_wp2_with fail
                     go_roundw
                     case rel => exact ⟨ms.length + 1, q1, ms ++ [(x, Value.slice axc x.code.length cxc, Value.slice axt x.traps.length cxt)], _, by omega, by go_num, by simp, DD.out, RR.out⟩
                     case measure => simp [intOf]; omega)
                · have hlN : ms.length = N4 := by omega
                  subst hlN
                  have Rj := Lib.hid (show R = clsK4 L mi ma pl acc th su is fs (ms.map (fun x => x.1)) sM by rw [hr, Nat.sub_self]; show clsK4 L mi ma pl acc th su is fs (ms.map (fun x => x.1) ++ []) sM = _; rw [List.append_nil])
                  have Kl := Lib.hid hC
                  have hltI : ¬ (ms.length : Int) < (ms.length : Int) := by omega
                  clear hr hC
                  clear hlt
                  obtain ⟨avM, cvM, rfl, -, -⟩ := own_slice Kl.out.rows.m
                  clear hltI
                  go_wp2_with fail
                  refine (ans_k (file_skip g B2 L vb pl (.slice avP pl.length cvP) _ wr Kl.out.rs) Rj.out).mono ?_
                  rintro e wc (⟨_, sc, -, hr, rfl, hrs, ht⟩ | ⟨q, k, hr, rfl, ht⟩)
                  rotate_left
                  · refine ⟨rfl, ?_⟩
                    rw [hr]
                    exact ⟨rfl, Kl.out.bad ht⟩
                  have Rk := Lib.hid hr
                  have Km := Lib.hid (Kl.out.next hrs ht)
                  obtain ⟨d0, d1, -, -, -⟩ := hrs.cells
                  obtain ⟨-, a0, c00, hv, -, -, -⟩ := hrs.rb
                  rw [hv] at d0
                  clear hr hrs ht Rj Kl hv
                  by_cases hlt2 : sc.at_ < L.length
                  · have HB := Lib.hid (Rk.out.trans (if_pos hlt2))
                    have hltJ : (sc.at_ : Int) < (L.length : Int) := by omega
                    go_wp2_with fail
                    go_quiet (fail)
                    go_wp2_with fail
                    refine (file_wrong _ _ _ _).mono ?_
                    rintro e wd ⟨rfl, rfl⟩
                    refine ⟨rfl, ?_⟩
                    rw [HB.out]
                    exact ⟨rfl, (Km.out.drewN _).tch⟩
                  have HB := Lib.hid (Rk.out.trans (if_neg hlt2))
                  have hltJ : ¬ (sc.at_ : Int) < (L.length : Int) := by omega
                  have PM := fun n => mput9 (Km.out.drewN n).res (.int .i64 mi) (.int .i64 ma) (.slice avP pl.length cvP) (.int .i64 acc) (.int .i64 th) (.int .i64 su) (.slice avI is.length cvI) (.slice avF fs.length cvF) (.slice avM ms.length cvM)
                  have HCR := Lib.hid (fun n => ((Km.out.drewN n).rows.touch (PM n).tch fun k hk => by omega).mono (show w.heap.size ≤ w.heap.size + 2 by omega))
                  have HT := Lib.hid (fun n => (Km.out.drewN n).tch.trans (PM n).tch fun k hk => .inr (by omega))
                  obtain ⟨y0, y1, y2, y3, y4, y5, y6, y7, y8⟩ := Km.out.cells
                  have r0 := Km.out.res.cell 0
                  have r1 := Km.out.res.cell 1
                  have r2 := Km.out.res.cell 2
                  have r3 := Km.out.res.cell 3
                  have r4 := Km.out.res.cell 4
                  have r5 := Km.out.res.cell 5
                  have r6 := Km.out.res.cell 6
                  have r7 := Km.out.res.cell 7
                  have r8 := Km.out.res.cell 8
                  simp only [List.getElem?_toArray, List.getElem?_cons_succ, List.getElem?_cons_zero] at r0 r1 r2 r3 r4 r5 r6 r7 r8
                  have i0 := Km.out.res.frozen 0
                  have i1 := Km.out.res.frozen 1
                  have i2 := Km.out.res.frozen 2
                  have i3 := Km.out.res.frozen 3
                  have i4 := Km.out.res.frozen 4
                  have i5 := Km.out.res.frozen 5
                  have i6 := Km.out.res.frozen 6
                  have i7 := Km.out.res.frozen 7
                  have i8 := Km.out.res.frozen 8
                  have lr := Km.out.res.lt
                  have E0 := Lib.hid (fun n => (PM n).e0)
                  have E1 := Lib.hid (fun n => (PM n).e1)
                  have E2 := Lib.hid (fun n => (PM n).e2)
                  have E3 := Lib.hid (fun n => (PM n).e3)
                  have E4 := Lib.hid (fun n => (PM n).e4)
                  have E5 := Lib.hid (fun n => (PM n).e5)
                  have E6 := Lib.hid (fun n => (PM n).e6)
                  have E7 := Lib.hid (fun n => (PM n).e7)
                  have E8 := Lib.hid (fun n => (PM n).e8)
                  clear PM
                  go_wp2_with fail
                  go_quiet (fail)
                  go_wp2_with fail
                  refine bodyPost_ret (v := .agg (classV ⟨mi, ma, pl, acc, th, su, is, fs, ms.map fun x => x.1⟩ (.slice avP pl.length cvP) (.slice avI is.length cvI) (.slice avF fs.length cvF) (.slice avM ms.length cvM)).toArray) (by simp [results, Try.results31, go_sem, classV, E0.out, E1.out, E2.out, E3.out, E4.out, E5.out, E6.out, E7.out, E8.out]) rfl ?_
                  rw [HB.out, Ans.ok_]
                  exact ⟨ms, _, _, _, _, rfl, HCR.out _, HT.out _⟩
end Go.Proofs.Ytbalmfoboaapjaa
