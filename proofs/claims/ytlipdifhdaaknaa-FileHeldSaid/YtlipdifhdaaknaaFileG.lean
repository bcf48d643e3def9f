/-
  The law's own small class; alive.
-/
import Derived.Test.YtlipdifhdaaknaaFileF
import Derived.Lib.AppendStr
namespace Go.Proofs.Ytlipdifhdaaknaa
open Go.RowKit
set_option maxRecDepth 100000

def smallA : List UInt8 := [202, 254, 186, 190, 0, 0, 0, 52, 0, 5, 1, 0, 1, 65, 7, 0, 1, 1, 0, 16]
def smallB : List UInt8 := [106, 97, 118, 97, 47, 108, 97, 110, 103, 47, 79, 98, 106, 101, 99, 116]
def smallC : List UInt8 := [7, 0, 3, 0, 33, 0, 2, 0, 4, 0, 0, 0, 0, 0, 0, 0, 0]
def smallL : List UInt8 := smallA ++ smallB ++ smallC
set_option maxHeartbeats 2000000 in
theorem law3_small (w : World) : Calls Try.prog 14 #[] w fun e w' => ∃ v, e = .returned v ∧ w'.ownsRow w.heap.size 5 1 v 53 (smallL.map byteV) ∧ Kept w w' := by
  have HO1 : (w.alloc (.cells #[.int .u8 202, .int .u8 254, .int .u8 186, .int .u8 190, .int .u8 0, .int .u8 0, .int .u8 0, .int .u8 52, .int .u8 0, .int .u8 5, .int .u8 1, .int .u8 0, .int .u8 1, .int .u8 65, .int .u8 7, .int .u8 0, .int .u8 1, .int .u8 1, .int .u8 0, .int .u8 16] 5)).ownsRow w.heap.size 5 1 (.slice (some ⟨w.heap.size, 0, none⟩) 20 20) 20 (smallA.map byteV) :=
    ⟨by simp [smallA], .inr ⟨w.heap.size, 20, _, rfl, Nat.le_refl _, heap_alloc_new w _, Nat.le_refl _, by decide, rfl, rfl⟩⟩
  have HK1 : Kept w (w.alloc (.cells #[.int .u8 202, .int .u8 254, .int .u8 186, .int .u8 190, .int .u8 0, .int .u8 0, .int .u8 0, .int .u8 52, .int .u8 0, .int .u8 5, .int .u8 1, .int .u8 0, .int .u8 1, .int .u8 65, .int .u8 7, .int .u8 0, .int .u8 1, .int .u8 1, .int .u8 0, .int .u8 16] 5)) := (Below.refl _ _).alloc (Nat.le_refl _) _
  obtain ⟨i, hi, hz0, hz1, hz2⟩ := info_parts elem_byte.hi
  go_enter Try.func14, Try.ntmps14
  go_upto_region 2 with fail
  generalize w.alloc (.cells #[.int .u8 202, .int .u8 254, .int .u8 186, .int .u8 190, .int .u8 0, .int .u8 0, .int .u8 0, .int .u8 52, .int .u8 0, .int .u8 5, .int .u8 1, .int .u8 0, .int .u8 1, .int .u8 65, .int .u8 7, .int .u8 0, .int .u8 1, .int .u8 1, .int .u8 0, .int .u8 16] 5) = W1 at *
  have hs1 : w.heap.size ≤ W1.heap.size := HK1.size
  go_upto_region 3 with (at_builtin; refine Lib.wpList_append_own_string _ rfl _ _ 22 9 rfl w.heap.size 5 i elem_byte.ht (by kernel_rfl) hi hz0 hz1 hz2 _ 20 _ rfl HO1 ⟨#[106, 97, 118, 97, 47, 108, 97, 110, 103, 47, 79, 98, 106, 101, 99, 116]⟩ rfl (by decide) (by decide) hs1 ?_; intro v2 w2 ho2 hg2 _; obtain ⟨a2, c2, rfl, -, -⟩ := own_slice (n := 36) ho2; have HK2 := Lib.hid (HK1.grown hg2 hs1 fun k hk => (HO1.lt k hk).1); have HO2 := Lib.hid ho2; clear ho2 hg2)
  have HN := Lib.hid (show Rd (w2.alloc (.cells #[.int .u8 7, .int .u8 0, .int .u8 3, .int .u8 0, .int .u8 33, .int .u8 0, .int .u8 2, .int .u8 0, .int .u8 4, .int .u8 0, .int .u8 0, .int .u8 0, .int .u8 0, .int .u8 0, .int .u8 0, .int .u8 0, .int .u8 0] 5)) 1 (.slice (some ⟨w2.heap.size, 0, none⟩) 17 17) 17 (smallC.map byteV) from Rd.of_own (base := w2.heap.size) (e := 5) ⟨by simp [smallC], .inr ⟨w2.heap.size, 17, _, rfl, Nat.le_refl _, heap_alloc_new w2 _, Nat.le_refl _, by decide, rfl, rfl⟩⟩)
  have HO3 := Lib.hid (HO2.out.alloc (.cells #[.int .u8 7, .int .u8 0, .int .u8 3, .int .u8 0, .int .u8 33, .int .u8 0, .int .u8 2, .int .u8 0, .int .u8 4, .int .u8 0, .int .u8 0, .int .u8 0, .int .u8 0, .int .u8 0, .int .u8 0, .int .u8 0, .int .u8 0] 5))
  have HK3 := Lib.hid (HK2.out.alloc (by have := HK2.out.size; exact this) (.cells #[.int .u8 7, .int .u8 0, .int .u8 3, .int .u8 0, .int .u8 33, .int .u8 0, .int .u8 2, .int .u8 0, .int .u8 4, .int .u8 0, .int .u8 0, .int .u8 0, .int .u8 0, .int .u8 0, .int .u8 0, .int .u8 0, .int .u8 0] 5))
  clear HO1 HK1 HO2 HK2
  have hs3 : w.heap.size ≤ (w2.alloc (.cells #[.int .u8 7, .int .u8 0, .int .u8 3, .int .u8 0, .int .u8 33, .int .u8 0, .int .u8 2, .int .u8 0, .int .u8 4, .int .u8 0, .int .u8 0, .int .u8 0, .int .u8 0, .int .u8 0, .int .u8 0, .int .u8 0, .int .u8 0] 5)).heap.size := HK3.out.size
  go_wp2_with (at_builtin; refine wpl_append _ elem_byte rfl _ _ rfl w.heap.size _ 36 _ rfl HO3.out _ 17 _ rfl HN.out (by intro u hu; obtain ⟨x, _, rfl⟩ := List.mem_map.1 hu; rfl) (by omega) (by omega) hs3 ?_; intro v4 w4 ho4 hg4; have HK4 := Lib.hid (HK3.out.grown hg4 hs3 fun k hk => (HO3.out.lt k hk).1); have HO4 := Lib.hid ho4; clear ho4 hg4)
  go_ret
  exact ⟨_, rfl, HO4.out, HK4.out⟩
theorem small_read : ∃ c, readP smallL = (c, 0, 0) ∧ c.pool.length = 4 ∧ c.super = 4 := ⟨(readP smallL).1, by kernel_rfl, by kernel_rfl, by kernel_rfl⟩
theorem nil_read : readP [] = (zeroC, 0, 10) := by kernel_rfl
theorem law3_num (n : Int) (w : World) : Calls Try.prog 11 #[.int .i64 n] w fun e w' => e = .returned (.int .i64 n) ∧ w = w' := by
  go_enter Try.func11, Try.ntmps11
  go_wp2
  go_ret
  exact ⟨rfl, rfl⟩
set_option maxHeartbeats 2000000 in
theorem alive3 (w : World) : Calls Try.prog 8 #[] w fun e w' => e = .returned (.bool true) ∧ Kept w w' := by
  obtain ⟨c, hc, hc1, hc2⟩ := small_read
  go_enter Try.func8, Try.ntmps8
  go_wp2_with fail
  refine (law3_small _).mono ?_
  rintro e w1 ⟨v, rfl, ho, k1⟩
  have HK1 := Lib.hid k1
  have HO := Lib.hid ho
  clear ho k1
  go_wp2_with fail
  refine (file_Read smallL v w1 (Rd.of_own HO.out)).mono ?_
  rintro e w2 ⟨mv, vP, vI, vF, vM, he, hcr, k2⟩
  rw [hc] at he hcr
  obtain ⟨aP, cP, rfl, -, -⟩ := own_slice hcr.p
  obtain ⟨aI, cI, rfl, -, -⟩ := own_slice hcr.i
  obtain ⟨aF, cF, rfl, -, -⟩ := own_slice hcr.f
  obtain ⟨aM, cM, rfl, -, -⟩ := own_slice hcr.m
  have he : e = .returned (.tuple #[.agg #[.int .i64 c.minor, .int .i64 c.major, .slice aP c.pool.length cP, .int .i64 c.access, .int .i64 c.this, .int .i64 c.super, .slice aI c.ifaces.length cI, .slice aF c.fields.length cF, .slice aM mv.length cM], .int .i64 0, .int .i64 0]) := he
  subst he
  have HK2 := Lib.hid (Kept.trans HK1.out k2)
  rw [hc1, hc2]
  clear hcr k2 HK1
  go_upto_region 2 with fail
  have hb := Blk.new w2 29 #[.int .i64 c.minor, .int .i64 c.major, .slice aP 4 cP, .int .i64 c.access, .int .i64 c.this, .int .i64 4, .slice aI c.ifaces.length cI, .slice aF c.fields.length cF, .slice aM mv.length cM]
  have HB := Lib.hid hb
  have HK3 := Lib.hid (HK2.out.alloc HK2.out.size (.cells #[.int .i64 c.minor, .int .i64 c.major, .slice aP 4 cP, .int .i64 c.access, .int .i64 c.this, .int .i64 4, .slice aI c.ifaces.length cI, .slice aF c.fields.length cF, .slice aM mv.length cM] 29))
  obtain ⟨b1, hb1⟩ : ∃ b1, b1 = w2.heap.size := ⟨_, rfl⟩
  rw [← hb1] at HB ⊢
  clear hb HK2
  generalize w2.alloc (.cells #[.int .i64 c.minor, .int .i64 c.major, .slice aP 4 cP, .int .i64 c.access, .int .i64 c.this, .int .i64 4, .slice aI c.ifaces.length cI, .slice aF c.fields.length cF, .slice aM mv.length cM] 29) = W2 at *
  clear hb1
  go_wp2_with fail
  refine (file_Read [] (.slice none 0 0) W2 (rd_nil _ _)).mono ?_
  rintro e w4 ⟨mv4, vP, vI, vF, vM, he, hcr, k4⟩
  rw [nil_read] at he hcr
  obtain ⟨bP, dP, rfl, -, -⟩ := own_slice hcr.p
  obtain ⟨bI, dI, rfl, -, -⟩ := own_slice hcr.i
  obtain ⟨bF, dF, rfl, -, -⟩ := own_slice hcr.f
  obtain ⟨bM, dM, rfl, -, -⟩ := own_slice hcr.m
  have he : e = .returned (.tuple #[.agg #[.int .i64 0, .int .i64 0, .slice bP 0 dP, .int .i64 0, .int .i64 0, .int .i64 0, .slice bI 0 dI, .slice bF 0 dF, .slice bM mv4.length dM], .int .i64 0, .int .i64 10]) := he
  subst he
  have HB4 := HB.out.kept k4
  have e2 := HB4.cell 2
  have e5 := HB4.cell 5
  simp only [List.getElem?_toArray, List.getElem?_cons_succ, List.getElem?_cons_zero] at e2 e5
  have lb := HB4.lt
  have HK4 := Lib.hid (Kept.trans HK3.out k4)
  clear hcr k4 HK3 HB HB4
  go_wp2_with (first
    | (go_at_call 11; refine (law3_num _ _).mono ?_; rintro e w5 ⟨rfl, rfl⟩))
  go_ret
  exact ⟨rfl, HK4.out.alloc HK4.out.size _⟩
end Go.Proofs.Ytlipdifhdaaknaa
