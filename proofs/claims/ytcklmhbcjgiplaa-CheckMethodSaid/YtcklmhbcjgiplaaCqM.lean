/-
  Several texts in one: XCq0 XCq1.
-/
import Derived.Test.YtcklmhbcjgiplaaCo2
import Derived.Test.YtcklmhbcjgiplaaSaM
import Derived.Test.YtcklmhbcjgiplaaCm0
namespace Go.Proofs.Ytcklmhbcjgiplaa
set_option linter.unusedVariables false
set_option linter.unusedSimpArgs false
open Go.RowKit
set_option maxRecDepth 100000

def inI (x : Int) : Prop := -9223372036854775808 ≤ x ∧ x ≤ 9223372036854775807
structure MemB (z : MemberV) : Prop where
  a : inI z.access
  n : z.name.size ≤ maxLen
  d : z.desc.size ≤ maxLen
  v : inI z.value
theorem MemB.ok {z : MemberV} (h : MemB z) (w : World) : MemberV.Ok w z := ⟨h.a, h.n, h.d, h.v⟩
structure TB (T : TD) : Prop where
  n : T.name.size ≤ maxLen
  s : T.super.size ≤ maxLen
  a : inI T.access
  i : ∀ x ∈ T.interfaces, x.size ≤ maxLen
  il : T.interfaces.length ≤ 64
  f : ∀ z ∈ T.fields, MemB z
  fl : T.fields.length ≤ 64
  m : ∀ z ∈ T.methods, MemB z
  ml : T.methods.length ≤ 64
def tyV (T : TD) (vI vF vM : Value) : TypeV := ⟨T.name, T.super, T.access, vI, T.interfaces, vF, T.fields, vM, T.methods⟩
theorem tyV_d (T : TD) (vI vF vM : Value) : (tyV T vI vF vM).d = T := rfl
theorem TyOwn.ok {base : Nat} {T : TD} {vI vF vM : Value} {w : World} (h : TyOwn base T vI vF vM w) (b : TB T) : (tyV T vI vF vM).Ok w :=
  ⟨b.n, b.s, b.a, Rd.of_own h.i, b.i, Nat.le_trans b.il (by omega), Rd.of_own h.f, fun z hz => (b.f z hz).ok w, Nat.le_trans b.fl (by omega), Rd.of_own h.m, fun z hz => (b.m z hz).ok w, Nat.le_trans b.ml (by omega)⟩
theorem TyOwn.keep {base : Nat} {T : TD} {vI vF vM : Value} {w w' : World} (h : TyOwn base T vI vF vM w) (hk : Kept w w') : TyOwn base T vI vF vM w' :=
  ⟨(Touch.of_kept (S := fun _ => False) hk).own h.i fun _ _ h => h, (Touch.of_kept (S := fun _ => False) hk).own h.f fun _ _ h => h, (Touch.of_kept (S := fun _ => False) hk).own h.m fun _ _ h => h⟩
theorem outT_tb {c : ClassC} (hs : ∀ k ∈ c.pool, k.text.size ≤ maxLen) (ha : inI c.access) (hf : ∀ f ∈ c.fields, inI f.access) (hm : ∀ m ∈ c.methods, inI m.access) (hk : ∀ k ∈ c.pool, inI k.num) : TB (outT c) := by
  have h0 : inI 0 := ⟨by decide, by decide⟩
  have hn : ∀ n t, inI ((getC c.pool n t).getD zeroK).num := by
    intro n t
    cases h : getC c.pool n t with
    | none => exact h0
    | some x => exact hk x (getC_some h).1
  by_cases hc : checkE c = 0
  · rw [outT_good hc]
    have hl : c.ifaces.length ≤ 64 ∧ c.fields.length ≤ 64 ∧ c.methods.length ≤ 64 := by
      have h := (checkE_parts hc).1
      unfold muchB at h
      simp only [Bool.or_eq_false_iff, decide_eq_false_iff_not] at h
      omega
    refine ⟨nameC_size hs _, nameC_size hs _, ha, ?_, ?_, ?_, ?_, ?_, ?_⟩
    · intro x hx
      obtain ⟨n, _, rfl⟩ := List.mem_map.1 hx
      exact nameC_size hs _
    · show (c.ifaces.map _).length ≤ 64
      rw [List.length_map]
      exact hl.1
    · intro z hz
      obtain ⟨f, hf', rfl⟩ := List.mem_map.1 hz
      exact ⟨hf f hf', textC_size hs _, textC_size hs _, hn _ _⟩
    · show (c.fields.map _).length ≤ 64
      rw [List.length_map]
      exact hl.2.1
    · intro z hz
      obtain ⟨f, hf', rfl⟩ := List.mem_map.1 hz
      exact ⟨hm f hf', textC_size hs _, textC_size hs _, h0⟩
    · show (c.methods.map _).length ≤ 64
      rw [List.length_map]
      exact hl.2.2
  · rw [outT_bad hc]
    exact ⟨Nat.zero_le _, Nat.zero_le _, h0, (fun x hx => by cases hx), Nat.zero_le _, (fun x hx => by cases hx), Nat.zero_le _, (fun x hx => by cases hx), Nat.zero_le _⟩
/-- Two answers that say the same are the same. -/
theorem same_out {base base' : Nat} {T : TD} {vI vF vM uI uF uM : Value} {w : World} (h : TyOwn base T vI vF vM w) (h' : TyOwn base' T uI uF uM w) (b : TB T) :
    Calls Try.prog 22 #[.agg #[.string T.name, .string T.super, .int .i64 T.access, vI, vF, vM], .agg #[.string T.name, .string T.super, .int .i64 T.access, uI, uF, uM]] w fun e w' => e = .returned (.bool true) ∧ Kept w w' :=
  same_type w (tyV T vI vF vM) (tyV T uI uF uM) rfl (h.ok b) (h'.ok b) (by have := b.il; have := b.fl; have := b.ml; show T.interfaces.length + T.fields.length + T.methods.length ≤ 3000; omega)
end Go.Proofs.Ytcklmhbcjgiplaa

namespace Go.Proofs.Ytcklmhbcjgiplaa
set_option linter.unusedVariables false
set_option linter.unusedSimpArgs false
open Go.RowKit
set_option maxRecDepth 100000

def mtPool (s d : ByteArray) : List ConstC := smallK.pool ++ [⟨1, s, 0, 0, 0⟩, ⟨1, d, 0, 0, 0⟩, ⟨1, ⟨#[67, 111, 100, 101]⟩, 0, 0, 0⟩]
def mtM (a : Int) (has : Bool) (l : Int) : MethC := if has = true then { access := a, name := 5, desc := 6, has := true, stack := 2, locals := l, code := [177], traps := [] } else { access := a, name := 5, desc := 6, has := false, stack := 0, locals := 0, code := [], traps := [] }
def mtK (o a : Int) (s d : ByteArray) (has : Bool) (l : Int) : ClassC := ⟨0, 52, mtPool s d, o, 2, 4, [], [], [mtM a has l]⟩
theorem mtPool_text {s d : ByteArray} (hs : s.size ≤ maxLen) (hd : d.size ≤ maxLen) : ∀ k ∈ mtPool s d, k.text.size ≤ maxLen ∧ inI k.num := by
  have h0 : inI 0 := ⟨by decide, by decide⟩
  have hm : (16 : Nat) ≤ maxLen := by unfold maxLen; omega
  intro k hk
  simp only [mtPool, smallK, List.mem_cons, List.mem_append, List.not_mem_nil, or_false] at hk
  rcases hk with (rfl | rfl | rfl | rfl) | rfl | rfl | rfl
  · exact ⟨Nat.le_trans (by decide) hm, h0⟩
  · exact ⟨Nat.le_trans (by decide) hm, h0⟩
  · exact ⟨Nat.le_trans (by decide) hm, h0⟩
  · exact ⟨Nat.le_trans (by decide) hm, h0⟩
  · exact ⟨hs, h0⟩
  · exact ⟨hd, h0⟩
  · exact ⟨Nat.le_trans (by decide) hm, h0⟩
theorem mt_tb {o a l : Int} {s d : ByteArray} {has : Bool} (hs : s.size ≤ maxLen) (hd : d.size ≤ maxLen) (ho : inI o) (ha : inI a) : TB (outT (mtK o a s d has l)) :=
  outT_tb (fun k hk => (mtPool_text hs hd k hk).1) ho (fun f hf => by cases hf) (fun m hm => by
    rw [show (mtK o a s d has l).methods = [mtM a has l] from rfl, List.mem_singleton] at hm
    subst hm
    unfold mtM
    split <;> exact ha) (fun k hk => (mtPool_text hs hd k hk).2)
set_option maxHeartbeats 16000000 in
theorem walk_CheckMethod (o a : Int) (s d : ByteArray) (has : Bool) (l : Int) (w : World) (q1 : (Lit.int .i64 o).wf = true) (q2 : (Lit.int .i64 a).wf = true) (q3 : s.size ≤ maxLen) (q4 : d.size ≤ maxLen) (q5 : (Lit.int .i64 l).wf = true) :
    Calls Try.prog 5 #[.int .i64 o, .int .i64 a, .string s, .string d, .bool has, .int .i64 l] w fun e w' => e = .returned (.bool true) ∧ Below w.heap.size w w' := by
  have HO := Lib.hid (show inI o by have := q1; simp [Lit.wf] at this; exact this)
  have HA := Lib.hid (show inI a by have := q2; simp [Lit.wf] at this; exact this)
  have HS := Lib.hid q3
  have HD := Lib.hid q4
  unfold maxLen at q3 q4
  clear q1 q2 q5
  go_enter Try.func5, Try.ntmps5
  go_wp2_with fail
  refine (alive5 w).mono ?_
  rintro e w1 ⟨rfl, hk1⟩
  have K1 := Lib.hid hk1
  clear hk1

  by_cases t1 : (600 : Int) < (s.size : Int)
  · go_wp2_with fail
    go_ret
    exact ⟨rfl, K1.out⟩
  by_cases t2 : (600 : Int) < (d.size : Int)
  · go_wp2_with fail
    go_ret
    exact ⟨rfl, K1.out⟩
  go_upto_region 4 with fail
  clear t1 t2 q3 q4
  go_wp2_with fail
  refine (law5_small w1).mono ?_
  rintro e w2 ⟨vP, he, ho, hk2⟩
  have he : e = .returned (.agg #[.int .i64 0, .int .i64 52, vP, .int .i64 33, .int .i64 2, .int .i64 4, .slice none 0 0, .slice none 0 0, .slice none 0 0]) := he
  subst he
  have K2 := Lib.hid (Kept.trans K1.out hk2)
  obtain ⟨gP, kP, rfl, hq1, hq2, hgw, hgl, hcell, hfz⟩ := own_form ho (by omega)
  have HGP := Lib.hid (show w.heap.size ≤ gP from Nat.le_trans K1.out.size hgw)
  have HRO2 := Lib.hid ho
  have hS2 := hk2.size
  clear ho hk2 hcell hfz hgw hq1 hq2
  go_upto_region 5 with fail
  have hk3 : Kept w2 (w2.alloc (.cells #[.int .i64 0, .int .i64 52, .slice (some ⟨gP, 0, none⟩) 4 kP, .int .i64 33, .int .i64 2, .int .i64 4, .slice none 0 0, .slice none 0 0, .slice none 0 0] 27)) := (Below.refl _ _).alloc (Nat.le_refl _) _
  obtain ⟨g, hg⟩ : ∃ g, g = w2.heap.size := ⟨_, rfl⟩
  have HT := Lib.hid (Blk.new w2 27 #[.int .i64 0, .int .i64 52, .slice (some ⟨gP, 0, none⟩) 4 kP, .int .i64 33, .int .i64 2, .int .i64 4, .slice none 0 0, .slice none 0 0, .slice none 0 0])
  have HG := Lib.hid (show w2.heap.size ≤ g by omega)
  have hne : gP ≠ g := by omega
  have K3 := Lib.hid (Kept.trans K2.out hk3)
  have hgW : w.heap.size ≤ g := Nat.le_trans K2.out.size HG.out
  have hgS : w1.heap.size ≤ g := Nat.le_trans hS2 HG.out
  have HRO := Lib.hid ((Touch.of_kept (S := fun _ => False) hk3).own HRO2.out fun _ _ h => h)
  rw [← hg] at HT ⊢
  clear hk3 hgl HRO2
  generalize (w2.alloc (.cells #[.int .i64 0, .int .i64 52, .slice (some ⟨gP, 0, none⟩) 4 kP, .int .i64 33, .int .i64 2, .int .i64 4, .slice none 0 0, .slice none 0 0, .slice none 0 0] 27)) = w3 at *
  clear hg hS2
  have hb3 : w1.heap.size ≤ w3.heap.size := Nat.le_trans hgS (Nat.le_of_lt HT.out.lt)
  have t0 := HT.out.cell 0
  have t1 := HT.out.cell 1
  have t2 := HT.out.cell 2
  have t3 := HT.out.cell 3
  have t4 := HT.out.cell 4
  have t5 := HT.out.cell 5
  have t6 := HT.out.cell 6
  have t7 := HT.out.cell 7
  have t8 := HT.out.cell 8
  simp only [List.getElem?_toArray, List.getElem?_cons_succ, List.getElem?_cons_zero] at t0 t1 t2 t3 t4 t5 t6 t7 t8

  have t3f := HT.out.frozen 3
  go_upto_region 6 with fail
  have HT0 : Hid (Blk (w3.setCell ⟨g, 3, none⟩ (.int .i64 o)) g 27 #[.int .i64 0, .int .i64 52, .slice (some ⟨gP, 0, none⟩) 4 kP, .int .i64 o, .int .i64 2, .int .i64 4, .slice none 0 0, .slice none 0 0, .slice none 0 0]) := Lib.hid (HT.out.set_ 3 (.int .i64 o))
  have HRO0 := Lib.hid (own_away HRO.out HT.out (by decide) 3 (.int .i64 o))
  have K3b := Lib.hid (K3.out.setCell (p := ⟨g, 3, none⟩) hgW (.int .i64 o))
  have hb3b : w1.heap.size ≤ (w3.setCell ⟨g, 3, none⟩ (.int .i64 o)).heap.size := by have := hb3; simp [World.setCell]; omega
  clear t0 t1 t2 t3 t4 t5 t6 t7 t8 t3f
  generalize (w3.setCell ⟨g, 3, none⟩ (.int .i64 o)) = w3b at *
  have t0 := HT0.out.cell 0
  have t1 := HT0.out.cell 1
  have t2 := HT0.out.cell 2
  have t3 := HT0.out.cell 3
  have t4 := HT0.out.cell 4
  have t5 := HT0.out.cell 5
  have t6 := HT0.out.cell 6
  have t7 := HT0.out.cell 7
  have t8 := HT0.out.cell 8
  simp only [List.getElem?_toArray, List.getElem?_cons_succ, List.getElem?_cons_zero] at t0 t1 t2 t3 t4 t5 t6 t7 t8
  have f2 := HT0.out.frozen 2
  go_upto_region 7 with (at_builtin; refine wpl_lit elem_const rfl (.tmp 39) (.tmp 45) rfl w1.heap.size (.slice (some ⟨gP, 0, none⟩) 4 kP) 4 (smallK.pool.flatMap encC) rfl HRO0.out 3 [.int .i64 1, .string s, .int .i64 0, .int .i64 0, .int .i64 0, .int .i64 1, .string d, .int .i64 0, .int .i64 0, .int .i64 0, .int .i64 1, .string ⟨#[67, 111, 100, 101]⟩, .int .i64 0, .int .i64 0, .int .i64 0] _ rfl rfl (by intro u hu; simp only [List.mem_cons, List.not_mem_nil, or_false] at hu; rcases hu with rfl | rfl | rfl | rfl | rfl | rfl | rfl | rfl | rfl | rfl | rfl | rfl | rfl | rfl | rfl <;> rfl) (by omega) (by omega) hb3b ?_; intro a4 c4 w4 ho7 hg7; have HRO4 := Lib.hid ho7; have HB4 := Lib.hid (HT0.out.touch hg7 (fun e => own_ne HRO0.out HT0.out (by decide) _ e rfl)); have KT4 := Lib.hid hg7; have f2 := HB4.out.frozen 2; have z2 := HB4.out.cell 2; simp only [List.getElem?_toArray, List.getElem?_cons_succ, List.getElem?_cons_zero] at z2; clear ho7 hg7)
  have KW4 := Lib.hid (Below.trans K3b.out ((KT4.out.below (fun b hb => (HRO0.out.lt b hb).1) hb3b).mono K1.out.size))
  have KX := Lib.hid (KW4.out.setCell (p := ⟨g, 2, none⟩) hgW (.slice a4 7 c4))
  have HX : Hid (Blk (w4.setCell ⟨g, 2, none⟩ (.slice a4 7 c4)) g 27 #[.int .i64 0, .int .i64 52, .slice a4 7 c4, .int .i64 o, .int .i64 2, .int .i64 4, .slice none 0 0, .slice none 0 0, .slice none 0 0]) := Lib.hid (HB4.out.set_ 2 (.slice a4 7 c4))
  have HRX := Lib.hid (own_away HRO4.out HB4.out (by decide) 2 (.slice a4 7 c4))
  have hb5 : w1.heap.size ≤ (w4.setCell ⟨g, 2, none⟩ (.slice a4 7 c4)).heap.size := by have := KT4.out.size; have := hb3b; simp [World.setCell]; omega
  clear f2 z2 t0 t1 t2 t3 t4 t5 t6 t7 t8
  generalize (w4.setCell ⟨g, 2, none⟩ (.slice a4 7 c4)) = w5 at *
  have u0 := HX.out.cell 0
  have u1 := HX.out.cell 1
  have u2 := HX.out.cell 2
  have u3 := HX.out.cell 3
  have u4 := HX.out.cell 4
  have u5 := HX.out.cell 5
  have u6 := HX.out.cell 6
  have u7 := HX.out.cell 7
  have u8 := HX.out.cell 8
  simp only [List.getElem?_toArray, List.getElem?_cons_succ, List.getElem?_cons_zero] at u0 u1 u2 u3 u4 u5 u6 u7 u8
  clear u0 u1 u2 u3 u4 u5 u6 u7 u8
  go_upto_region 8 with fail
  have hka : Kept w5 (w5.alloc (.cells #[.int .i64 a, .int .i64 5, .int .i64 6, .bool has, .int .i64 0, .int .i64 0, .slice none 0 0, .slice none 0 0] 52)) := (Below.refl _ _).alloc (Nat.le_refl _) _
  have HM5 := Lib.hid (Blk.new w5 52 #[.int .i64 a, .int .i64 5, .int .i64 6, .bool has, .int .i64 0, .int .i64 0, .slice none 0 0, .slice none 0 0])
  have HX5 := Lib.hid (HX.out.kept hka)
  have HRX5 := Lib.hid ((Touch.of_kept (S := fun _ => False) hka).own HRX.out fun _ _ h => h)
  have KX5 := Lib.hid (Below.trans KX.out (hka.mono KX.out.size))
  obtain ⟨gm, hgm⟩ : ∃ k, k = w5.heap.size := ⟨_, rfl⟩
  have hgmW : w.heap.size ≤ gm := by rw [hgm]; exact KX.out.size
  rw [← hgm] at HM5 ⊢
  clear hka
  generalize (w5.alloc (.cells #[.int .i64 a, .int .i64 5, .int .i64 6, .bool has, .int .i64 0, .int .i64 0, .slice none 0 0, .slice none 0 0] 52)) = w5a at *
  clear hgm
  cases has
  · go_upto_region 12 with fail
    have HM6 := HM5
    have HX6 := HX5
    have HRX6 := HRX5
    have KX6 := KX5
    obtain ⟨w6, hren⟩ : ∃ x, x = w5a := ⟨_, rfl⟩
    subst hren
    have z0 := HM6.out.cell 0
    have z1 := HM6.out.cell 1
    have z2 := HM6.out.cell 2
    have z3 := HM6.out.cell 3
    have z4 := HM6.out.cell 4
    have z5 := HM6.out.cell 5
    have z6 := HM6.out.cell 6
    have z7 := HM6.out.cell 7
    simp only [List.getElem?_toArray, List.getElem?_cons_succ, List.getElem?_cons_zero] at z0 z1 z2 z3 z4 z5 z6 z7
    have u8 := HX6.out.cell 8
    simp only [List.getElem?_toArray, List.getElem?_cons_succ, List.getElem?_cons_zero] at u8
    have hZ : Blk (w6.alloc (.cells #[.int .i64 a, .int .i64 5, .int .i64 6, .bool false, .int .i64 0, .int .i64 0, .slice none 0 0, .slice none 0 0] 52)) g 27 #[.int .i64 0, .int .i64 52, .slice a4 7 c4, .int .i64 o, .int .i64 2, .int .i64 4, .slice none 0 0, .slice none 0 0, .slice none 0 0] := HX6.out.alloc _
    have z9 := hZ.cell 8
    simp only [List.getElem?_toArray, List.getElem?_cons_succ, List.getElem?_cons_zero] at z9
    have zf9 := hZ.frozen 8
    have HZ := Lib.hid hZ
    clear hZ
    go_upto_region 13 with fail
    have KY : Hid (Below w.heap.size w ((w6.alloc (.cells #[.int .i64 a, .int .i64 5, .int .i64 6, .bool false, .int .i64 0, .int .i64 0, .slice none 0 0, .slice none 0 0] 52)).setCell ⟨g, 8, none⟩ (.slice (some ⟨w6.heap.size, 0, none⟩) 1 1))) := Lib.hid ((KX6.out.alloc (Nat.le_trans hgW (Nat.le_of_lt HX6.out.lt)) _).setCell (p := ⟨g, 8, none⟩) hgW (.slice (some ⟨w6.heap.size, 0, none⟩) 1 1))
    have HY : Hid (Blk ((w6.alloc (.cells #[.int .i64 a, .int .i64 5, .int .i64 6, .bool false, .int .i64 0, .int .i64 0, .slice none 0 0, .slice none 0 0] 52)).setCell ⟨g, 8, none⟩ (.slice (some ⟨w6.heap.size, 0, none⟩) 1 1)) g 27 #[.int .i64 0, .int .i64 52, .slice a4 7 c4, .int .i64 o, .int .i64 2, .int .i64 4, .slice none 0 0, .slice none 0 0, .slice (some ⟨w6.heap.size, 0, none⟩) 1 1]) := Lib.hid (HZ.out.set_ 8 (.slice (some ⟨w6.heap.size, 0, none⟩) 1 1))
    have HRY := Lib.hid (own_away (HRX6.out.alloc _) HZ.out (by decide) 8 (.slice (some ⟨w6.heap.size, 0, none⟩) 1 1))
    have HMR : Hid (Blk ((w6.alloc (.cells #[.int .i64 a, .int .i64 5, .int .i64 6, .bool false, .int .i64 0, .int .i64 0, .slice none 0 0, .slice none 0 0] 52)).setCell ⟨g, 8, none⟩ (.slice (some ⟨w6.heap.size, 0, none⟩) 1 1)) w6.heap.size 52 #[.int .i64 a, .int .i64 5, .int .i64 6, .bool false, .int .i64 0, .int .i64 0, .slice none 0 0, .slice none 0 0]) := Lib.hid ((Blk.new w6 _ _).far (p := ⟨g, 8, none⟩) (by dsimp only; have := HX6.out.lt; omega) _)
    clear z9 zf9 u8 z0 z1 z2 z3 z4 z5 z6 z7
    generalize ((w6.alloc (.cells #[.int .i64 a, .int .i64 5, .int .i64 6, .bool false, .int .i64 0, .int .i64 0, .slice none 0 0, .slice none 0 0] 52)).setCell ⟨g, 8, none⟩ (.slice (some ⟨w6.heap.size, 0, none⟩) 1 1)) = w7 at *
    obtain ⟨gr, hgr⟩ : ∃ k, k = w6.heap.size := ⟨_, rfl⟩
    rw [← hgr] at HY HMR ⊢
    clear hgr
    have hcr : CRd w7 (mtK o a s d false l) [(mtM a false l, .slice none 0 0, .slice none 0 0)] (.slice a4 7 c4) (.slice none 0 0) (.slice none 0 0) (.slice (some ⟨gr, 0, none⟩) 1 1) := by
      refine ⟨Rd.of_own HRY.out, Rd.nil, Rd.nil, Rd.lit (n := 1) (sz := 8) HMR.out rfl (by omega), fun x hx => ?_, rfl⟩
      rw [List.mem_singleton] at hx
      subst hx
      exact ⟨Rd.nil, Rd.nil⟩
    have HCR := Lib.hid hcr
    clear hcr
    obtain ⟨R, hR⟩ : ∃ R, R = checkE (mtK o a s d false l) := ⟨_, rfl⟩
    obtain ⟨T, hT⟩ : ∃ T, T = outT (mtK o a s d false l) := ⟨_, rfl⟩
    have HR_ := Lib.hid hR
    have HT_ := Lib.hid hT
    have HTB := Lib.hid (show TB T by rw [hT]; exact mt_tb HS.out HD.out HO.out HA.out)
    obtain ⟨nm, hnm⟩ : ∃ s, s = T.name := ⟨_, rfl⟩
    obtain ⟨sp, hsp⟩ : ∃ s, s = T.super := ⟨_, rfl⟩
    obtain ⟨tac, htac⟩ : ∃ s, s = T.access := ⟨_, rfl⟩
    obtain ⟨nI, hnI⟩ : ∃ s, s = T.interfaces.length := ⟨_, rfl⟩
    obtain ⟨nF, hnF⟩ : ∃ s, s = T.fields.length := ⟨_, rfl⟩
    obtain ⟨nM, hnM⟩ : ∃ s, s = T.methods.length := ⟨_, rfl⟩
    have HNM := Lib.hid hnm
    have HSP := Lib.hid hsp
    have HAC := Lib.hid htac
    have HNI := Lib.hid hnI
    have HNF := Lib.hid hnF
    have HNMM := Lib.hid hnM
    clear hR hT hnm hsp htac hnI hnF hnM
    have C := check_Check (mtK o a s d false l) [(mtM a false l, .slice none 0 0, .slice none 0 0)] _ _ _ _ w7 HCR.out (fun k hk => (mtPool_text HS.out HD.out k hk).1)
    unfold IntG at C
    rw [← HR_.out] at C
    have y0 := HY.out.cell 0
    have y1 := HY.out.cell 1
    have y2 := HY.out.cell 2
    have y3 := HY.out.cell 3
    have y4 := HY.out.cell 4
    have y5 := HY.out.cell 5
    have y6 := HY.out.cell 6
    have y7 := HY.out.cell 7
    have y8 := HY.out.cell 8
    simp only [List.getElem?_toArray, List.getElem?_cons_succ, List.getElem?_cons_zero] at y0 y1 y2 y3 y4 y5 y6 y7 y8
    go_wp2_with fail
    refine C.mono ?_
    rintro e w8 ⟨rfl, hk8⟩
    have K8 := Lib.hid hk8
    have HY8 := Lib.hid (HY.out.kept hk8)
    clear hk8 C y0 y1 y2 y3 y4 y5 y6 y7 y8
    go_upto_region 14 with fail
    have C := check_Outline (mtK o a s d false l) [(mtM a false l, .slice none 0 0, .slice none 0 0)] _ _ _ _ w8 (HCR.out.kept K8.out) (fun k hk => (mtPool_text HS.out HD.out k hk).1)
    unfold OutG at C
    rw [← HT_.out, ← HR_.out] at C
    have y0 := HY8.out.cell 0
    have y1 := HY8.out.cell 1
    have y2 := HY8.out.cell 2
    have y3 := HY8.out.cell 3
    have y4 := HY8.out.cell 4
    have y5 := HY8.out.cell 5
    have y6 := HY8.out.cell 6
    have y7 := HY8.out.cell 7
    have y8 := HY8.out.cell 8
    simp only [List.getElem?_toArray, List.getElem?_cons_succ, List.getElem?_cons_zero] at y0 y1 y2 y3 y4 y5 y6 y7 y8
    go_wp2_with fail
    refine C.mono ?_
    rintro e wt ⟨vI, vF, vM, he, hown, hk8⟩
    obtain ⟨aaI, caI, rfl, -, -⟩ := own_slice hown.i
    obtain ⟨aaF, caF, rfl, -, -⟩ := own_slice hown.f
    obtain ⟨aaM, caM, rfl, -, -⟩ := own_slice hown.m
    have HOW := Lib.hid hown
    rw [← HNM.out, ← HSP.out, ← HAC.out, ← HNI.out, ← HNF.out, ← HNMM.out] at he
    rw [← HNI.out, ← HNF.out, ← HNMM.out] at HOW
    subst he
    clear hown C y0 y1 y2 y3 y4 y5 y6 y7 y8
    go_upto_region 15 with fail
    have hka : Kept w8 (wt.alloc (.cells #[.string nm, .string sp, .int .i64 tac, .slice aaI nI caI, .slice aaF nF caF, .slice aaM nM caM] 36)) := Kept.trans hk8 ((Below.refl _ _).alloc (Nat.le_refl _) _)
    have HT1 := Lib.hid (Blk.new wt 36 #[.string nm, .string sp, .int .i64 tac, .slice aaI nI caI, .slice aaF nF caF, .slice aaM nM caM])
    have OW1 := Lib.hid (HOW.out.keep (show Kept wt (wt.alloc (.cells #[.string nm, .string sp, .int .i64 tac, .slice aaI nI caI, .slice aaF nF caF, .slice aaM nM caM] 36)) from (Below.refl _ _).alloc (Nat.le_refl _) _))
    have K9 := Lib.hid hka
    obtain ⟨gHT1, hgHT1⟩ : ∃ k, k = wt.heap.size := ⟨_, rfl⟩
    rw [← hgHT1] at HT1 ⊢
    clear hka hk8 HOW
    generalize (wt.alloc (.cells #[.string nm, .string sp, .int .i64 tac, .slice aaI nI caI, .slice aaF nF caF, .slice aaM nM caM] 36)) = w9 at *
    clear hgHT1
    have HY9 := Lib.hid (HY8.out.kept K9.out)
    have C := ref5_Outline (mtK o a s d false l) [(mtM a false l, .slice none 0 0, .slice none 0 0)] _ _ _ _ w9 (HCR.out.kept (Kept.trans K8.out K9.out)) (fun k hk => (mtPool_text HS.out HD.out k hk).1)
    unfold OutG at C
    rw [← HT_.out, ← HR_.out] at C
    have y0 := HY9.out.cell 0
    have y1 := HY9.out.cell 1
    have y2 := HY9.out.cell 2
    have y3 := HY9.out.cell 3
    have y4 := HY9.out.cell 4
    have y5 := HY9.out.cell 5
    have y6 := HY9.out.cell 6
    have y7 := HY9.out.cell 7
    have y8 := HY9.out.cell 8
    simp only [List.getElem?_toArray, List.getElem?_cons_succ, List.getElem?_cons_zero] at y0 y1 y2 y3 y4 y5 y6 y7 y8
    go_wp2_with fail
    refine C.mono ?_
    rintro e wt ⟨vI, vF, vM, he, hown, hk8⟩
    obtain ⟨abI, cbI, rfl, -, -⟩ := own_slice hown.i
    obtain ⟨abF, cbF, rfl, -, -⟩ := own_slice hown.f
    obtain ⟨abM, cbM, rfl, -, -⟩ := own_slice hown.m
    have HOW := Lib.hid hown
    rw [← HNM.out, ← HSP.out, ← HAC.out, ← HNI.out, ← HNF.out, ← HNMM.out] at he
    rw [← HNI.out, ← HNF.out, ← HNMM.out] at HOW
    subst he
    clear hown C y0 y1 y2 y3 y4 y5 y6 y7 y8
    go_upto_region 16 with fail
    have hka : Kept w9 (wt.alloc (.cells #[.string nm, .string sp, .int .i64 tac, .slice abI nI cbI, .slice abF nF cbF, .slice abM nM cbM] 36)) := Kept.trans hk8 ((Below.refl _ _).alloc (Nat.le_refl _) _)
    have HT2 := Lib.hid (Blk.new wt 36 #[.string nm, .string sp, .int .i64 tac, .slice abI nI cbI, .slice abF nF cbF, .slice abM nM cbM])
    have OW2 := Lib.hid (HOW.out.keep (show Kept wt (wt.alloc (.cells #[.string nm, .string sp, .int .i64 tac, .slice abI nI cbI, .slice abF nF cbF, .slice abM nM cbM] 36)) from (Below.refl _ _).alloc (Nat.le_refl _) _))
    have K10 := Lib.hid hka
    obtain ⟨gHT2, hgHT2⟩ : ∃ k, k = wt.heap.size := ⟨_, rfl⟩
    rw [← hgHT2] at HT2 ⊢
    clear hka hk8 HOW
    generalize (wt.alloc (.cells #[.string nm, .string sp, .int .i64 tac, .slice abI nI cbI, .slice abF nF cbF, .slice abM nM cbM] 36)) = w10 at *
    clear hgHT2
    have OW1b := Lib.hid (OW1.out.keep K10.out)
    have HT1b := Lib.hid (HT1.out.kept K10.out)
    have C := same_out (by have h := OW1b.out; rw [HNI.out, HNF.out, HNMM.out] at h; exact h) (by have h := OW2.out; rw [HNI.out, HNF.out, HNMM.out] at h; exact h) HTB.out
    rw [← HNM.out, ← HSP.out, ← HAC.out, ← HNI.out, ← HNF.out, ← HNMM.out] at C
    have x0 := HT1b.out.cell 0
    have x1 := HT1b.out.cell 1
    have x2 := HT1b.out.cell 2
    have x3 := HT1b.out.cell 3
    have x4 := HT1b.out.cell 4
    have x5 := HT1b.out.cell 5
    simp only [List.getElem?_toArray, List.getElem?_cons_succ, List.getElem?_cons_zero] at x0 x1 x2 x3 x4 x5
    have y0 := HT2.out.cell 0
    have y1 := HT2.out.cell 1
    have y2 := HT2.out.cell 2
    have y3 := HT2.out.cell 3
    have y4 := HT2.out.cell 4
    have y5 := HT2.out.cell 5
    simp only [List.getElem?_toArray, List.getElem?_cons_succ, List.getElem?_cons_zero] at y0 y1 y2 y3 y4 y5
    go_wp2_with (first | (go_at_call 21; refine (law5_num _ _).mono ?_; rintro e w9 ⟨rfl, rfl⟩) | (go_at_call 22; refine C.mono ?_; rintro e wz ⟨rfl, hkz⟩; have KZ := Lib.hid hkz; clear hkz))
    go_ret
    exact ⟨rfl, Below.trans KY.out ((Kept.trans (Kept.trans (Kept.trans K8.out K9.out) K10.out) KZ.out).mono KY.out.size)⟩
  · have m4 := HM5.out.cell 4
    simp only [List.getElem?_toArray, List.getElem?_cons_succ, List.getElem?_cons_zero] at m4
    have mf4 := HM5.out.frozen 4
    go_upto_region 10 with fail
    have HMa : Hid (Blk (w5a.setCell ⟨gm, 4, none⟩ (.int .i64 2)) gm 52 #[.int .i64 a, .int .i64 5, .int .i64 6, .bool true, .int .i64 2, .int .i64 0, .slice none 0 0, .slice none 0 0]) := Lib.hid (HM5.out.set_ 4 (.int .i64 2))
    have HXa := Lib.hid (HX5.out.far (p := ⟨gm, 4, none⟩) (Blk.ne_ HX5.out HM5.out (by decide)) (.int .i64 2))
    have HRXa := Lib.hid (own_away HRX5.out HM5.out (by decide) 4 (.int .i64 2))
    have KXa := Lib.hid (KX5.out.setCell (p := ⟨gm, 4, none⟩) hgmW (.int .i64 2))
    clear m4 mf4
    generalize (w5a.setCell ⟨gm, 4, none⟩ (.int .i64 2)) = wA at *
    have m4 := HMa.out.cell 5
    simp only [List.getElem?_toArray, List.getElem?_cons_succ, List.getElem?_cons_zero] at m4
    have mf4 := HMa.out.frozen 5
    go_upto_region 11 with fail
    have HMb : Hid (Blk (wA.setCell ⟨gm, 5, none⟩ (.int .i64 l)) gm 52 #[.int .i64 a, .int .i64 5, .int .i64 6, .bool true, .int .i64 2, .int .i64 l, .slice none 0 0, .slice none 0 0]) := Lib.hid (HMa.out.set_ 5 (.int .i64 l))
    have HXb := Lib.hid (HXa.out.far (p := ⟨gm, 5, none⟩) (Blk.ne_ HXa.out HMa.out (by decide)) (.int .i64 l))
    have HRXb := Lib.hid (own_away HRXa.out HMa.out (by decide) 5 (.int .i64 l))
    have KXb := Lib.hid (KXa.out.setCell (p := ⟨gm, 5, none⟩) hgmW (.int .i64 l))
    clear m4 mf4
    generalize (wA.setCell ⟨gm, 5, none⟩ (.int .i64 l)) = wB at *
    have hZm : Blk (wB.alloc (.cells #[.int .u8 177] 5)) gm 52 #[.int .i64 a, .int .i64 5, .int .i64 6, .bool true, .int .i64 2, .int .i64 l, .slice none 0 0, .slice none 0 0] := HMb.out.alloc _
    have m4 := hZm.cell 6
    simp only [List.getElem?_toArray, List.getElem?_cons_succ, List.getElem?_cons_zero] at m4
    have mf4 := hZm.frozen 6
    have HZm := Lib.hid hZm
    clear hZm
    go_upto_region 12 with fail
    have HM6 : Hid (Blk ((wB.alloc (.cells #[.int .u8 177] 5)).setCell ⟨gm, 6, none⟩ (.slice (some ⟨wB.heap.size, 0, none⟩) 1 1)) gm 52 #[.int .i64 a, .int .i64 5, .int .i64 6, .bool true, .int .i64 2, .int .i64 l, .slice (some ⟨wB.heap.size, 0, none⟩) 1 1, .slice none 0 0]) := Lib.hid (HZm.out.set_ 6 (.slice (some ⟨wB.heap.size, 0, none⟩) 1 1))
    have HX6 := Lib.hid ((HXb.out.alloc (.cells #[.int .u8 177] 5)).far (p := ⟨gm, 6, none⟩) (Blk.ne_ HXb.out HMb.out (by decide)) (.slice (some ⟨wB.heap.size, 0, none⟩) 1 1))
    have HRX6 := Lib.hid (own_away (HRXb.out.alloc (.cells #[.int .u8 177] 5)) HZm.out (by decide) 6 (.slice (some ⟨wB.heap.size, 0, none⟩) 1 1))
    have KX6 := Lib.hid ((KXb.out.alloc KXb.out.size (.cells #[.int .u8 177] 5)).setCell (p := ⟨gm, 6, none⟩) hgmW (.slice (some ⟨wB.heap.size, 0, none⟩) 1 1))
    have HC6 : Hid (Blk ((wB.alloc (.cells #[.int .u8 177] 5)).setCell ⟨gm, 6, none⟩ (.slice (some ⟨wB.heap.size, 0, none⟩) 1 1)) wB.heap.size 5 #[.int .u8 177]) := Lib.hid ((Blk.new wB _ _).far (p := ⟨gm, 6, none⟩) (by dsimp only; have := HMb.out.lt; omega) _)
    clear m4 mf4
    generalize ((wB.alloc (.cells #[.int .u8 177] 5)).setCell ⟨gm, 6, none⟩ (.slice (some ⟨wB.heap.size, 0, none⟩) 1 1)) = w6 at *
    obtain ⟨gc, hgc⟩ : ∃ k, k = wB.heap.size := ⟨_, rfl⟩
    rw [← hgc] at HM6 HC6 ⊢
    clear hgc
    have z0 := HM6.out.cell 0
    have z1 := HM6.out.cell 1
    have z2 := HM6.out.cell 2
    have z3 := HM6.out.cell 3
    have z4 := HM6.out.cell 4
    have z5 := HM6.out.cell 5
    have z6 := HM6.out.cell 6
    have z7 := HM6.out.cell 7
    simp only [List.getElem?_toArray, List.getElem?_cons_succ, List.getElem?_cons_zero] at z0 z1 z2 z3 z4 z5 z6 z7
    have u8 := HX6.out.cell 8
    simp only [List.getElem?_toArray, List.getElem?_cons_succ, List.getElem?_cons_zero] at u8
    have hZ : Blk (w6.alloc (.cells #[.int .i64 a, .int .i64 5, .int .i64 6, .bool true, .int .i64 2, .int .i64 l, .slice (some ⟨gc, 0, none⟩) 1 1, .slice none 0 0] 52)) g 27 #[.int .i64 0, .int .i64 52, .slice a4 7 c4, .int .i64 o, .int .i64 2, .int .i64 4, .slice none 0 0, .slice none 0 0, .slice none 0 0] := HX6.out.alloc _
    have z9 := hZ.cell 8
    simp only [List.getElem?_toArray, List.getElem?_cons_succ, List.getElem?_cons_zero] at z9
    have zf9 := hZ.frozen 8
    have HZ := Lib.hid hZ
    clear hZ
    go_upto_region 13 with fail
    have KY : Hid (Below w.heap.size w ((w6.alloc (.cells #[.int .i64 a, .int .i64 5, .int .i64 6, .bool true, .int .i64 2, .int .i64 l, .slice (some ⟨gc, 0, none⟩) 1 1, .slice none 0 0] 52)).setCell ⟨g, 8, none⟩ (.slice (some ⟨w6.heap.size, 0, none⟩) 1 1))) := Lib.hid ((KX6.out.alloc (Nat.le_trans hgW (Nat.le_of_lt HX6.out.lt)) _).setCell (p := ⟨g, 8, none⟩) hgW (.slice (some ⟨w6.heap.size, 0, none⟩) 1 1))
    have HY : Hid (Blk ((w6.alloc (.cells #[.int .i64 a, .int .i64 5, .int .i64 6, .bool true, .int .i64 2, .int .i64 l, .slice (some ⟨gc, 0, none⟩) 1 1, .slice none 0 0] 52)).setCell ⟨g, 8, none⟩ (.slice (some ⟨w6.heap.size, 0, none⟩) 1 1)) g 27 #[.int .i64 0, .int .i64 52, .slice a4 7 c4, .int .i64 o, .int .i64 2, .int .i64 4, .slice none 0 0, .slice none 0 0, .slice (some ⟨w6.heap.size, 0, none⟩) 1 1]) := Lib.hid (HZ.out.set_ 8 (.slice (some ⟨w6.heap.size, 0, none⟩) 1 1))
    have HRY := Lib.hid (own_away (HRX6.out.alloc _) HZ.out (by decide) 8 (.slice (some ⟨w6.heap.size, 0, none⟩) 1 1))
    have HMR : Hid (Blk ((w6.alloc (.cells #[.int .i64 a, .int .i64 5, .int .i64 6, .bool true, .int .i64 2, .int .i64 l, .slice (some ⟨gc, 0, none⟩) 1 1, .slice none 0 0] 52)).setCell ⟨g, 8, none⟩ (.slice (some ⟨w6.heap.size, 0, none⟩) 1 1)) w6.heap.size 52 #[.int .i64 a, .int .i64 5, .int .i64 6, .bool true, .int .i64 2, .int .i64 l, .slice (some ⟨gc, 0, none⟩) 1 1, .slice none 0 0]) := Lib.hid ((Blk.new w6 _ _).far (p := ⟨g, 8, none⟩) (by dsimp only; have := HX6.out.lt; omega) _)
    have HCY := Lib.hid ((HC6.out.alloc (.cells #[.int .i64 a, .int .i64 5, .int .i64 6, .bool true, .int .i64 2, .int .i64 l, .slice (some ⟨gc, 0, none⟩) 1 1, .slice none 0 0] 52)).far (p := ⟨g, 8, none⟩) (Blk.ne_ (HC6.out.alloc (.cells #[.int .i64 a, .int .i64 5, .int .i64 6, .bool true, .int .i64 2, .int .i64 l, .slice (some ⟨gc, 0, none⟩) 1 1, .slice none 0 0] 52)) HZ.out (by decide)) (.slice (some ⟨w6.heap.size, 0, none⟩) 1 1))
    clear z9 zf9 u8 z0 z1 z2 z3 z4 z5 z6 z7
    generalize ((w6.alloc (.cells #[.int .i64 a, .int .i64 5, .int .i64 6, .bool true, .int .i64 2, .int .i64 l, .slice (some ⟨gc, 0, none⟩) 1 1, .slice none 0 0] 52)).setCell ⟨g, 8, none⟩ (.slice (some ⟨w6.heap.size, 0, none⟩) 1 1)) = w7 at *
    obtain ⟨gr, hgr⟩ : ∃ k, k = w6.heap.size := ⟨_, rfl⟩
    rw [← hgr] at HY HMR ⊢
    clear hgr
    have hcr : CRd w7 (mtK o a s d true l) [(mtM a true l, .slice (some ⟨gc, 0, none⟩) 1 1, .slice none 0 0)] (.slice a4 7 c4) (.slice none 0 0) (.slice none 0 0) (.slice (some ⟨gr, 0, none⟩) 1 1) := by
      refine ⟨Rd.of_own HRY.out, Rd.nil, Rd.nil, Rd.lit (n := 1) (sz := 8) HMR.out rfl (by omega), fun x hx => ?_, rfl⟩
      rw [List.mem_singleton] at hx
      subst hx
      exact ⟨Rd.lit HCY.out rfl (by omega), Rd.nil⟩
    have HCR := Lib.hid hcr
    clear hcr
    obtain ⟨R, hR⟩ : ∃ R, R = checkE (mtK o a s d true l) := ⟨_, rfl⟩
    obtain ⟨T, hT⟩ : ∃ T, T = outT (mtK o a s d true l) := ⟨_, rfl⟩
    have HR_ := Lib.hid hR
    have HT_ := Lib.hid hT
    have HTB := Lib.hid (show TB T by rw [hT]; exact mt_tb HS.out HD.out HO.out HA.out)
    obtain ⟨nm, hnm⟩ : ∃ s, s = T.name := ⟨_, rfl⟩
    obtain ⟨sp, hsp⟩ : ∃ s, s = T.super := ⟨_, rfl⟩
    obtain ⟨tac, htac⟩ : ∃ s, s = T.access := ⟨_, rfl⟩
    obtain ⟨nI, hnI⟩ : ∃ s, s = T.interfaces.length := ⟨_, rfl⟩
    obtain ⟨nF, hnF⟩ : ∃ s, s = T.fields.length := ⟨_, rfl⟩
    obtain ⟨nM, hnM⟩ : ∃ s, s = T.methods.length := ⟨_, rfl⟩
    have HNM := Lib.hid hnm
    have HSP := Lib.hid hsp
    have HAC := Lib.hid htac
    have HNI := Lib.hid hnI
    have HNF := Lib.hid hnF
    have HNMM := Lib.hid hnM
    clear hR hT hnm hsp htac hnI hnF hnM
    have C := check_Check (mtK o a s d true l) [(mtM a true l, .slice (some ⟨gc, 0, none⟩) 1 1, .slice none 0 0)] _ _ _ _ w7 HCR.out (fun k hk => (mtPool_text HS.out HD.out k hk).1)
    unfold IntG at C
    rw [← HR_.out] at C
    have y0 := HY.out.cell 0
    have y1 := HY.out.cell 1
    have y2 := HY.out.cell 2
    have y3 := HY.out.cell 3
    have y4 := HY.out.cell 4
    have y5 := HY.out.cell 5
    have y6 := HY.out.cell 6
    have y7 := HY.out.cell 7
    have y8 := HY.out.cell 8
    simp only [List.getElem?_toArray, List.getElem?_cons_succ, List.getElem?_cons_zero] at y0 y1 y2 y3 y4 y5 y6 y7 y8
    go_wp2_with fail
    refine C.mono ?_
    rintro e w8 ⟨rfl, hk8⟩
    have K8 := Lib.hid hk8
    have HY8 := Lib.hid (HY.out.kept hk8)
    clear hk8 C y0 y1 y2 y3 y4 y5 y6 y7 y8
    go_upto_region 14 with fail
    have C := check_Outline (mtK o a s d true l) [(mtM a true l, .slice (some ⟨gc, 0, none⟩) 1 1, .slice none 0 0)] _ _ _ _ w8 (HCR.out.kept K8.out) (fun k hk => (mtPool_text HS.out HD.out k hk).1)
    unfold OutG at C
    rw [← HT_.out, ← HR_.out] at C
    have y0 := HY8.out.cell 0
    have y1 := HY8.out.cell 1
    have y2 := HY8.out.cell 2
    have y3 := HY8.out.cell 3
    have y4 := HY8.out.cell 4
    have y5 := HY8.out.cell 5
    have y6 := HY8.out.cell 6
    have y7 := HY8.out.cell 7
    have y8 := HY8.out.cell 8
    simp only [List.getElem?_toArray, List.getElem?_cons_succ, List.getElem?_cons_zero] at y0 y1 y2 y3 y4 y5 y6 y7 y8
    go_wp2_with fail
    refine C.mono ?_
    rintro e wt ⟨vI, vF, vM, he, hown, hk8⟩
    obtain ⟨aaI, caI, rfl, -, -⟩ := own_slice hown.i
    obtain ⟨aaF, caF, rfl, -, -⟩ := own_slice hown.f
    obtain ⟨aaM, caM, rfl, -, -⟩ := own_slice hown.m
    have HOW := Lib.hid hown
    rw [← HNM.out, ← HSP.out, ← HAC.out, ← HNI.out, ← HNF.out, ← HNMM.out] at he
    rw [← HNI.out, ← HNF.out, ← HNMM.out] at HOW
    subst he
    clear hown C y0 y1 y2 y3 y4 y5 y6 y7 y8
    go_upto_region 15 with fail
    have hka : Kept w8 (wt.alloc (.cells #[.string nm, .string sp, .int .i64 tac, .slice aaI nI caI, .slice aaF nF caF, .slice aaM nM caM] 36)) := Kept.trans hk8 ((Below.refl _ _).alloc (Nat.le_refl _) _)
    have HT1 := Lib.hid (Blk.new wt 36 #[.string nm, .string sp, .int .i64 tac, .slice aaI nI caI, .slice aaF nF caF, .slice aaM nM caM])
    have OW1 := Lib.hid (HOW.out.keep (show Kept wt (wt.alloc (.cells #[.string nm, .string sp, .int .i64 tac, .slice aaI nI caI, .slice aaF nF caF, .slice aaM nM caM] 36)) from (Below.refl _ _).alloc (Nat.le_refl _) _))
    have K9 := Lib.hid hka
    obtain ⟨gHT1, hgHT1⟩ : ∃ k, k = wt.heap.size := ⟨_, rfl⟩
    rw [← hgHT1] at HT1 ⊢
    clear hka hk8 HOW
    generalize (wt.alloc (.cells #[.string nm, .string sp, .int .i64 tac, .slice aaI nI caI, .slice aaF nF caF, .slice aaM nM caM] 36)) = w9 at *
    clear hgHT1
    have HY9 := Lib.hid (HY8.out.kept K9.out)
    have C := ref5_Outline (mtK o a s d true l) [(mtM a true l, .slice (some ⟨gc, 0, none⟩) 1 1, .slice none 0 0)] _ _ _ _ w9 (HCR.out.kept (Kept.trans K8.out K9.out)) (fun k hk => (mtPool_text HS.out HD.out k hk).1)
    unfold OutG at C
    rw [← HT_.out, ← HR_.out] at C
    have y0 := HY9.out.cell 0
    have y1 := HY9.out.cell 1
    have y2 := HY9.out.cell 2
    have y3 := HY9.out.cell 3
    have y4 := HY9.out.cell 4
    have y5 := HY9.out.cell 5
    have y6 := HY9.out.cell 6
    have y7 := HY9.out.cell 7
    have y8 := HY9.out.cell 8
    simp only [List.getElem?_toArray, List.getElem?_cons_succ, List.getElem?_cons_zero] at y0 y1 y2 y3 y4 y5 y6 y7 y8
    go_wp2_with fail
    refine C.mono ?_
    rintro e wt ⟨vI, vF, vM, he, hown, hk8⟩
    obtain ⟨abI, cbI, rfl, -, -⟩ := own_slice hown.i
    obtain ⟨abF, cbF, rfl, -, -⟩ := own_slice hown.f
    obtain ⟨abM, cbM, rfl, -, -⟩ := own_slice hown.m
    have HOW := Lib.hid hown
    rw [← HNM.out, ← HSP.out, ← HAC.out, ← HNI.out, ← HNF.out, ← HNMM.out] at he
    rw [← HNI.out, ← HNF.out, ← HNMM.out] at HOW
    subst he
    clear hown C y0 y1 y2 y3 y4 y5 y6 y7 y8
    go_upto_region 16 with fail
    have hka : Kept w9 (wt.alloc (.cells #[.string nm, .string sp, .int .i64 tac, .slice abI nI cbI, .slice abF nF cbF, .slice abM nM cbM] 36)) := Kept.trans hk8 ((Below.refl _ _).alloc (Nat.le_refl _) _)
    have HT2 := Lib.hid (Blk.new wt 36 #[.string nm, .string sp, .int .i64 tac, .slice abI nI cbI, .slice abF nF cbF, .slice abM nM cbM])
    have OW2 := Lib.hid (HOW.out.keep (show Kept wt (wt.alloc (.cells #[.string nm, .string sp, .int .i64 tac, .slice abI nI cbI, .slice abF nF cbF, .slice abM nM cbM] 36)) from (Below.refl _ _).alloc (Nat.le_refl _) _))
    have K10 := Lib.hid hka
    obtain ⟨gHT2, hgHT2⟩ : ∃ k, k = wt.heap.size := ⟨_, rfl⟩
    rw [← hgHT2] at HT2 ⊢
    clear hka hk8 HOW
    generalize (wt.alloc (.cells #[.string nm, .string sp, .int .i64 tac, .slice abI nI cbI, .slice abF nF cbF, .slice abM nM cbM] 36)) = w10 at *
    clear hgHT2
    have OW1b := Lib.hid (OW1.out.keep K10.out)
    have HT1b := Lib.hid (HT1.out.kept K10.out)
    have C := same_out (by have h := OW1b.out; rw [HNI.out, HNF.out, HNMM.out] at h; exact h) (by have h := OW2.out; rw [HNI.out, HNF.out, HNMM.out] at h; exact h) HTB.out
    rw [← HNM.out, ← HSP.out, ← HAC.out, ← HNI.out, ← HNF.out, ← HNMM.out] at C
    have x0 := HT1b.out.cell 0
    have x1 := HT1b.out.cell 1
    have x2 := HT1b.out.cell 2
    have x3 := HT1b.out.cell 3
    have x4 := HT1b.out.cell 4
    have x5 := HT1b.out.cell 5
    simp only [List.getElem?_toArray, List.getElem?_cons_succ, List.getElem?_cons_zero] at x0 x1 x2 x3 x4 x5
    have y0 := HT2.out.cell 0
    have y1 := HT2.out.cell 1
    have y2 := HT2.out.cell 2
    have y3 := HT2.out.cell 3
    have y4 := HT2.out.cell 4
    have y5 := HT2.out.cell 5
    simp only [List.getElem?_toArray, List.getElem?_cons_succ, List.getElem?_cons_zero] at y0 y1 y2 y3 y4 y5
    go_wp2_with (first | (go_at_call 21; refine (law5_num _ _).mono ?_; rintro e w9 ⟨rfl, rfl⟩) | (go_at_call 22; refine C.mono ?_; rintro e wz ⟨rfl, hkz⟩; have KZ := Lib.hid hkz; clear hkz))
    go_ret
    exact ⟨rfl, Below.trans KY.out ((Kept.trans (Kept.trans (Kept.trans K8.out K9.out) K10.out) KZ.out).mono KY.out.size)⟩
end Go.Proofs.Ytcklmhbcjgiplaa
