/-
  Package choose by contract: at, member, told.
-/
import Derived.Test.YteblpdcedlaedaaFindR4
namespace Go.Proofs.Yteblpdcedlaedaa
open Go.RowKit
set_option maxRecDepth 100000

def AtOk (t : TD) (w : World) (e : Ending) (w' : World) : Prop := ∃ ai ci af cf am cm, e = .returned (.tuple #[.agg #[.string t.name, .string t.super, .int .i64 t.access, .slice ai t.interfaces.length ci, .slice af t.fields.length cf, .slice am t.methods.length cm], .bool true]) ∧ Rd w' 5 (.slice am t.methods.length cm) t.methods.length (t.methods.flatMap encMemberV) ∧ t.methods.length ≤ 140737488351232 ∧ Kept w w'
def AtNo (w : World) (e : Ending) (w' : World) : Prop := e = .returned (.tuple #[.agg #[.string ⟨#[]⟩, .string ⟨#[]⟩, .int .i64 0, .slice none 0 0, .slice none 0 0, .slice none 0 0], .bool false]) ∧ Kept w w'

theorem ch_at_some (D : List TD) (s : ByteArray) (k : Nat) (t : TD) (v : Value) (w : World) (h : TyR w v D) (ho : atO D s = some k) (ht : D[k]? = some t) :
    Calls Try.prog 38 #[v, .string s] w (AtOk t w) := by
  have k0 : Kept w (w.alloc (.cells #[.string ⟨#[]⟩, .string ⟨#[]⟩, .int .i64 0, .slice none 0 0, .slice none 0 0, .slice none 0 0] 36)) := (Below.refl _ _).alloc (Nat.le_refl _) _
  have CA := kin_At D s v _ (h.kept k0)
  rw [atI_some ho] at CA
  have hkl := (List.getElem?_eq_some_iff.1 ht).1
  obtain ⟨tb, tof, tc, ia, ic, fa, fc, ma, mc, rfl, x0, x1, x2, x3, x4, x5, -, -, -, -, hm, hml⟩ := ty_row h ht
  have hki : (k : Int) < (D.length : Int) := by omega
  have hk0 : (0 : Int) ≤ (k : Int) := by omega
  have HM := Lib.hid hm
  have CA := Lib.hid CA
  have nlt : tb < w.heap.size := World.block_lt_of_cell? w _ x0
  have nb : ¬ (tb = w.heap.size) := by omega
  clear h ho ht k0 hm hkl
  go_enter Try.func38, Try.ntmps38
  go_wp2_with fail
  refine CA.out.mono ?_
  rintro e w1 ⟨rfl, rfl⟩
  clear CA
  go_wp2_with fail
  refine bodyPost_ret (v := .tuple #[.agg #[.string t.name, .string t.super, .int .i64 t.access, .slice ia t.interfaces.length ic, .slice fa t.fields.length fc, .slice ma t.methods.length mc], .bool true]) (by simp [results, Try.results38, go_sem]) rfl ?_
  exact ⟨_, _, _, _, _, _, rfl, HM.out.kept ((Below.refl _ _).alloc (Nat.le_refl _) _), hml, (Below.refl _ _).alloc (Nat.le_refl _) _⟩
theorem ch_at_none (D : List TD) (s : ByteArray) (v : Value) (w : World) (h : TyR w v D) (ho : atO D s = none) :
    Calls Try.prog 38 #[v, .string s] w (AtNo w) := by
  have k0 : Kept w (w.alloc (.cells #[.string ⟨#[]⟩, .string ⟨#[]⟩, .int .i64 0, .slice none 0 0, .slice none 0 0, .slice none 0 0] 36)) := (Below.refl _ _).alloc (Nat.le_refl _) _
  have CA := kin_At D s v _ (h.kept k0)
  rw [atI_none ho] at CA
  have CA := Lib.hid CA
  obtain ⟨av, cv, rfl, -, -⟩ := h.slice
  clear h ho k0
  go_enter Try.func38, Try.ntmps38
  go_wp2_with fail
  refine CA.out.mono ?_
  rintro e w1 ⟨rfl, rfl⟩
  clear CA
  go_wp2_with fail
  refine bodyPost_ret (v := .tuple #[.agg #[.string ⟨#[]⟩, .string ⟨#[]⟩, .int .i64 0, .slice none 0 0, .slice none 0 0, .slice none 0 0], .bool false]) (by simp [results, Try.results38, go_sem]) rfl ?_
  exact ⟨rfl, (Below.refl _ _).alloc (Nat.le_refl _) _⟩

/-- The method of a found, if there is one. -/
def memO (D : List TD) (c : ByteArray) (i : Int) : Option MemberV := if 0 ≤ i then (metL D c)[i.toNat]? else none
def memZ0 : MemberV := ⟨0, ⟨#[]⟩, ⟨#[]⟩, false, 0⟩
def memVal_ (m : MemberV) : Value := .agg #[.int .i64 m.access, .string m.name, .string m.desc, .bool m.has, .int .i64 m.value]
def memOV (o : Option MemberV) : Value := .tuple #[memVal_ (o.getD memZ0), .bool o.isSome]
structure MPut (w : World) (r : Nat) (u0 u1 u2 u3 u4 : Value) : Prop where
  e0 : (w.setCell ⟨r, 0, none⟩ u0).cell? ⟨r, 0, none⟩ = some u0
  e1 : ((w.setCell ⟨r, 0, none⟩ u0).setCell ⟨r, 1, none⟩ u1).cell? ⟨r, 1, none⟩ = some u1
  e2 : (((w.setCell ⟨r, 0, none⟩ u0).setCell ⟨r, 1, none⟩ u1).setCell ⟨r, 2, none⟩ u2).cell? ⟨r, 2, none⟩ = some u2
  e3 : ((((w.setCell ⟨r, 0, none⟩ u0).setCell ⟨r, 1, none⟩ u1).setCell ⟨r, 2, none⟩ u2).setCell ⟨r, 3, none⟩ u3).cell? ⟨r, 3, none⟩ = some u3
  e4 : (((((w.setCell ⟨r, 0, none⟩ u0).setCell ⟨r, 1, none⟩ u1).setCell ⟨r, 2, none⟩ u2).setCell ⟨r, 3, none⟩ u3).setCell ⟨r, 4, none⟩ u4).cell? ⟨r, 4, none⟩ = some u4
  blk : Blk (((((w.setCell ⟨r, 0, none⟩ u0).setCell ⟨r, 1, none⟩ u1).setCell ⟨r, 2, none⟩ u2).setCell ⟨r, 3, none⟩ u3).setCell ⟨r, 4, none⟩ u4) r 38 #[u0, u1, u2, u3, u4]
theorem mput {w : World} {r : Nat} {a b c d e : Value} (h : Blk w r 38 #[a, b, c, d, e]) (u0 u1 u2 u3 u4 : Value) : MPut w r u0 u1 u2 u3 u4 := by
  have h0 := h.set_ 0 u0
  have h1 := h0.set_ 1 u1
  have h2 := h1.set_ 2 u2
  have h3 := h2.set_ 3 u3
  have h4 := h3.set_ 4 u4
  have c0 := h0.cell 0
  have c1 := h1.cell 1
  have c2 := h2.cell 2
  have c3 := h3.cell 3
  have c4 := h4.cell 4
  simp at c0 c1 c2 c3 c4 h4
  exact ⟨c0, c1, c2, c3, c4, h4⟩
theorem MPut.keeps {w0 w : World} {r : Nat} (hk : Kept w0 w) (hr : w0.heap.size ≤ r) (u0 u1 u2 u3 u4 : Value) : Kept w0 (((((w.setCell ⟨r, 0, none⟩ u0).setCell ⟨r, 1, none⟩ u1).setCell ⟨r, 2, none⟩ u2).setCell ⟨r, 3, none⟩ u3).setCell ⟨r, 4, none⟩ u4) :=
  ((((hk.setCell hr _).setCell hr _).setCell hr _).setCell hr _).setCell hr _
theorem mem_all {w : World} {l : List MemberV} {ma : Option Addr} {mc : Nat} (hr : Rd w 5 (.slice ma l.length mc) l.length (l.flatMap encMemberV)) {i : Nat} {m : MemberV} (hm : l[i]? = some m) :
    ∃ b off, ma = some ⟨b, off, none⟩ ∧ w.cell? ⟨b, off + i * 5, none⟩ = some (.int .i64 m.access) ∧ w.cell? ⟨b, off + i * 5 + 1, none⟩ = some (.string m.name) ∧ w.cell? ⟨b, off + i * 5 + 2, none⟩ = some (.string m.desc) ∧ w.cell? ⟨b, off + i * 5 + 3, none⟩ = some (.bool m.has) ∧ w.cell? ⟨b, off + i * 5 + 4, none⟩ = some (.int .i64 m.value) ∧ b < w.heap.size ∧ ((i : Int) < (l.length : Int)) ∧ (0 : Int) ≤ (i : Int) := by
  obtain ⟨b, off, c, hv, x0, x1, x2, x3, x4⟩ := mem_row_ rfl hr hm
  simp only [Value.slice.injEq] at hv
  have := (List.getElem?_eq_some_iff.1 hm).1
  exact ⟨b, off, hv.1, x0, x1, x2, x3, x4, World.block_lt_of_cell? w _ x0, by omega, by omega⟩

set_option maxHeartbeats 4000000 in
theorem ch_member (D : List TD) (fc : ByteArray) (fi : Int) (v : Value) (w : World) (h : TyR w v D) :
    Calls Try.prog 30 #[v, .agg #[.string fc, .int .i64 fi]] w fun e w' => e = .returned (memOV (memO D fc fi)) ∧ Kept w w' := by
  have H := Lib.hid h
  have k0 : Kept w ((w.alloc (.cells #[.string fc, .int .i64 fi] 24)).alloc (.cells #[.int .i64 0, .string ⟨#[]⟩, .string ⟨#[]⟩, .bool false, .int .i64 0] 38)) := ((Below.refl _ _).alloc (Nat.le_refl _) _).alloc (by simp) _
  have b0 : Blk ((w.alloc (.cells #[.string fc, .int .i64 fi] 24)).alloc (.cells #[.int .i64 0, .string ⟨#[]⟩, .string ⟨#[]⟩, .bool false, .int .i64 0] 38)) w.heap.size 24 #[.string fc, .int .i64 fi] := (Blk.new w _ _).alloc _
  have b1 : Blk ((w.alloc (.cells #[.string fc, .int .i64 fi] 24)).alloc (.cells #[.int .i64 0, .string ⟨#[]⟩, .string ⟨#[]⟩, .bool false, .int .i64 0] 38)) (w.heap.size + 1) 38 #[.int .i64 0, .string ⟨#[]⟩, .string ⟨#[]⟩, .bool false, .int .i64 0] := Blk.at_ (by simp)
  have q0 := b0.cell 0
  have q1 := b0.cell 1
  simp only [List.getElem?_toArray, List.getElem?_cons_succ, List.getElem?_cons_zero] at q0 q1
  have K0 := Lib.hid k0
  have B0 := Lib.hid b0
  have B1 := Lib.hid b1
  clear h k0 b0 b1
  go_enter Try.func30, Try.ntmps30
  go_wp2_with fail
  generalize ((w.alloc (.cells #[.string fc, .int .i64 fi] 24)).alloc (.cells #[.int .i64 0, .string ⟨#[]⟩, .string ⟨#[]⟩, .bool false, .int .i64 0] 38)) = W at *
  have step : ∀ w1, Kept W w1 → w.heap.size < w1.heap.size ∧ w.heap.size + 1 < w1.heap.size ∧ w1.cell? ⟨w.heap.size, 0, none⟩ = some (.string fc) ∧ w1.cell? ⟨w.heap.size, 1, none⟩ = some (.int .i64 fi) ∧ Blk w1 (w.heap.size + 1) 38 #[.int .i64 0, .string ⟨#[]⟩, .string ⟨#[]⟩, .bool false, .int .i64 0] ∧ Kept w w1 := by
    intro w1 k
    exact ⟨(B0.out.kept k).lt, (B1.out.kept k).lt, Kept.cell k q0, Kept.cell k q1, B1.out.kept k, Kept.trans K0.out k⟩
  have ST := Lib.hid step
  clear step q0 q1
  cases ho : atO D fc with
  | none =>
    have CA := Lib.hid (ch_at_none D fc v W (H.out.kept K0.out) ho)
    have hz : memO D fc fi = none := by unfold memO; rw [metL_no ho]; split <;> simp
    have HO := Lib.hid hz
    clear ho hz
    refine CA.out.mono ?_
    rintro e w1 ⟨rfl, k1⟩
    have kx : Kept w1 (w1.alloc (.cells #[.string ⟨#[]⟩, .string ⟨#[]⟩, .int .i64 0, .slice none 0 0, .slice none 0 0, .slice none 0 0] 36)) := (Below.refl _ _).alloc (Nat.le_refl _) _
    obtain ⟨l0, l1, q0, q1, hb, kk⟩ := ST.out _ (Kept.trans k1 kx)
    have bt := Blk.new w1 36 #[.string ⟨#[]⟩, .string ⟨#[]⟩, .int .i64 0, .slice none 0 0, .slice none 0 0, .slice none 0 0]
    have BX := Lib.hid hb
    have KX := Lib.hid kk
    have tl := bt.lt
    have t5 := bt.cell 5
    have c0 := hb.cell 0
    have c1 := hb.cell 1
    have c2 := hb.cell 2
    have c3 := hb.cell 3
    have c4 := hb.cell 4
    simp only [List.getElem?_toArray, List.getElem?_cons_succ, List.getElem?_cons_zero] at c0 c1 c2 c3 c4 t5
    have f0 := hb.frozen 0
    have f1 := hb.frozen 1
    have f2 := hb.frozen 2
    have f3 := hb.frozen 3
    have f4 := hb.frozen 4
    have KXX := Lib.hid kx
    clear hb kk k1 CA kx bt
    go_upto_region 2 with fail
    generalize (w1.alloc (.cells #[.string ⟨#[]⟩, .string ⟨#[]⟩, .int .i64 0, .slice none 0 0, .slice none 0 0, .slice none 0 0] 36)) = WX at *
    have MP := mput BX.out (.int .i64 0) (.string ⟨#[]⟩) (.string ⟨#[]⟩) (.bool false) (.int .i64 0)
    have E0 := Lib.hid MP.e0
    have E1 := Lib.hid MP.e1
    have E2 := Lib.hid MP.e2
    have E3 := Lib.hid MP.e3
    have E4 := Lib.hid MP.e4
    have PB := Lib.hid MP.blk
    have KP := Lib.hid (MPut.keeps KX.out (Nat.le_succ w.heap.size) (.int .i64 0) (.string ⟨#[]⟩) (.string ⟨#[]⟩) (.bool false) (.int .i64 0))
    have z0 := PB.out.cell 0
    have z1 := PB.out.cell 1
    have z2 := PB.out.cell 2
    have z3 := PB.out.cell 3
    have z4 := PB.out.cell 4
    simp only [List.getElem?_toArray, List.getElem?_cons_succ, List.getElem?_cons_zero] at z0 z1 z2 z3 z4
    have Z0 := Lib.hid z0
    have Z1 := Lib.hid z1
    have Z2 := Lib.hid z2
    have Z3 := Lib.hid z3
    have Z4 := Lib.hid z4
    have HO := Lib.hid (show memO D fc fi = none by exact HO.out)
    clear MP
    go_wp2_with fail
    refine bodyPost_ret (v := memOV (memO D fc fi)) (by rw [HO.out]; simp [results, Try.results30, go_sem, E0.out, E1.out, E2.out, E3.out, E4.out, Z0.out, Z1.out, Z2.out, Z3.out, Z4.out, memOV, memVal_, memZ0]) rfl ⟨rfl, ?_⟩
    exact KP.out
  | some k =>
    obtain ⟨t, ht, htn, hkl⟩ := atO_some ho
    have CA := Lib.hid (ch_at_some D fc k t v W (H.out.kept K0.out) ho ht)
    have hmet := metL_at ho ht
    have HMET := Lib.hid hmet
    clear ho ht htn hmet
    refine CA.out.mono ?_
    rintro e w1 ⟨ai, ci, af, cf, am, cm, rfl, hrd, hml, k1⟩
    obtain ⟨nm, sp, acc, ifs_, fds, mts⟩ := t
    simp only at hrd HMET hml ⊢
    have kx : Kept w1 (w1.alloc (.cells #[.string nm, .string sp, .int .i64 acc, .slice ai ifs_.length ci, .slice af fds.length cf, .slice am mts.length cm] 36)) := (Below.refl _ _).alloc (Nat.le_refl _) _
    obtain ⟨l0, l1, q0, q1, hb, kk⟩ := ST.out _ (Kept.trans k1 kx)
    have bt := Blk.new w1 36 #[.string nm, .string sp, .int .i64 acc, .slice ai ifs_.length ci, .slice af fds.length cf, .slice am mts.length cm]
    have BX := Lib.hid hb
    have KX := Lib.hid kk
    have tl := bt.lt
    have t5 := bt.cell 5
    have c0 := hb.cell 0
    have c1 := hb.cell 1
    have c2 := hb.cell 2
    have c3 := hb.cell 3
    have c4 := hb.cell 4
    simp only [List.getElem?_toArray, List.getElem?_cons_succ, List.getElem?_cons_zero] at c0 c1 c2 c3 c4 t5
    have f0 := hb.frozen 0
    have f1 := hb.frozen 1
    have f2 := hb.frozen 2
    have f3 := hb.frozen 3
    have f4 := hb.frozen 4
    have KXX := Lib.hid kx
    clear hb kk k1 CA kx bt
    go_upto_region 2 with fail
    generalize (w1.alloc (.cells #[.string nm, .string sp, .int .i64 acc, .slice ai ifs_.length ci, .slice af fds.length cf, .slice am mts.length cm] 36)) = WX at *
    have HRD := Lib.hid (hrd.kept KXX.out)
    clear hrd
    by_cases h0 : 0 ≤ fi
    · by_cases h1 : fi < (mts.length : Int)
      · obtain ⟨i, hi⟩ : ∃ i : Nat, fi = (i : Int) := ⟨fi.toNat, by omega⟩
        obtain ⟨m, hm⟩ : ∃ m, mts[i]? = some m := ⟨_, List.getElem?_eq_getElem (by omega)⟩
        obtain ⟨mb, mo, rfl, y0, y1, y2, y3, y4, yb, hi1, hi0⟩ := mem_all HRD.out hm
        have HM := Lib.hid hm
        subst hi
        have g1 : decide (mts.length ≤ i) = false := by simp; omega
        have g2 : decide ((i : Int) < 0) = false := by simp
        have g3 : ¬ (mts.length ≤ i) := by omega
        clear hm h0 h1
        have MP := mput BX.out (.int .i64 m.access) (.string m.name) (.string m.desc) (.bool m.has) (.int .i64 m.value)
        have E0 := Lib.hid MP.e0
        have E1 := Lib.hid MP.e1
        have E2 := Lib.hid MP.e2
        have E3 := Lib.hid MP.e3
        have E4 := Lib.hid MP.e4
        have PB := Lib.hid MP.blk
        have KP := Lib.hid (MPut.keeps KX.out (Nat.le_succ w.heap.size) (.int .i64 m.access) (.string m.name) (.string m.desc) (.bool m.has) (.int .i64 m.value))
        have z0 := PB.out.cell 0
        have z1 := PB.out.cell 1
        have z2 := PB.out.cell 2
        have z3 := PB.out.cell 3
        have z4 := PB.out.cell 4
        simp only [List.getElem?_toArray, List.getElem?_cons_succ, List.getElem?_cons_zero] at z0 z1 z2 z3 z4
        have Z0 := Lib.hid z0
        have Z1 := Lib.hid z1
        have Z2 := Lib.hid z2
        have Z3 := Lib.hid z3
        have Z4 := Lib.hid z4
        have HO := Lib.hid (show memO D fc (i : Int) = some m by unfold memO; rw [if_pos (by simp), HMET.out]; simpa using HM.out)
        clear MP
        clear z0 z1 z2 z3 z4
        go_wp2_with fail
        refine bodyPost_ret (v := memOV (memO D fc (i : Int))) (by rw [HO.out]; simp [results, Try.results30, go_sem, E0.out, E1.out, E2.out, E3.out, E4.out, Z0.out, Z1.out, Z2.out, Z3.out, Z4.out, memOV, memVal_, memZ0]) rfl ⟨rfl, ?_⟩
        exact KP.out
      · have HN := Lib.hid (show ¬ fi.toNat < mts.length by omega)
        have h1' : decide ((mts.length : Int) ≤ fi) = true := by simp; omega
        have H0 := Lib.hid h0
        have hlt : ¬ fi < 0 := by omega
        have hge : (mts.length : Int) ≤ fi := by omega
        clear h1 h0
        have MP := mput BX.out (.int .i64 0) (.string ⟨#[]⟩) (.string ⟨#[]⟩) (.bool false) (.int .i64 0)
        have E0 := Lib.hid MP.e0
        have E1 := Lib.hid MP.e1
        have E2 := Lib.hid MP.e2
        have E3 := Lib.hid MP.e3
        have E4 := Lib.hid MP.e4
        have PB := Lib.hid MP.blk
        have KP := Lib.hid (MPut.keeps KX.out (Nat.le_succ w.heap.size) (.int .i64 0) (.string ⟨#[]⟩) (.string ⟨#[]⟩) (.bool false) (.int .i64 0))
        have z0 := PB.out.cell 0
        have z1 := PB.out.cell 1
        have z2 := PB.out.cell 2
        have z3 := PB.out.cell 3
        have z4 := PB.out.cell 4
        simp only [List.getElem?_toArray, List.getElem?_cons_succ, List.getElem?_cons_zero] at z0 z1 z2 z3 z4
        have Z0 := Lib.hid z0
        have Z1 := Lib.hid z1
        have Z2 := Lib.hid z2
        have Z3 := Lib.hid z3
        have Z4 := Lib.hid z4
        have HO := Lib.hid (show memO D fc fi = none by unfold memO; rw [if_pos H0.out, HMET.out]; exact List.getElem?_eq_none (by have := HN.out; omega))
        clear MP
        clear z0 z1 z2 z3 z4
        go_wp2_with fail
        refine bodyPost_ret (v := memOV (memO D fc fi)) (by rw [HO.out]; simp [results, Try.results30, go_sem, E0.out, E1.out, E2.out, E3.out, E4.out, Z0.out, Z1.out, Z2.out, Z3.out, Z4.out, memOV, memVal_, memZ0]) rfl ⟨rfl, ?_⟩
        exact KP.out
    · have H0 := Lib.hid h0
      have hlt : fi < 0 := by omega
      clear h0
      have MP := mput BX.out (.int .i64 0) (.string ⟨#[]⟩) (.string ⟨#[]⟩) (.bool false) (.int .i64 0)
      have E0 := Lib.hid MP.e0
      have E1 := Lib.hid MP.e1
      have E2 := Lib.hid MP.e2
      have E3 := Lib.hid MP.e3
      have E4 := Lib.hid MP.e4
      have PB := Lib.hid MP.blk
      have KP := Lib.hid (MPut.keeps KX.out (Nat.le_succ w.heap.size) (.int .i64 0) (.string ⟨#[]⟩) (.string ⟨#[]⟩) (.bool false) (.int .i64 0))
      have z0 := PB.out.cell 0
      have z1 := PB.out.cell 1
      have z2 := PB.out.cell 2
      have z3 := PB.out.cell 3
      have z4 := PB.out.cell 4
      simp only [List.getElem?_toArray, List.getElem?_cons_succ, List.getElem?_cons_zero] at z0 z1 z2 z3 z4
      have Z0 := Lib.hid z0
      have Z1 := Lib.hid z1
      have Z2 := Lib.hid z2
      have Z3 := Lib.hid z3
      have Z4 := Lib.hid z4
      have HO := Lib.hid (show memO D fc fi = none by unfold memO; rw [if_neg H0.out])
      clear MP
      clear z0 z1 z2 z3 z4
      go_wp2_with fail
      refine bodyPost_ret (v := memOV (memO D fc fi)) (by rw [HO.out]; simp [results, Try.results30, go_sem, E0.out, E1.out, E2.out, E3.out, E4.out, Z0.out, Z1.out, Z2.out, Z3.out, Z4.out, memOV, memVal_, memZ0]) rfl ⟨rfl, ?_⟩
      exact KP.out
end Go.Proofs.Yteblpdcedlaedaa
