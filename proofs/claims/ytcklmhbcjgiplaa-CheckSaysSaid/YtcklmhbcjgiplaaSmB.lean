/-
  The document's answer for emit: when two classes are the same: Same.
-/
import Derived.Test.YtcklmhbcjgiplaaSmA
import Derived.Deep.RegionHeld2
namespace Go.Proofs.Ytcklmhbcjgiplaa
set_option linter.unusedVariables false
set_option linter.unusedSimpArgs false
open Go.RowKit
set_option maxRecDepth 100000

/-- A class's rows, read. -/
structure CRd (w : World) (c : ClassC) (mv : List (MethC × Value × Value)) (vP vI vF vM : Value) : Prop where
  p : Rd w 5 vP c.pool.length (c.pool.flatMap encC)
  i : Rd w 1 vI c.ifaces.length (c.ifaces.flatMap encI)
  f : Rd w 4 vF c.fields.length (c.fields.flatMap encF)
  m : Rd w 8 vM mv.length (mv.flatMap encM)
  r : ∀ x ∈ mv, MRd w x.1 x.2.1 x.2.2
  ms : c.methods = mv.map fun x => x.1
theorem CRd.kept {w w' : World} {c : ClassC} {mv : List (MethC × Value × Value)} {vP vI vF vM : Value} (h : CRd w c mv vP vI vF vM) (k : Kept w w') : CRd w' c mv vP vI vF vM :=
  ⟨h.p.kept k, h.i.kept k, h.f.kept k, h.m.kept k, fun x hx => (h.r x hx).kept k, h.ms⟩
theorem const_cells {w : World} {l : List ConstC} {v : Value} {n : Nat} (hn : n = l.length) (hr : Rd w 5 v n (l.flatMap encC)) {i : Nat} {t : ConstC} (hm : l[i]? = some t) :
    ∃ b off c, v = .slice (some ⟨b, off, none⟩) n c ∧ w.cell? ⟨b, off + i * 5, none⟩ = some (.int .i64 t.tag) ∧ w.cell? ⟨b, off + i * 5 + 1, none⟩ = some (.string t.text) ∧ w.cell? ⟨b, off + i * 5 + 2, none⟩ = some (.int .i64 t.num) ∧ w.cell? ⟨b, off + i * 5 + 3, none⟩ = some (.int .i64 t.a) ∧ w.cell? ⟨b, off + i * 5 + 4, none⟩ = some (.int .i64 t.b) := by
  have hl := (List.getElem?_eq_some_iff.1 hm).1
  rcases hr.parts with ⟨h0, _⟩ | ⟨b, off, c, rfl, h0, h1, h2, hc⟩
  · omega
  · have hg : ∀ f u, (encC t)[f]? = some u → f < 5 → w.cell? ⟨b, off + (i * 5 + f), none⟩ = some u := fun f u hu hf => hc _ _ (by rw [flat_get encC 5 (fun _ => rfl) l i f t hm hf]; exact hu)
    exact ⟨b, off, c, rfl, hg 0 _ rfl (by omega), hg 1 _ rfl (by omega), hg 2 _ rfl (by omega), hg 3 _ rfl (by omega), hg 4 _ rfl (by omega)⟩
theorem field_cells {w : World} {l : List FieldC} {v : Value} {n : Nat} (hn : n = l.length) (hr : Rd w 4 v n (l.flatMap encF)) {i : Nat} {t : FieldC} (hm : l[i]? = some t) :
    ∃ b off c, v = .slice (some ⟨b, off, none⟩) n c ∧ w.cell? ⟨b, off + i * 4, none⟩ = some (.int .i64 t.access) ∧ w.cell? ⟨b, off + i * 4 + 1, none⟩ = some (.int .i64 t.name) ∧ w.cell? ⟨b, off + i * 4 + 2, none⟩ = some (.int .i64 t.desc) ∧ w.cell? ⟨b, off + i * 4 + 3, none⟩ = some (.int .i64 t.value) := by
  have hl := (List.getElem?_eq_some_iff.1 hm).1
  rcases hr.parts with ⟨h0, _⟩ | ⟨b, off, c, rfl, h0, h1, h2, hc⟩
  · omega
  · have hg : ∀ f u, (encF t)[f]? = some u → f < 4 → w.cell? ⟨b, off + (i * 4 + f), none⟩ = some u := fun f u hu hf => hc _ _ (by rw [flat_get encF 4 (fun _ => rfl) l i f t hm hf]; exact hu)
    exact ⟨b, off, c, rfl, hg 0 _ rfl (by omega), hg 1 _ rfl (by omega), hg 2 _ rfl (by omega), hg 3 _ rfl (by omega)⟩
theorem iface_cells {w : World} {l : List Int} {v : Value} {n : Nat} (hn : n = l.length) (hr : Rd w 1 v n (l.flatMap encI)) {i : Nat} {t : Int} (hm : l[i]? = some t) :
    ∃ b off c, v = .slice (some ⟨b, off, none⟩) n c ∧ w.cell? ⟨b, off + i, none⟩ = some (.int .i64 t) := by
  have hl := (List.getElem?_eq_some_iff.1 hm).1
  rcases hr.parts with ⟨h0, _⟩ | ⟨b, off, c, rfl, h0, h1, h2, hc⟩
  · omega
  · refine ⟨b, off, c, rfl, hc _ _ ?_⟩
    have := flat_get encI 1 (fun _ => rfl) l i 0 t hm (by omega)
    rw [Nat.mul_one, Nat.add_zero] at this
    exact this
theorem meth_cells {w : World} {l : List (MethC × Value × Value)} {v : Value} {n : Nat} (hn : n = l.length) (hr : Rd w 8 v n (l.flatMap encM)) {i : Nat} {t : MethC × Value × Value} (hm : l[i]? = some t) :
    ∃ b off c, v = .slice (some ⟨b, off, none⟩) n c ∧ w.cell? ⟨b, off + i * 8, none⟩ = some (.int .i64 t.1.access) ∧ w.cell? ⟨b, off + i * 8 + 1, none⟩ = some (.int .i64 t.1.name) ∧ w.cell? ⟨b, off + i * 8 + 2, none⟩ = some (.int .i64 t.1.desc) ∧ w.cell? ⟨b, off + i * 8 + 3, none⟩ = some (.bool t.1.has) ∧ w.cell? ⟨b, off + i * 8 + 4, none⟩ = some (.int .i64 t.1.stack) ∧ w.cell? ⟨b, off + i * 8 + 5, none⟩ = some (.int .i64 t.1.locals) ∧ w.cell? ⟨b, off + i * 8 + 6, none⟩ = some t.2.1 ∧ w.cell? ⟨b, off + i * 8 + 7, none⟩ = some t.2.2 := by
  have hl := (List.getElem?_eq_some_iff.1 hm).1
  rcases hr.parts with ⟨h0, _⟩ | ⟨b, off, c, rfl, h0, h1, h2, hc⟩
  · omega
  · have hg : ∀ f u, (encM t)[f]? = some u → f < 8 → w.cell? ⟨b, off + (i * 8 + f), none⟩ = some u := fun f u hu hf => hc _ _ (by rw [flat_get encM 8 (fun _ => rfl) l i f t hm hf]; exact hu)
    exact ⟨b, off, c, rfl, hg 0 _ rfl (by omega), hg 1 _ rfl (by omega), hg 2 _ rfl (by omega), hg 3 _ rfl (by omega), hg 4 _ rfl (by omega), hg 5 _ rfl (by omega), hg 6 _ rfl (by omega), hg 7 _ rfl (by omega)⟩
theorem sm_strne {s : ByteArray} {l : List UInt8} (h : ¬ s.data.toList = l) : (s.toList == l) = false := by rw [ByteArray.toList_eq]; simpa using h
theorem const_neq {x0 x2 x3 x4 y0 y2 y3 y4 : Int} {x1 y1 : ByteArray} (h : ¬ (⟨x0, x1, x2, x3, x4⟩ : ConstC) = ⟨y0, y1, y2, y3, y4⟩) (W : World) : (binOp .neq 47 (.agg #[.int .i64 x0, .string x1, .int .i64 x2, .int .i64 x3, .int .i64 x4]) (.agg #[.int .i64 y0, .string y1, .int .i64 y2, .int .i64 y3, .int .i64 y4])).run Try.prog W = .ok (.bool true) W := by
  by_cases e0 : x0 = y0
  rotate_left
  · have b : (x0 == y0) = false := by simpa using e0
    clear h e0
    go_simp
  subst e0
  by_cases e1 : x1 = y1
  rotate_left
  · have b : (x1.toList == y1.toList) = false := sm_strne fun e => e1 (by rw [ByteArray.toList_eq] at e; obtain ⟨⟨l⟩⟩ := x1; obtain ⟨⟨l'⟩⟩ := y1; dsimp only at e; rw [e])
    clear h e1
    go_simp
  subst e1
  by_cases e2 : x2 = y2
  rotate_left
  · have b : (x2 == y2) = false := by simpa using e2
    clear h e2
    go_simp
  subst e2
  by_cases e3 : x3 = y3
  rotate_left
  · have b : (x3 == y3) = false := by simpa using e3
    clear h e3
    go_simp
  subst e3
  by_cases e4 : x4 = y4
  rotate_left
  · have b : (x4 == y4) = false := by simpa using e4
    clear h e4
    go_simp
  subst e4
  exact absurd rfl h
theorem field_neq {x0 x1 x2 x3 y0 y1 y2 y3 : Int} (h : ¬ (⟨x0, x1, x2, x3⟩ : FieldC) = ⟨y0, y1, y2, y3⟩) (W : World) : (binOp .neq 55 (.agg #[.int .i64 x0, .int .i64 x1, .int .i64 x2, .int .i64 x3]) (.agg #[.int .i64 y0, .int .i64 y1, .int .i64 y2, .int .i64 y3])).run Try.prog W = .ok (.bool true) W := by
  by_cases e0 : x0 = y0
  rotate_left
  · have b : (x0 == y0) = false := by simpa using e0
    clear h e0
    go_simp
  subst e0
  by_cases e1 : x1 = y1
  rotate_left
  · have b : (x1 == y1) = false := by simpa using e1
    clear h e1
    go_simp
  subst e1
  by_cases e2 : x2 = y2
  rotate_left
  · have b : (x2 == y2) = false := by simpa using e2
    clear h e2
    go_simp
  subst e2
  by_cases e3 : x3 = y3
  rotate_left
  · have b : (x3 == y3) = false := by simpa using e3
    clear h e3
    go_simp
  subst e3
  exact absurd rfl h
set_option maxHeartbeats 4000000 in
theorem ref4_Same_0 (xi xj xa xt xs yi yj ya yt ys : Int) (v1 v2 v3 v4 u1 u2 u3 u4 : Value) (w : World) (hne : ¬ xi = yi) :
    Calls Try.prog 37 #[.agg #[.int .i64 xi, .int .i64 xj, v1, .int .i64 xa, .int .i64 xt, .int .i64 xs, v2, v3, v4], .agg #[.int .i64 yi, .int .i64 yj, u1, .int .i64 ya, .int .i64 yt, .int .i64 ys, u2, u3, u4]] w fun e w' => e = .returned (.bool false) ∧ Kept w w' := by
  have hk : Kept w ((w.alloc (.cells #[.int .i64 xi, .int .i64 xj, v1, .int .i64 xa, .int .i64 xt, .int .i64 xs, v2, v3, v4] 27)).alloc (.cells #[.int .i64 yi, .int .i64 yj, u1, .int .i64 ya, .int .i64 yt, .int .i64 ys, u2, u3, u4] 27)) := ((Below.refl _ _).alloc (Nat.le_refl _) _).alloc (by simp) _
  have HK := Lib.hid hk
  clear hk
  have hne' : (xi != yi) = true := by simpa using hne
  go_enter Try.func37, Try.ntmps37
  go_wp2_with fail
  go_ret
  exact ⟨rfl, HK.out⟩
set_option maxHeartbeats 4000000 in
theorem ref4_Same_1 (xi xj xa xt xs yi yj ya yt ys : Int) (v1 v2 v3 v4 u1 u2 u3 u4 : Value) (w : World) (hne : ¬ xj = yj) :
    Calls Try.prog 37 #[.agg #[.int .i64 xi, .int .i64 xj, v1, .int .i64 xa, .int .i64 xt, .int .i64 xs, v2, v3, v4], .agg #[.int .i64 xi, .int .i64 yj, u1, .int .i64 ya, .int .i64 yt, .int .i64 ys, u2, u3, u4]] w fun e w' => e = .returned (.bool false) ∧ Kept w w' := by
  have hk : Kept w ((w.alloc (.cells #[.int .i64 xi, .int .i64 xj, v1, .int .i64 xa, .int .i64 xt, .int .i64 xs, v2, v3, v4] 27)).alloc (.cells #[.int .i64 xi, .int .i64 yj, u1, .int .i64 ya, .int .i64 yt, .int .i64 ys, u2, u3, u4] 27)) := ((Below.refl _ _).alloc (Nat.le_refl _) _).alloc (by simp) _
  have HK := Lib.hid hk
  clear hk
  have hne' : (xj != yj) = true := by simpa using hne
  go_enter Try.func37, Try.ntmps37
  go_wp2_with fail
  go_ret
  exact ⟨rfl, HK.out⟩
set_option maxHeartbeats 4000000 in
theorem ref4_Same_2 (xi xj xa xt xs yi yj ya yt ys : Int) (v1 v2 v3 v4 u1 u2 u3 u4 : Value) (w : World) (hne : ¬ xa = ya) :
    Calls Try.prog 37 #[.agg #[.int .i64 xi, .int .i64 xj, v1, .int .i64 xa, .int .i64 xt, .int .i64 xs, v2, v3, v4], .agg #[.int .i64 xi, .int .i64 xj, u1, .int .i64 ya, .int .i64 yt, .int .i64 ys, u2, u3, u4]] w fun e w' => e = .returned (.bool false) ∧ Kept w w' := by
  have hk : Kept w ((w.alloc (.cells #[.int .i64 xi, .int .i64 xj, v1, .int .i64 xa, .int .i64 xt, .int .i64 xs, v2, v3, v4] 27)).alloc (.cells #[.int .i64 xi, .int .i64 xj, u1, .int .i64 ya, .int .i64 yt, .int .i64 ys, u2, u3, u4] 27)) := ((Below.refl _ _).alloc (Nat.le_refl _) _).alloc (by simp) _
  have HK := Lib.hid hk
  clear hk
  have hne' : (xa != ya) = true := by simpa using hne
  go_enter Try.func37, Try.ntmps37
  go_wp2_with fail
  go_ret
  exact ⟨rfl, HK.out⟩
set_option maxHeartbeats 4000000 in
theorem ref4_Same_3 (xi xj xa xt xs yi yj ya yt ys : Int) (v1 v2 v3 v4 u1 u2 u3 u4 : Value) (w : World) (hne : ¬ xt = yt) :
    Calls Try.prog 37 #[.agg #[.int .i64 xi, .int .i64 xj, v1, .int .i64 xa, .int .i64 xt, .int .i64 xs, v2, v3, v4], .agg #[.int .i64 xi, .int .i64 xj, u1, .int .i64 xa, .int .i64 yt, .int .i64 ys, u2, u3, u4]] w fun e w' => e = .returned (.bool false) ∧ Kept w w' := by
  have hk : Kept w ((w.alloc (.cells #[.int .i64 xi, .int .i64 xj, v1, .int .i64 xa, .int .i64 xt, .int .i64 xs, v2, v3, v4] 27)).alloc (.cells #[.int .i64 xi, .int .i64 xj, u1, .int .i64 xa, .int .i64 yt, .int .i64 ys, u2, u3, u4] 27)) := ((Below.refl _ _).alloc (Nat.le_refl _) _).alloc (by simp) _
  have HK := Lib.hid hk
  clear hk
  have hne' : (xt != yt) = true := by simpa using hne
  go_enter Try.func37, Try.ntmps37
  go_wp2_with fail
  go_ret
  exact ⟨rfl, HK.out⟩
set_option maxHeartbeats 4000000 in
theorem ref4_Same_4 (xi xj xa xt xs yi yj ya yt ys : Int) (v1 v2 v3 v4 u1 u2 u3 u4 : Value) (w : World) (hne : ¬ xs = ys) :
    Calls Try.prog 37 #[.agg #[.int .i64 xi, .int .i64 xj, v1, .int .i64 xa, .int .i64 xt, .int .i64 xs, v2, v3, v4], .agg #[.int .i64 xi, .int .i64 xj, u1, .int .i64 xa, .int .i64 xt, .int .i64 ys, u2, u3, u4]] w fun e w' => e = .returned (.bool false) ∧ Kept w w' := by
  have hk : Kept w ((w.alloc (.cells #[.int .i64 xi, .int .i64 xj, v1, .int .i64 xa, .int .i64 xt, .int .i64 xs, v2, v3, v4] 27)).alloc (.cells #[.int .i64 xi, .int .i64 xj, u1, .int .i64 xa, .int .i64 xt, .int .i64 ys, u2, u3, u4] 27)) := ((Below.refl _ _).alloc (Nat.le_refl _) _).alloc (by simp) _
  have HK := Lib.hid hk
  clear hk
  have hne' : (xs != ys) = true := by simpa using hne
  go_enter Try.func37, Try.ntmps37
  go_wp2_with fail
  go_ret
  exact ⟨rfl, HK.out⟩
/-- What Same says. -/
def SameB (p : Prop) (w : World) (e : Ending) (w' : World) : Prop := ∃ b, e = .returned (.bool b) ∧ (b = true ↔ p) ∧ Kept w w'
theorem SameB.no {p : Prop} {w : World} (h : ¬ p) {e : Ending} {w' : World} (k : e = .returned (.bool false) ∧ Kept w w') : SameB p w e w' := ⟨false, k.1, ⟨fun e => (by cases e), fun e => absurd e h⟩, k.2⟩
set_option maxHeartbeats 4000000 in
theorem ref4_Same_L0 (xi xj xa xt xs : Int) (np ni nf nm np' ni' nf' nm' k1 k2 k3 k4 l1 l2 l3 l4 : Nat) (a1 a2 a3 a4 c1 c2 c3 c4 : Option Addr) (w : World) (hne : ¬ np = np') :
    Calls Try.prog 37 #[.agg #[.int .i64 xi, .int .i64 xj, (.slice a1 np k1), .int .i64 xa, .int .i64 xt, .int .i64 xs, (.slice a2 ni k2), (.slice a3 nf k3), (.slice a4 nm k4)], .agg #[.int .i64 xi, .int .i64 xj, (.slice c1 np' l1), .int .i64 xa, .int .i64 xt, .int .i64 xs, (.slice c2 ni' l2), (.slice c3 nf' l3), (.slice c4 nm' l4)]] w fun e w' => e = .returned (.bool false) ∧ Kept w w' := by
  have hk : Kept w ((w.alloc (.cells #[.int .i64 xi, .int .i64 xj, (.slice a1 np k1), .int .i64 xa, .int .i64 xt, .int .i64 xs, (.slice a2 ni k2), (.slice a3 nf k3), (.slice a4 nm k4)] 27)).alloc (.cells #[.int .i64 xi, .int .i64 xj, (.slice c1 np' l1), .int .i64 xa, .int .i64 xt, .int .i64 xs, (.slice c2 ni' l2), (.slice c3 nf' l3), (.slice c4 nm' l4)] 27)) := ((Below.refl _ _).alloc (Nat.le_refl _) _).alloc (by simp) _
  have HK := Lib.hid hk
  clear hk
  have hne' : ((np : Int) != (np' : Int)) = true := by simp; omega
  clear hne
  go_enter Try.func37, Try.ntmps37
  go_wp2_with fail
  go_ret
  exact ⟨rfl, HK.out⟩
set_option maxHeartbeats 4000000 in
theorem ref4_Same_L1 (xi xj xa xt xs : Int) (np ni nf nm ni' nf' nm' k1 k2 k3 k4 l1 l2 l3 l4 : Nat) (a1 a2 a3 a4 c1 c2 c3 c4 : Option Addr) (w : World) (hne : ¬ ni = ni') :
    Calls Try.prog 37 #[.agg #[.int .i64 xi, .int .i64 xj, (.slice a1 np k1), .int .i64 xa, .int .i64 xt, .int .i64 xs, (.slice a2 ni k2), (.slice a3 nf k3), (.slice a4 nm k4)], .agg #[.int .i64 xi, .int .i64 xj, (.slice c1 np l1), .int .i64 xa, .int .i64 xt, .int .i64 xs, (.slice c2 ni' l2), (.slice c3 nf' l3), (.slice c4 nm' l4)]] w fun e w' => e = .returned (.bool false) ∧ Kept w w' := by
  have hk : Kept w ((w.alloc (.cells #[.int .i64 xi, .int .i64 xj, (.slice a1 np k1), .int .i64 xa, .int .i64 xt, .int .i64 xs, (.slice a2 ni k2), (.slice a3 nf k3), (.slice a4 nm k4)] 27)).alloc (.cells #[.int .i64 xi, .int .i64 xj, (.slice c1 np l1), .int .i64 xa, .int .i64 xt, .int .i64 xs, (.slice c2 ni' l2), (.slice c3 nf' l3), (.slice c4 nm' l4)] 27)) := ((Below.refl _ _).alloc (Nat.le_refl _) _).alloc (by simp) _
  have HK := Lib.hid hk
  clear hk
  have hne' : ((ni : Int) != (ni' : Int)) = true := by simp; omega
  clear hne
  go_enter Try.func37, Try.ntmps37
  go_wp2_with fail
  go_ret
  exact ⟨rfl, HK.out⟩
set_option maxHeartbeats 4000000 in
theorem ref4_Same_L2 (xi xj xa xt xs : Int) (np ni nf nm nf' nm' k1 k2 k3 k4 l1 l2 l3 l4 : Nat) (a1 a2 a3 a4 c1 c2 c3 c4 : Option Addr) (w : World) (hne : ¬ nf = nf') :
    Calls Try.prog 37 #[.agg #[.int .i64 xi, .int .i64 xj, (.slice a1 np k1), .int .i64 xa, .int .i64 xt, .int .i64 xs, (.slice a2 ni k2), (.slice a3 nf k3), (.slice a4 nm k4)], .agg #[.int .i64 xi, .int .i64 xj, (.slice c1 np l1), .int .i64 xa, .int .i64 xt, .int .i64 xs, (.slice c2 ni l2), (.slice c3 nf' l3), (.slice c4 nm' l4)]] w fun e w' => e = .returned (.bool false) ∧ Kept w w' := by
  have hk : Kept w ((w.alloc (.cells #[.int .i64 xi, .int .i64 xj, (.slice a1 np k1), .int .i64 xa, .int .i64 xt, .int .i64 xs, (.slice a2 ni k2), (.slice a3 nf k3), (.slice a4 nm k4)] 27)).alloc (.cells #[.int .i64 xi, .int .i64 xj, (.slice c1 np l1), .int .i64 xa, .int .i64 xt, .int .i64 xs, (.slice c2 ni l2), (.slice c3 nf' l3), (.slice c4 nm' l4)] 27)) := ((Below.refl _ _).alloc (Nat.le_refl _) _).alloc (by simp) _
  have HK := Lib.hid hk
  clear hk
  have hne' : ((nf : Int) != (nf' : Int)) = true := by simp; omega
  clear hne
  go_enter Try.func37, Try.ntmps37
  go_wp2_with fail
  go_ret
  exact ⟨rfl, HK.out⟩
set_option maxHeartbeats 4000000 in
theorem ref4_Same_L3 (xi xj xa xt xs : Int) (np ni nf nm nm' k1 k2 k3 k4 l1 l2 l3 l4 : Nat) (a1 a2 a3 a4 c1 c2 c3 c4 : Option Addr) (w : World) (hne : ¬ nm = nm') :
    Calls Try.prog 37 #[.agg #[.int .i64 xi, .int .i64 xj, (.slice a1 np k1), .int .i64 xa, .int .i64 xt, .int .i64 xs, (.slice a2 ni k2), (.slice a3 nf k3), (.slice a4 nm k4)], .agg #[.int .i64 xi, .int .i64 xj, (.slice c1 np l1), .int .i64 xa, .int .i64 xt, .int .i64 xs, (.slice c2 ni l2), (.slice c3 nf l3), (.slice c4 nm' l4)]] w fun e w' => e = .returned (.bool false) ∧ Kept w w' := by
  have hk : Kept w ((w.alloc (.cells #[.int .i64 xi, .int .i64 xj, (.slice a1 np k1), .int .i64 xa, .int .i64 xt, .int .i64 xs, (.slice a2 ni k2), (.slice a3 nf k3), (.slice a4 nm k4)] 27)).alloc (.cells #[.int .i64 xi, .int .i64 xj, (.slice c1 np l1), .int .i64 xa, .int .i64 xt, .int .i64 xs, (.slice c2 ni l2), (.slice c3 nf l3), (.slice c4 nm' l4)] 27)) := ((Below.refl _ _).alloc (Nat.le_refl _) _).alloc (by simp) _
  have HK := Lib.hid hk
  clear hk
  have hne' : ((nm : Int) != (nm' : Int)) = true := by simp; omega
  clear hne
  go_enter Try.func37, Try.ntmps37
  go_wp2_with fail
  go_ret
  exact ⟨rfl, HK.out⟩
set_option maxHeartbeats 16000000 in
theorem ref4_Same_9 (xi xj xa xt xs : Int) (xp yp : List ConstC) (xf yf : List Int) (xg yg : List FieldC) (xm ym : List (MethC × Value × Value)) (np ni nf nm k1 k2 k3 k4 l1 l2 l3 l4 : Nat) (a1 a2 a3 a4 c1 c2 c3 c4 : Option Addr) (w : World)
    (hp1 : Rd w 5 (.slice a1 np k1) np (xp.flatMap encC)) (hp2 : Rd w 5 (.slice c1 np l1) np (yp.flatMap encC)) (hi1 : Rd w 1 (.slice a2 ni k2) ni (xf.flatMap encI)) (hi2 : Rd w 1 (.slice c2 ni l2) ni (yf.flatMap encI))
    (hf1 : Rd w 4 (.slice a3 nf k3) nf (xg.flatMap encF)) (hf2 : Rd w 4 (.slice c3 nf l3) nf (yg.flatMap encF)) (hm1 : Rd w 8 (.slice a4 nm k4) nm (xm.flatMap encM)) (hm2 : Rd w 8 (.slice c4 nm l4) nm (ym.flatMap encM))
    (hr1 : ∀ x ∈ xm, MRd w x.1 x.2.1 x.2.2) (hr2 : ∀ x ∈ ym, MRd w x.1 x.2.1 x.2.2)
    (n1 : np = xp.length) (n2 : np = yp.length) (n3 : ni = xf.length) (n4 : ni = yf.length) (n5 : nf = xg.length) (n6 : nf = yg.length) (n7 : nm = xm.length) (n8 : nm = ym.length)
    (p : Prop) (hp : p ↔ xp = yp ∧ xf = yf ∧ xg = yg ∧ xm.map (fun x => x.1) = ym.map (fun x => x.1)) :
    Calls Try.prog 37 #[.agg #[.int .i64 xi, .int .i64 xj, (.slice a1 np k1), .int .i64 xa, .int .i64 xt, .int .i64 xs, (.slice a2 ni k2), (.slice a3 nf k3), (.slice a4 nm k4)], .agg #[.int .i64 xi, .int .i64 xj, (.slice c1 np l1), .int .i64 xa, .int .i64 xt, .int .i64 xs, (.slice c2 ni l2), (.slice c3 nf l3), (.slice c4 nm l4)]] w (SameB p w) := by
  have HP := Lib.hid hp
  have hk : Kept w ((w.alloc (.cells #[.int .i64 xi, .int .i64 xj, (.slice a1 np k1), .int .i64 xa, .int .i64 xt, .int .i64 xs, (.slice a2 ni k2), (.slice a3 nf k3), (.slice a4 nm k4)] 27)).alloc (.cells #[.int .i64 xi, .int .i64 xj, (.slice c1 np l1), .int .i64 xa, .int .i64 xt, .int .i64 xs, (.slice c2 ni l2), (.slice c3 nf l3), (.slice c4 nm l4)] 27)) := ((Below.refl _ _).alloc (Nat.le_refl _) _).alloc (by simp) _
  have HP1 := Lib.hid (hp1.kept hk)
  have HP2 := Lib.hid (hp2.kept hk)
  have HI1 := Lib.hid (hi1.kept hk)
  have HI2 := Lib.hid (hi2.kept hk)
  have HF1 := Lib.hid (hf1.kept hk)
  have HF2 := Lib.hid (hf2.kept hk)
  have HM1 := Lib.hid (hm1.kept hk)
  have HM2 := Lib.hid (hm2.kept hk)
  have HR1 := Lib.hid (fun x (hx : x ∈ xm) => (hr1 x hx).kept hk)
  have HR2 := Lib.hid (fun x (hx : x ∈ ym) => (hr2 x hx).kept hk)
  have HK := Lib.hid hk
  have HB1 := Lib.hid ((Blk.new w 27 #[.int .i64 xi, .int .i64 xj, (.slice a1 np k1), .int .i64 xa, .int .i64 xt, .int .i64 xs, (.slice a2 ni k2), (.slice a3 nf k3), (.slice a4 nm k4)]).alloc (.cells #[.int .i64 xi, .int .i64 xj, (.slice c1 np l1), .int .i64 xa, .int .i64 xt, .int .i64 xs, (.slice c2 ni l2), (.slice c3 nf l3), (.slice c4 nm l4)] 27))
  have hb2 : Blk ((w.alloc (.cells #[.int .i64 xi, .int .i64 xj, (.slice a1 np k1), .int .i64 xa, .int .i64 xt, .int .i64 xs, (.slice a2 ni k2), (.slice a3 nf k3), (.slice a4 nm k4)] 27)).alloc (.cells #[.int .i64 xi, .int .i64 xj, (.slice c1 np l1), .int .i64 xa, .int .i64 xt, .int .i64 xs, (.slice c2 ni l2), (.slice c3 nf l3), (.slice c4 nm l4)] 27)) (w.heap.size + 1) 27 #[.int .i64 xi, .int .i64 xj, (.slice c1 np l1), .int .i64 xa, .int .i64 xt, .int .i64 xs, (.slice c2 ni l2), (.slice c3 nf l3), (.slice c4 nm l4)] := (show w.heap.size + 1 = (w.alloc (.cells #[.int .i64 xi, .int .i64 xj, (.slice a1 np k1), .int .i64 xa, .int .i64 xt, .int .i64 xs, (.slice a2 ni k2), (.slice a3 nf k3), (.slice a4 nm k4)] 27)).heap.size by simp) ▸ Blk.new _ _ _
  have HB2 := Lib.hid hb2
  have e1 := hp1.2
  have N1 := Lib.hid n1
  have N2 := Lib.hid n2
  have N3 := Lib.hid n3
  have N4 := Lib.hid n4
  have N5 := Lib.hid n5
  have N6 := Lib.hid n6
  have N7 := Lib.hid n7
  have N8 := Lib.hid n8
  obtain ⟨bb, hbb⟩ : ∃ bb, bb = w.heap.size := ⟨_, rfl⟩
  have m1 : np ≤ k1 ∧ k1 ≤ 9223372036854775807 := by obtain ⟨_, _, _, h, h1, h2, _⟩ := hp1; cases h; exact ⟨h1, h2⟩
  have m2 : np ≤ l1 ∧ l1 ≤ 9223372036854775807 := by obtain ⟨_, _, _, h, h1, h2, _⟩ := hp2; cases h; exact ⟨h1, h2⟩
  have m3 : ni ≤ k2 ∧ k2 ≤ 9223372036854775807 := by obtain ⟨_, _, _, h, h1, h2, _⟩ := hi1; cases h; exact ⟨h1, h2⟩
  have m4 : ni ≤ l2 ∧ l2 ≤ 9223372036854775807 := by obtain ⟨_, _, _, h, h1, h2, _⟩ := hi2; cases h; exact ⟨h1, h2⟩
  have m5 : nf ≤ k3 ∧ k3 ≤ 9223372036854775807 := by obtain ⟨_, _, _, h, h1, h2, _⟩ := hf1; cases h; exact ⟨h1, h2⟩
  have m6 : nf ≤ l3 ∧ l3 ≤ 9223372036854775807 := by obtain ⟨_, _, _, h, h1, h2, _⟩ := hf2; cases h; exact ⟨h1, h2⟩
  have m7 : nm ≤ k4 ∧ k4 ≤ 9223372036854775807 := by obtain ⟨_, _, _, h, h1, h2, _⟩ := hm1; cases h; exact ⟨h1, h2⟩
  have m8 : nm ≤ l4 ∧ l4 ≤ 9223372036854775807 := by obtain ⟨_, _, _, h, h1, h2, _⟩ := hm2; cases h; exact ⟨h1, h2⟩
  clear hp hk hp1 hp2 hi1 hi2 hf1 hf2 hm1 hm2 hr1 hr2 hb2 n1 n2 n3 n4 n5 n6 n7 n8 e1
  go_enter Try.func37, Try.ntmps37
  go_upto_region 1 with fail
  generalize ((w.alloc (.cells #[.int .i64 xi, .int .i64 xj, (.slice a1 np k1), .int .i64 xa, .int .i64 xt, .int .i64 xs, (.slice a2 ni k2), (.slice a3 nf k3), (.slice a4 nm k4)] 27)).alloc (.cells #[.int .i64 xi, .int .i64 xj, (.slice c1 np l1), .int .i64 xa, .int .i64 xt, .int .i64 xs, (.slice c2 ni l2), (.slice c3 nf l3), (.slice c4 nm l4)] 27)) = W at *
  rw [← hbb] at HB1 HB2 ⊢
  have HBB := Lib.hid hbb
  clear hbb
  have p0 := HB1.out.cell 0
  have p1 := HB1.out.cell 1
  have p2 := HB1.out.cell 2
  have p3 := HB1.out.cell 3
  have p4 := HB1.out.cell 4
  have p5 := HB1.out.cell 5
  have p6 := HB1.out.cell 6
  have p7 := HB1.out.cell 7
  have p8 := HB1.out.cell 8
  have q0 := HB2.out.cell 0
  have q1 := HB2.out.cell 1
  have q2 := HB2.out.cell 2
  have q3 := HB2.out.cell 3
  have q4 := HB2.out.cell 4
  have q5 := HB2.out.cell 5
  have q6 := HB2.out.cell 6
  have q7 := HB2.out.cell 7
  have q8 := HB2.out.cell 8
  simp only [List.getElem?_toArray, List.getElem?_cons_succ, List.getElem?_cons_zero] at p0 p1 p2 p3 p4 p5 p6 p7 p8 q0 q1 q2 q3 q4 q5 q6 q7 q8
  go_wp2_with fail
  go_loopw [5] (fun s wr => ∃ i : Nat, i ≤ np ∧ s = .int .i64 i ∧ (∃ m, wr = W.drewN m) ∧ xp.take i = yp.take i) (fun s _ => np - (intOf s).toNat)
  case atStart => exact ⟨0, Nat.zero_le _, rfl, ⟨0, rfl⟩, rfl⟩
  case round =>
    obtain ⟨i, hi, rfl, ⟨mm, rfl⟩, he⟩ := hrel
    by_cases hlt : i < np
    · obtain ⟨x, hx⟩ : ∃ x, xp[i]? = some x := ⟨_, List.getElem?_eq_getElem (by have := N1.out; omega)⟩
      obtain ⟨y, hy⟩ : ∃ y, yp[i]? = some y := ⟨_, List.getElem?_eq_getElem (by have := N2.out; omega)⟩
      obtain ⟨b1, o1, d1, hv1, e0, e1, e2, e3, e4⟩ := const_cells N1.out HP1.out hx
      obtain ⟨b2, o2, d2, hv2, g0, g1, g2, g3, g4⟩ := const_cells N2.out HP2.out hy
      simp only [Value.slice.injEq] at hv1 hv2
      obtain ⟨rfl, -, rfl⟩ := hv1
      obtain ⟨rfl, -, rfl⟩ := hv2
      have hkI : (i : Int) < (np : Int) := by omega
      have h0I : (0 : Int) ≤ (i : Int) := by omega
      have HX := Lib.hid hx
      have HY := Lib.hid hy
      have HE := Lib.hid he
      clear hx hy he
      by_cases hxy : x = y
      · subst hxy
        go_wp2_with fail
        go_quiet (fail)
        go_wp2_with fail
        go_roundw
        case rel => exact ⟨i + 1, by omega, by go_num, ⟨_, rfl⟩, List.take_ext HX.out HY.out HE.out⟩
        case measure => simp [intOf]; omega
      · obtain ⟨x0, x1, x2, x3, x4⟩ := x
        obtain ⟨y0, y1, y2, y3, y4⟩ := y
        dsimp only at e0 e1 e2 e3 e4 g0 g1 g2 g3 g4
        have hcmp := const_neq hxy
        have HN := Lib.hid hxy
        clear hxy
        go_wp2_with fail
        go_quiet (fail)
        go_wp2_with fail
        go_ret
        refine ⟨false, rfl, ⟨fun e => (by cases e), fun e => absurd ?_ HN.out⟩, kept_drewN (kept_drewN HK.out _) _⟩
        have := HX.out
        rw [(HP.out.1 e).1, HY.out] at this
        exact (Option.some.inj this).symm
    · have EP := Lib.hid (List.ext_all N1.out.symm N2.out.symm (by rw [show i = np by omega] at he; exact he))
      clear he
      go_wp2_with fail
      go_loopw [6] (fun s wr => ∃ i : Nat, i ≤ ni ∧ s = .int .i64 i ∧ (∃ m, wr = W.drewN m) ∧ xf.take i = yf.take i) (fun s _ => ni - (intOf s).toNat)
      case atStart => exact ⟨0, Nat.zero_le _, rfl, ⟨_, rfl⟩, rfl⟩
      case round =>
        obtain ⟨i, hi, rfl, ⟨mm, rfl⟩, he⟩ := hrel
        by_cases hlt : i < ni
        · obtain ⟨x, hx⟩ : ∃ x, xf[i]? = some x := ⟨_, List.getElem?_eq_getElem (by have := N3.out; omega)⟩
          obtain ⟨y, hy⟩ : ∃ y, yf[i]? = some y := ⟨_, List.getElem?_eq_getElem (by have := N4.out; omega)⟩
          obtain ⟨b1, o1, d1, hv1, e0⟩ := iface_cells N3.out HI1.out hx
          obtain ⟨b2, o2, d2, hv2, g0⟩ := iface_cells N4.out HI2.out hy
          simp only [Value.slice.injEq] at hv1 hv2
          obtain ⟨rfl, -, rfl⟩ := hv1
          obtain ⟨rfl, -, rfl⟩ := hv2
          have hkI : (i : Int) < (ni : Int) := by omega
          have h0I : (0 : Int) ≤ (i : Int) := by omega
          have HX := Lib.hid hx
          have HY := Lib.hid hy
          have HE := Lib.hid he
          clear hx hy he
          by_cases hxy : x = y
          · subst hxy
            go_wp2_with fail
            go_quiet (fail)
            go_wp2_with fail
            go_roundw
            case rel => exact ⟨i + 1, by omega, by go_num, ⟨_, rfl⟩, List.take_ext HX.out HY.out HE.out⟩
            case measure => simp [intOf]; omega
          · have hcmp : (x != y) = true := by simpa using hxy
            have HN := Lib.hid hxy
            clear hxy
            go_wp2_with fail
            go_quiet (fail)
            go_wp2_with fail
            go_ret
            refine ⟨false, rfl, ⟨fun e => (by cases e), fun e => absurd ?_ HN.out⟩, kept_drewN (kept_drewN HK.out _) _⟩
            have := HX.out
            rw [(HP.out.1 e).2.1, HY.out] at this
            exact (Option.some.inj this).symm
        · have EI := Lib.hid (List.ext_all N3.out.symm N4.out.symm (by rw [show i = ni by omega] at he; exact he))
          clear he
          go_wp2_with fail
          go_loopw [7] (fun s wr => ∃ i : Nat, i ≤ nf ∧ s = .int .i64 i ∧ (∃ m, wr = W.drewN m) ∧ xg.take i = yg.take i) (fun s _ => nf - (intOf s).toNat)
          case atStart => exact ⟨0, Nat.zero_le _, rfl, ⟨_, rfl⟩, rfl⟩
          case round =>
            obtain ⟨i, hi, rfl, ⟨mm, rfl⟩, he⟩ := hrel
            by_cases hlt : i < nf
            · obtain ⟨x, hx⟩ : ∃ x, xg[i]? = some x := ⟨_, List.getElem?_eq_getElem (by have := N5.out; omega)⟩
              obtain ⟨y, hy⟩ : ∃ y, yg[i]? = some y := ⟨_, List.getElem?_eq_getElem (by have := N6.out; omega)⟩
              obtain ⟨b1, o1, d1, hv1, e0, e1, e2, e3⟩ := field_cells N5.out HF1.out hx
              obtain ⟨b2, o2, d2, hv2, g0, g1, g2, g3⟩ := field_cells N6.out HF2.out hy
              simp only [Value.slice.injEq] at hv1 hv2
              obtain ⟨rfl, -, rfl⟩ := hv1
              obtain ⟨rfl, -, rfl⟩ := hv2
              have hkI : (i : Int) < (nf : Int) := by omega
              have h0I : (0 : Int) ≤ (i : Int) := by omega
              have HX := Lib.hid hx
              have HY := Lib.hid hy
              have HE := Lib.hid he
              clear hx hy he
              by_cases hxy : x = y
              · subst hxy
                go_wp2_with fail
                go_quiet (fail)
                go_wp2_with fail
                go_roundw
                case rel => exact ⟨i + 1, by omega, by go_num, ⟨_, rfl⟩, List.take_ext HX.out HY.out HE.out⟩
                case measure => simp [intOf]; omega
              · obtain ⟨x0, x1, x2, x3⟩ := x
                obtain ⟨y0, y1, y2, y3⟩ := y
                dsimp only at e0 e1 e2 e3 g0 g1 g2 g3
                have hcmp := field_neq hxy
                have HN := Lib.hid hxy
                clear hxy
                go_wp2_with fail
                go_quiet (fail)
                go_wp2_with fail
                go_ret
                refine ⟨false, rfl, ⟨fun e => (by cases e), fun e => absurd ?_ HN.out⟩, kept_drewN (kept_drewN HK.out _) _⟩
                have := HX.out
                rw [(HP.out.1 e).2.2.1, HY.out] at this
                exact (Option.some.inj this).symm
            · have EF := Lib.hid (List.ext_all N5.out.symm N6.out.symm (by rw [show i = nf by omega] at he; exact he))
              clear he
              go_wp2_with fail
              have HKW := Lib.hid (kept_drewN (Below.refl W.heap.size W) _ : Kept W (W.drewN mm))
              generalize W.drewN mm = W4 at *
              go_loopw [8] (fun s wr => ∃ i : Nat, i ≤ nm ∧ s = .int .i64 i ∧ Kept W4 wr ∧ (xm.map fun x => x.1).take i = (ym.map fun x => x.1).take i) (fun s _ => nm - (intOf s).toNat)
              case atStart => exact ⟨0, Nat.zero_le _, rfl, Below.refl _ _, rfl⟩
              case round =>
                obtain ⟨i, hi, rfl, hkw, he⟩ := hrel
                have p8 := (HB1.out.kept (Kept.trans HKW.out hkw)).cell 8
                have q8 := (HB2.out.kept (Kept.trans HKW.out hkw)).cell 8
                simp only [List.getElem?_toArray, List.getElem?_cons_succ, List.getElem?_cons_zero] at p8 q8
                by_cases hlt : i < nm
                · obtain ⟨⟨m, vc, vt⟩, hx⟩ : ∃ x, xm[i]? = some x := ⟨_, List.getElem?_eq_getElem (by have := N7.out; omega)⟩
                  obtain ⟨⟨m', vc', vt'⟩, hy⟩ : ∃ y, ym[i]? = some y := ⟨_, List.getElem?_eq_getElem (by have := N8.out; omega)⟩
                  obtain ⟨b1, o1, d1, hv1, e0, e1, e2, e3, e4, e5, e6, e7⟩ := meth_cells N7.out (HM1.out.kept (Kept.trans HKW.out hkw)) hx
                  obtain ⟨b2, o2, d2, hv2, g0, g1, g2, g3, g4, g5, g6, g7⟩ := meth_cells N8.out (HM2.out.kept (Kept.trans HKW.out hkw)) hy
                  have HRD1 := Lib.hid ((HR1.out _ (List.mem_of_getElem? hx)).kept (Kept.trans HKW.out hkw))
                  have HRD2 := Lib.hid ((HR2.out _ (List.mem_of_getElem? hy)).kept (Kept.trans HKW.out hkw))
                  simp only [Value.slice.injEq] at hv1 hv2
                  obtain ⟨rfl, -, rfl⟩ := hv1
                  obtain ⟨rfl, -, rfl⟩ := hv2
                  dsimp only at e0 e1 e2 e3 e4 e5 e6 e7 g0 g1 g2 g3 g4 g5 g6 g7
                  have hkI : (i : Int) < (nm : Int) := by omega
                  have h0I : (0 : Int) ≤ (i : Int) := by omega
                  have HX := Lib.hid (show (xm.map fun x => x.1)[i]? = some m by rw [List.getElem?_map, hx]; rfl)
                  have HY := Lib.hid (show (ym.map fun x => x.1)[i]? = some m' by rw [List.getElem?_map, hy]; rfl)
                  have HE := Lib.hid he
                  have KW := Lib.hid (Kept.trans HKW.out hkw)
                  have KR := Lib.hid hkw
                  obtain ⟨qn, hqn⟩ : ∃ qn : Prop, qn = (m = m') := ⟨_, rfl⟩
                  have HQ := Lib.hid hqn
                  clear hx hy he hkw hqn
                  have KD := Lib.hid (kept_drewN (Below.refl wr.heap.size wr) 1 : Kept wr wr.drew)
                  go_upto_region 23 with fail
                  go_region_law (first
                    | (go_simp
                       go_at_call 76
                       refine (ref4_Method m m' vc vt vc' vt' wr.drew (HRD1.out.kept KD.out) (HRD2.out.kept KD.out)).mono ?_
                       rintro e x ⟨b, rfl, hb, hk⟩
                       have HBQ := Lib.hid hb
                       have KX := Lib.hid (Kept.trans KD.out hk)
                       clear hb hk)
                    | (go_simp
                       go_at_call 76
                       refine (ref4_Method m m' vc vt vc' vt' wr HRD1.out HRD2.out).mono ?_
                       rintro e x ⟨b, rfl, hb, hk⟩
                       have HBQ := Lib.hid hb
                       have KX := Lib.hid hk
                       clear hb hk))
                  all_goals
                    (have KW4 := Lib.hid (Kept.trans KR.out KX.out)
                     clear e0 e1 e2 e3 e4 e5 e6 e7 g0 g1 g2 g3 g4 g5 g6 g7 p8 q8
                     cases b with
                     | true =>
                       have hmm := HBQ.out.1 rfl
                       subst hmm
                       go_wp2_with fail
                       go_roundw
                       case rel => exact ⟨i + 1, by omega, by go_num, KW4.out, List.take_ext HX.out HY.out HE.out⟩
                       case measure => simp [intOf]; omega
                     | false =>
                       go_wp2_with fail
                       go_ret
                       refine ⟨false, rfl, ⟨fun e => (by cases e), fun e => ?_⟩, Kept.trans (Kept.trans HK.out HKW.out) KW4.out⟩
                       have h1 := HX.out
                       rw [(HP.out.1 e).2.2.2, HY.out] at h1
                       exact absurd (HBQ.out.2 (Option.some.inj h1).symm) (by decide))
                · have EM := Lib.hid (List.ext_all (l := xm.map fun x => x.1) (l' := ym.map fun x => x.1) (n := nm) (by rw [List.length_map]; exact N7.out.symm) (by rw [List.length_map]; exact N8.out.symm) (by rw [show i = nm by omega] at he; exact he))
                  have KR := Lib.hid hkw
                  clear he hkw
                  go_wp2_with fail
                  go_ret
                  exact ⟨true, rfl, ⟨fun _ => HP.out.2 ⟨EP.out, EI.out, EF.out, EM.out⟩, fun _ => rfl⟩, Kept.trans (Kept.trans HK.out HKW.out) KR.out⟩
theorem CRd.forms {w : World} {c : ClassC} {mv : List (MethC × Value × Value)} {vP vI vF vM : Value} (h : CRd w c mv vP vI vF vM) : ∃ a1 k1 a2 k2 a3 k3 a4 k4, vP = .slice a1 c.pool.length k1 ∧ vI = .slice a2 c.ifaces.length k2 ∧ vF = .slice a3 c.fields.length k3 ∧ vM = .slice a4 mv.length k4 := by
  obtain ⟨_, a1, k1, e1, _⟩ := h.p
  obtain ⟨_, a2, k2, e2, _⟩ := h.i
  obtain ⟨_, a3, k3, e3, _⟩ := h.f
  obtain ⟨_, a4, k4, e4, _⟩ := h.m
  exact ⟨a1, k1, a2, k2, a3, k3, a4, k4, e1, e2, e3, e4⟩
theorem ref4_Same (c c' : ClassC) (mv mv' : List (MethC × Value × Value)) (vP vI vF vM vP' vI' vF' vM' : Value) (w : World) (h1 : CRd w c mv vP vI vF vM) (h2 : CRd w c' mv' vP' vI' vF' vM') :
    Calls Try.prog 37 #[.agg (classV c vP vI vF vM).toArray, .agg (classV c' vP' vI' vF' vM').toArray] w (SameB (c = c') w) := by
  obtain ⟨a1, k1, a2, k2, a3, k3, a4, k4, rfl, rfl, rfl, rfl⟩ := h1.forms
  obtain ⟨c1, l1, c2, l2, c3, l3, c4, l4, rfl, rfl, rfl, rfl⟩ := h2.forms
  obtain ⟨xi, xj, xp, xa, xt, xs, xf, xg, xm⟩ := c
  obtain ⟨yi, yj, yp, ya, yt, ys, yf, yg, ym⟩ := c'
  obtain ⟨hp1, hi1, hf1, hm1, hr1, hs1⟩ := h1
  obtain ⟨hp2, hi2, hf2, hm2, hr2, hs2⟩ := h2
  dsimp only at *
  subst hs1
  subst hs2
  by_cases e0 : xi = yi
  rotate_left
  · exact (ref4_Same_0 xi xj xa xt xs yi yj ya yt ys _ _ _ _ _ _ _ _ w e0).mono fun e w' h => SameB.no (fun e => e0 (by injection e)) h
  subst e0
  by_cases e1 : xj = yj
  rotate_left
  · exact (ref4_Same_1 xi xj xa xt xs xi yj ya yt ys _ _ _ _ _ _ _ _ w e1).mono fun e w' h => SameB.no (fun e => e1 (by injection e)) h
  subst e1
  by_cases e2 : xa = ya
  rotate_left
  · exact (ref4_Same_2 xi xj xa xt xs xi xj ya yt ys _ _ _ _ _ _ _ _ w e2).mono fun e w' h => SameB.no (fun e => e2 (by injection e)) h
  subst e2
  by_cases e3 : xt = yt
  rotate_left
  · exact (ref4_Same_3 xi xj xa xt xs xi xj xa yt ys _ _ _ _ _ _ _ _ w e3).mono fun e w' h => SameB.no (fun e => e3 (by injection e)) h
  subst e3
  by_cases e4 : xs = ys
  rotate_left
  · exact (ref4_Same_4 xi xj xa xt xs xi xj xa xt ys _ _ _ _ _ _ _ _ w e4).mono fun e w' h => SameB.no (fun e => e4 (by injection e)) h
  subst e4
  by_cases f0 : xp.length = yp.length
  rotate_left
  · refine (ref4_Same_L0 xi xj xa xt xs xp.length xf.length xg.length mv.length (yp.length) (yf.length) (yg.length) (mv'.length) k1 k2 k3 k4 l1 l2 l3 l4 a1 a2 a3 a4 c1 c2 c3 c4 w f0).mono fun e w' h => SameB.no (fun e => f0 ?_) h
    have := congrArg (fun c => (ClassC.pool c).length) e
    simpa using this
  rw [← f0] at hp2 ⊢
  by_cases f1 : xf.length = yf.length
  rotate_left
  · refine (ref4_Same_L1 xi xj xa xt xs xp.length xf.length xg.length mv.length (yf.length) (yg.length) (mv'.length) k1 k2 k3 k4 l1 l2 l3 l4 a1 a2 a3 a4 c1 c2 c3 c4 w f1).mono fun e w' h => SameB.no (fun e => f1 ?_) h
    have := congrArg (fun c => (ClassC.ifaces c).length) e
    simpa using this
  rw [← f1] at hi2 ⊢
  by_cases f2 : xg.length = yg.length
  rotate_left
  · refine (ref4_Same_L2 xi xj xa xt xs xp.length xf.length xg.length mv.length (yg.length) (mv'.length) k1 k2 k3 k4 l1 l2 l3 l4 a1 a2 a3 a4 c1 c2 c3 c4 w f2).mono fun e w' h => SameB.no (fun e => f2 ?_) h
    have := congrArg (fun c => (ClassC.fields c).length) e
    simpa using this
  rw [← f2] at hf2 ⊢
  by_cases f3 : mv.length = mv'.length
  rotate_left
  · refine (ref4_Same_L3 xi xj xa xt xs xp.length xf.length xg.length mv.length (mv'.length) k1 k2 k3 k4 l1 l2 l3 l4 a1 a2 a3 a4 c1 c2 c3 c4 w f3).mono fun e w' h => SameB.no (fun e => f3 ?_) h
    have := congrArg (fun c => (ClassC.methods c).length) e
    simpa using this
  rw [← f3] at hm2 ⊢
  exact ref4_Same_9 xi xj xa xt xs xp yp xf yf xg yg mv mv' xp.length xf.length xg.length mv.length k1 k2 k3 k4 l1 l2 l3 l4 a1 a2 a3 a4 c1 c2 c3 c4 w hp1 hp2 hi1 hi2 hf1 hf2 hm1 hm2 hr1 hr2 rfl f0 rfl f1 rfl f2 rfl f3 _ (by simp)
end Go.Proofs.Ytcklmhbcjgiplaa
