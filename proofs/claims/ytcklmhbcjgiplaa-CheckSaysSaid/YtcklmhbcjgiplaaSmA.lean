/-
  The document's answer for emit: when two methods, two classes are the same: Method.
-/
import Derived.Test.YtcklmhbcjgiplaaClassV
import Derived.BigQuiet
namespace Go.Proofs.Ytcklmhbcjgiplaa
set_option linter.unusedVariables false
set_option linter.unusedSimpArgs false
open Go.RowKit
set_option maxRecDepth 100000

/-- A method's rows, read. -/
structure MRd (w : World) (m : MethC) (vc vt : Value) : Prop where
  code : Rd w 1 vc m.code.length (m.code.map byteV)
  traps : Rd w 4 vt m.traps.length (m.traps.flatMap encT)
theorem MRd.kept {w w' : World} {m : MethC} {vc vt : Value} (h : MRd w m vc vt) (k : Kept w w') : MRd w' m vc vt := ⟨h.code.kept k, h.traps.kept k⟩
theorem trap_cell {w : World} {l : List TrapC} {v : Value} {n : Nat} (hn : n = l.length) (hr : Rd w 4 v n (l.flatMap encT)) {i : Nat} {t : TrapC} (hm : l[i]? = some t) :
    ∃ b off c, v = .slice (some ⟨b, off, none⟩) n c ∧ w.cell? ⟨b, off + i * 4, none⟩ = some (.int .i64 t.fr) ∧ w.cell? ⟨b, off + i * 4 + 1, none⟩ = some (.int .i64 t.to) ∧ w.cell? ⟨b, off + i * 4 + 2, none⟩ = some (.int .i64 t.at_) ∧ w.cell? ⟨b, off + i * 4 + 3, none⟩ = some (.int .i64 t.ty) := by
  have hl := (List.getElem?_eq_some_iff.1 hm).1
  rcases hr.parts with ⟨h0, _⟩ | ⟨b, off, c, rfl, h0, h1, h2, hc⟩
  · omega
  · have hg : ∀ f u, (encT t)[f]? = some u → f < 4 → w.cell? ⟨b, off + (i * 4 + f), none⟩ = some u := fun f u hu hf => hc _ _ (by rw [flat_get encT 4 (fun _ => rfl) l i f t hm hf]; exact hu)
    exact ⟨b, off, c, rfl, hg 0 _ rfl (by omega), hg 1 _ rfl (by omega), hg 2 _ rfl (by omega), hg 3 _ rfl (by omega)⟩
theorem List.ext_all {α : Type} {l l' : List α} {n : Nat} (h : l.length = n) (h' : l'.length = n) (he : l.take n = l'.take n) : l = l' := by
  rw [List.take_of_length_le (by omega), List.take_of_length_le (by omega)] at he
  exact he
theorem List.take_ext {α : Type} {l l' : List α} {k : Nat} {x : α} (h : l[k]? = some x) (h' : l'[k]? = some x) (he : l.take k = l'.take k) : l.take (k + 1) = l'.take (k + 1) := by
  rw [List.take_add_one, List.take_add_one, h, h', he]
theorem trap_neq {x0 x1 x2 x3 y0 y1 y2 y3 : Int} (h : ¬ (⟨x0, x1, x2, x3⟩ : TrapC) = ⟨y0, y1, y2, y3⟩) (W : World) : (binOp .neq 59 (.agg #[.int .i64 x0, .int .i64 x1, .int .i64 x2, .int .i64 x3]) (.agg #[.int .i64 y0, .int .i64 y1, .int .i64 y2, .int .i64 y3])).run Try.prog W = .ok (.bool true) W := by
  by_cases e0 : x0 = y0
  · by_cases e1 : x1 = y1
    · by_cases e2 : x2 = y2
      · by_cases e3 : x3 = y3
        · subst e0; subst e1; subst e2; subst e3; exact absurd rfl h
        · have b3 : (x3 == y3) = false := by simpa using e3
          subst e0; subst e1; subst e2
          clear h e3
          go_simp
      · have b2 : (x2 == y2) = false := by simpa using e2
        subst e0; subst e1
        clear h e2
        go_simp
    · have b1 : (x1 == y1) = false := by simpa using e1
      subst e0
      clear h e1
      go_simp
  · have b0 : (x0 == y0) = false := by simpa using e0
    clear h e0
    go_simp
/-- What Method says. -/
def MethB (p : Prop) (w : World) (e : Ending) (w' : World) : Prop := ∃ b, e = .returned (.bool b) ∧ (b = true ↔ p) ∧ Kept w w'
def MethS (m m' : MethC) (w : World) (e : Ending) (w' : World) : Prop := ∃ b, e = .returned (.bool b) ∧ (b = true ↔ m = m') ∧ Kept w w'
set_option maxHeartbeats 4000000 in
theorem ref4_Method_0 (xa xn xd xs xl ya yn yd ys yl : Int) (xh yh : Bool) (v1 v2 v3 v4 : Value) (w : World) (hne : ¬ xa = ya) :
    Calls Try.prog 76 #[.agg #[.int .i64 xa, .int .i64 xn, .int .i64 xd, .bool xh, .int .i64 xs, .int .i64 xl, v1, v2], .agg #[.int .i64 ya, .int .i64 yn, .int .i64 yd, .bool yh, .int .i64 ys, .int .i64 yl, v3, v4]] w fun e w' => e = .returned (.bool false) ∧ Kept w w' := by
  have hk : Kept w ((w.alloc (.cells #[.int .i64 xa, .int .i64 xn, .int .i64 xd, .bool xh, .int .i64 xs, .int .i64 xl, v1, v2] 52)).alloc (.cells #[.int .i64 ya, .int .i64 yn, .int .i64 yd, .bool yh, .int .i64 ys, .int .i64 yl, v3, v4] 52)) := ((Below.refl _ _).alloc (Nat.le_refl _) _).alloc (by simp) _
  have HK := Lib.hid hk
  clear hk
  have hne' : (xa != ya) = true := by simpa using hne
  go_enter Try.func76, Try.ntmps76
  go_wp2_with fail
  go_ret
  exact ⟨rfl, HK.out⟩
set_option maxHeartbeats 4000000 in
theorem ref4_Method_1 (xa xn xd xs xl ya yn yd ys yl : Int) (xh yh : Bool) (v1 v2 v3 v4 : Value) (w : World) (hne : ¬ xn = yn) :
    Calls Try.prog 76 #[.agg #[.int .i64 xa, .int .i64 xn, .int .i64 xd, .bool xh, .int .i64 xs, .int .i64 xl, v1, v2], .agg #[.int .i64 xa, .int .i64 yn, .int .i64 yd, .bool yh, .int .i64 ys, .int .i64 yl, v3, v4]] w fun e w' => e = .returned (.bool false) ∧ Kept w w' := by
  have hk : Kept w ((w.alloc (.cells #[.int .i64 xa, .int .i64 xn, .int .i64 xd, .bool xh, .int .i64 xs, .int .i64 xl, v1, v2] 52)).alloc (.cells #[.int .i64 xa, .int .i64 yn, .int .i64 yd, .bool yh, .int .i64 ys, .int .i64 yl, v3, v4] 52)) := ((Below.refl _ _).alloc (Nat.le_refl _) _).alloc (by simp) _
  have HK := Lib.hid hk
  clear hk
  have hne' : (xn != yn) = true := by simpa using hne
  go_enter Try.func76, Try.ntmps76
  go_wp2_with fail
  go_ret
  exact ⟨rfl, HK.out⟩
set_option maxHeartbeats 4000000 in
theorem ref4_Method_2 (xa xn xd xs xl ya yn yd ys yl : Int) (xh yh : Bool) (v1 v2 v3 v4 : Value) (w : World) (hne : ¬ xd = yd) :
    Calls Try.prog 76 #[.agg #[.int .i64 xa, .int .i64 xn, .int .i64 xd, .bool xh, .int .i64 xs, .int .i64 xl, v1, v2], .agg #[.int .i64 xa, .int .i64 xn, .int .i64 yd, .bool yh, .int .i64 ys, .int .i64 yl, v3, v4]] w fun e w' => e = .returned (.bool false) ∧ Kept w w' := by
  have hk : Kept w ((w.alloc (.cells #[.int .i64 xa, .int .i64 xn, .int .i64 xd, .bool xh, .int .i64 xs, .int .i64 xl, v1, v2] 52)).alloc (.cells #[.int .i64 xa, .int .i64 xn, .int .i64 yd, .bool yh, .int .i64 ys, .int .i64 yl, v3, v4] 52)) := ((Below.refl _ _).alloc (Nat.le_refl _) _).alloc (by simp) _
  have HK := Lib.hid hk
  clear hk
  have hne' : (xd != yd) = true := by simpa using hne
  go_enter Try.func76, Try.ntmps76
  go_wp2_with fail
  go_ret
  exact ⟨rfl, HK.out⟩
set_option maxHeartbeats 4000000 in
theorem ref4_Method_3 (xa xn xd xs xl ya yn yd ys yl : Int) (xh yh : Bool) (v1 v2 v3 v4 : Value) (w : World) (hne : ¬ xh = yh) :
    Calls Try.prog 76 #[.agg #[.int .i64 xa, .int .i64 xn, .int .i64 xd, .bool xh, .int .i64 xs, .int .i64 xl, v1, v2], .agg #[.int .i64 xa, .int .i64 xn, .int .i64 xd, .bool yh, .int .i64 ys, .int .i64 yl, v3, v4]] w fun e w' => e = .returned (.bool false) ∧ Kept w w' := by
  have hk : Kept w ((w.alloc (.cells #[.int .i64 xa, .int .i64 xn, .int .i64 xd, .bool xh, .int .i64 xs, .int .i64 xl, v1, v2] 52)).alloc (.cells #[.int .i64 xa, .int .i64 xn, .int .i64 xd, .bool yh, .int .i64 ys, .int .i64 yl, v3, v4] 52)) := ((Below.refl _ _).alloc (Nat.le_refl _) _).alloc (by simp) _
  have HK := Lib.hid hk
  clear hk
  have hne' : (xh != yh) = true := by simpa using hne
  go_enter Try.func76, Try.ntmps76
  go_wp2_with fail
  go_ret
  exact ⟨rfl, HK.out⟩
set_option maxHeartbeats 4000000 in
theorem ref4_Method_4 (xa xn xd xs xl ya yn yd ys yl : Int) (xh yh : Bool) (v1 v2 v3 v4 : Value) (w : World) (hne : ¬ xs = ys) :
    Calls Try.prog 76 #[.agg #[.int .i64 xa, .int .i64 xn, .int .i64 xd, .bool xh, .int .i64 xs, .int .i64 xl, v1, v2], .agg #[.int .i64 xa, .int .i64 xn, .int .i64 xd, .bool xh, .int .i64 ys, .int .i64 yl, v3, v4]] w fun e w' => e = .returned (.bool false) ∧ Kept w w' := by
  have hk : Kept w ((w.alloc (.cells #[.int .i64 xa, .int .i64 xn, .int .i64 xd, .bool xh, .int .i64 xs, .int .i64 xl, v1, v2] 52)).alloc (.cells #[.int .i64 xa, .int .i64 xn, .int .i64 xd, .bool xh, .int .i64 ys, .int .i64 yl, v3, v4] 52)) := ((Below.refl _ _).alloc (Nat.le_refl _) _).alloc (by simp) _
  have HK := Lib.hid hk
  clear hk
  have hne' : (xs != ys) = true := by simpa using hne
  go_enter Try.func76, Try.ntmps76
  go_wp2_with fail
  go_ret
  exact ⟨rfl, HK.out⟩
set_option maxHeartbeats 4000000 in
theorem ref4_Method_5 (xa xn xd xs xl ya yn yd ys yl : Int) (xh yh : Bool) (v1 v2 v3 v4 : Value) (w : World) (hne : ¬ xl = yl) :
    Calls Try.prog 76 #[.agg #[.int .i64 xa, .int .i64 xn, .int .i64 xd, .bool xh, .int .i64 xs, .int .i64 xl, v1, v2], .agg #[.int .i64 xa, .int .i64 xn, .int .i64 xd, .bool xh, .int .i64 xs, .int .i64 yl, v3, v4]] w fun e w' => e = .returned (.bool false) ∧ Kept w w' := by
  have hk : Kept w ((w.alloc (.cells #[.int .i64 xa, .int .i64 xn, .int .i64 xd, .bool xh, .int .i64 xs, .int .i64 xl, v1, v2] 52)).alloc (.cells #[.int .i64 xa, .int .i64 xn, .int .i64 xd, .bool xh, .int .i64 xs, .int .i64 yl, v3, v4] 52)) := ((Below.refl _ _).alloc (Nat.le_refl _) _).alloc (by simp) _
  have HK := Lib.hid hk
  clear hk
  have hne' : (xl != yl) = true := by simpa using hne
  go_enter Try.func76, Try.ntmps76
  go_wp2_with fail
  go_ret
  exact ⟨rfl, HK.out⟩
set_option maxHeartbeats 8000000 in
theorem ref4_Method_7 (xa xn xd xs xl : Int) (xh : Bool) (xc yc : List UInt8) (xt yt : List TrapC) (v1 v2 v3 v4 : Value) (w : World) (h1 : MRd w ⟨xa, xn, xd, xh, xs, xl, xc, xt⟩ v1 v2) (h2 : MRd w ⟨xa, xn, xd, xh, xs, xl, yc, yt⟩ v3 v4) (p : Prop) (hp : p ↔ xc = yc ∧ xt = yt) :
    Calls Try.prog 76 #[.agg #[.int .i64 xa, .int .i64 xn, .int .i64 xd, .bool xh, .int .i64 xs, .int .i64 xl, v1, v2], .agg #[.int .i64 xa, .int .i64 xn, .int .i64 xd, .bool xh, .int .i64 xs, .int .i64 xl, v3, v4]] w (MethB p w) := by
  have HP := Lib.hid hp
  clear hp
  have hk : Kept w ((w.alloc (.cells #[.int .i64 xa, .int .i64 xn, .int .i64 xd, .bool xh, .int .i64 xs, .int .i64 xl, v1, v2] 52)).alloc (.cells #[.int .i64 xa, .int .i64 xn, .int .i64 xd, .bool xh, .int .i64 xs, .int .i64 xl, v3, v4] 52)) := ((Below.refl _ _).alloc (Nat.le_refl _) _).alloc (by simp) _
  obtain ⟨hc1, ht1⟩ := h1
  obtain ⟨hc2, ht2⟩ := h2
  dsimp only at hc1 ht1 hc2 ht2
  have C1 := Lib.hid (fun W (hW : Kept w W) => conv_bytes (hc1.kept hW))
  have C3 := Lib.hid (fun W (hW : Kept w W) => conv_bytes (hc2.kept hW))
  have HT1 := Lib.hid (ht1.kept hk)
  have HT2 := Lib.hid (ht2.kept hk)
  have HK := Lib.hid hk
  have HB1 := Lib.hid ((Blk.new w 52 #[.int .i64 xa, .int .i64 xn, .int .i64 xd, .bool xh, .int .i64 xs, .int .i64 xl, v1, v2]).alloc (.cells #[.int .i64 xa, .int .i64 xn, .int .i64 xd, .bool xh, .int .i64 xs, .int .i64 xl, v3, v4] 52))
  have hb2 : Blk ((w.alloc (.cells #[.int .i64 xa, .int .i64 xn, .int .i64 xd, .bool xh, .int .i64 xs, .int .i64 xl, v1, v2] 52)).alloc (.cells #[.int .i64 xa, .int .i64 xn, .int .i64 xd, .bool xh, .int .i64 xs, .int .i64 xl, v3, v4] 52)) (w.heap.size + 1) 52 #[.int .i64 xa, .int .i64 xn, .int .i64 xd, .bool xh, .int .i64 xs, .int .i64 xl, v3, v4] := (show w.heap.size + 1 = (w.alloc (.cells #[.int .i64 xa, .int .i64 xn, .int .i64 xd, .bool xh, .int .i64 xs, .int .i64 xl, v1, v2] 52)).heap.size by simp) ▸ Blk.new _ _ _
  have HB2 := Lib.hid hb2
  obtain ⟨n, hn⟩ : ∃ n, n = xt.length := ⟨_, rfl⟩
  obtain ⟨n', hn'⟩ : ∃ n, n = yt.length := ⟨_, rfl⟩
  rw [← hn] at HT1 ht1
  rw [← hn'] at HT2 ht2
  obtain ⟨_, a2, k2, rfl, hk2, hk2', _⟩ := ht1
  obtain ⟨_, a4, k4, rfl, hk4, hk4', _⟩ := ht2
  have N1 := Lib.hid hn
  have N2 := Lib.hid hn'
  clear hc1 hc2 hk hb2 hn hn'
  go_enter Try.func76, Try.ntmps76
  go_upto_region 1 with fail
  generalize ((w.alloc (.cells #[.int .i64 xa, .int .i64 xn, .int .i64 xd, .bool xh, .int .i64 xs, .int .i64 xl, v1, (.slice a2 n k2)] 52)).alloc (.cells #[.int .i64 xa, .int .i64 xn, .int .i64 xd, .bool xh, .int .i64 xs, .int .i64 xl, v3, (.slice a4 n' k4)] 52)) = W at *
  have p0 := HB1.out.cell 0
  have p1 := HB1.out.cell 1
  have p2 := HB1.out.cell 2
  have p3 := HB1.out.cell 3
  have p4 := HB1.out.cell 4
  have p5 := HB1.out.cell 5
  have p6 := HB1.out.cell 6
  have p7 := HB1.out.cell 7
  simp only [List.getElem?_toArray, List.getElem?_cons_succ, List.getElem?_cons_zero] at p0 p1 p2 p3 p4 p5 p6 p7
  have q0 := HB2.out.cell 0
  have q1 := HB2.out.cell 1
  have q2 := HB2.out.cell 2
  have q3 := HB2.out.cell 3
  have q4 := HB2.out.cell 4
  have q5 := HB2.out.cell 5
  have q6 := HB2.out.cell 6
  have q7 := HB2.out.cell 7
  simp only [List.getElem?_toArray, List.getElem?_cons_succ, List.getElem?_cons_zero] at q0 q1 q2 q3 q4 q5 q6 q7
  have c1 : (convert 49 9 v1).run Try.prog W = .ok (.string ⟨xc.toArray⟩) W := C1.out W HK.out
  have c3 : (convert 49 9 v3).run Try.prog W = .ok (.string ⟨yc.toArray⟩) W := C3.out W HK.out
  clear C1 C3
  by_cases hcd : xc = yc
  rotate_left
  · have hs : ((⟨xc.toArray⟩ : ByteArray).toList != (⟨yc.toArray⟩ : ByteArray).toList) = true := by
      rw [ByteArray.toList_eq, ByteArray.toList_eq]
      simpa using hcd
    have HN := Lib.hid hcd
    clear hcd
    go_wp2_with fail
    go_ret
    exact ⟨false, rfl, ⟨fun e => (by cases e), fun e => absurd (HP.out.1 e).1 HN.out⟩, HK.out⟩
  subst hcd
  have hs : ((⟨xc.toArray⟩ : ByteArray).toList != (⟨xc.toArray⟩ : ByteArray).toList) = false := by simp
  by_cases htd : n = n'
  rotate_left
  · have hs2 : ((n : Int) != (n' : Int)) = true := by simp; omega
    have HN := Lib.hid htd
    clear htd
    go_wp2_with fail
    go_ret
    refine ⟨false, rfl, ⟨fun e => (by cases e), fun e => absurd ?_ HN.out⟩, HK.out⟩
    rw [N1.out, N2.out, (HP.out.1 e).2]
  subst htd
  go_wp2_with fail
  go_loopw [5] (fun s5 wr => ∃ i : Nat, i ≤ n ∧ s5 = .int .i64 i ∧ (∃ m, wr = W.drewN m) ∧ xt.take i = yt.take i) (fun s5 _ => n - (intOf s5).toNat)
  case atStart => exact ⟨0, by omega, rfl, ⟨0, rfl⟩, rfl⟩
  case round =>
    obtain ⟨i, hi, rfl, ⟨mm, rfl⟩, he⟩ := hrel
    by_cases hlt : i < n
    · obtain ⟨x, hx⟩ : ∃ x, xt[i]? = some x := ⟨_, List.getElem?_eq_getElem (by have := N1.out; omega)⟩
      obtain ⟨y, hy⟩ : ∃ y, yt[i]? = some y := ⟨_, List.getElem?_eq_getElem (by have := N2.out; omega)⟩
      obtain ⟨b1, o1, d1, hv1, e0, e1, e2, e3⟩ := trap_cell N1.out HT1.out hx
      obtain ⟨b2, o2, d2, hv2, g0, g1, g2, g3⟩ := trap_cell N2.out HT2.out hy
      simp only [Value.slice.injEq] at hv1 hv2
      obtain ⟨rfl, -, rfl⟩ := hv1
      obtain ⟨rfl, -, rfl⟩ := hv2
      have hkI : (i : Int) < (n : Int) := by omega
      have h0I : (0 : Int) ≤ (i : Int) := by omega
      have HX := Lib.hid hx
      have HY := Lib.hid hy
      have HE := Lib.hid he
      clear hx hy he
      by_cases hxy : x = y
      · subst hxy
        go_wp2_with fail
        go_quiet (fail)
        go_wp2_with fail
        go_roundw
        case rel => exact ⟨i + 1, by omega, by go_num, ⟨_, rfl⟩, List.take_ext HX.out HY.out HE.out⟩
        case measure => simp [intOf]; omega
      · obtain ⟨x0, x1, x2, x3⟩ := x
        obtain ⟨y0, y1, y2, y3⟩ := y
        dsimp only at e0 e1 e2 e3 g0 g1 g2 g3
        have hcmp := trap_neq hxy
        have HN := Lib.hid hxy
        clear hxy
        go_wp2_with fail
        go_quiet (fail)
        go_wp2_with fail
        go_ret
        refine ⟨false, rfl, ⟨fun e => (by cases e), fun e => absurd ?_ HN.out⟩, kept_drewN (kept_drewN HK.out _) _⟩
        have := HX.out
        rw [(HP.out.1 e).2, HY.out] at this
        exact (Option.some.inj this).symm
    · have HE := Lib.hid (List.ext_all N1.out.symm N2.out.symm (by rw [show i = n by omega] at he; exact he))
      clear he
      go_wp2_with fail
      go_ret
      exact ⟨true, rfl, ⟨fun _ => HP.out.2 (by first | exact ⟨trivial, HE.out⟩ | exact ⟨rfl, HE.out⟩), fun _ => rfl⟩, kept_drewN HK.out _⟩
theorem MethB.no {m m' : MethC} {w : World} (h : ¬ m = m') {e : Ending} {w' : World} (k : e = .returned (.bool false) ∧ Kept w w') : MethB (m = m') w e w' := ⟨false, k.1, ⟨fun e => (by cases e), fun e => absurd e h⟩, k.2⟩
theorem ref4_Method (m m' : MethC) (vc vt vc' vt' : Value) (w : World) (h1 : MRd w m vc vt) (h2 : MRd w m' vc' vt') :
    Calls Try.prog 76 #[.agg (methV m vc vt).toArray, .agg (methV m' vc' vt').toArray] w (MethB (m = m') w) := by
  obtain ⟨xa, xn, xd, xh, xs, xl, xc, xt⟩ := m
  obtain ⟨ya, yn, yd, yh, ys, yl, yc, yt⟩ := m'
  by_cases e0 : xa = ya
  rotate_left
  · exact (ref4_Method_0 xa xn xd xs xl ya yn yd ys yl xh yh vc vt vc' vt' w e0).mono fun e w' h => MethB.no (fun e => e0 (by injection e)) h
  subst e0
  by_cases e1 : xn = yn
  rotate_left
  · exact (ref4_Method_1 xa xn xd xs xl xa yn yd ys yl xh yh vc vt vc' vt' w e1).mono fun e w' h => MethB.no (fun e => e1 (by injection e)) h
  subst e1
  by_cases e2 : xd = yd
  rotate_left
  · exact (ref4_Method_2 xa xn xd xs xl xa xn yd ys yl xh yh vc vt vc' vt' w e2).mono fun e w' h => MethB.no (fun e => e2 (by injection e)) h
  subst e2
  by_cases e3 : xh = yh
  rotate_left
  · exact (ref4_Method_3 xa xn xd xs xl xa xn xd ys yl xh yh vc vt vc' vt' w e3).mono fun e w' h => MethB.no (fun e => e3 (by injection e)) h
  subst e3
  by_cases e4 : xs = ys
  rotate_left
  · exact (ref4_Method_4 xa xn xd xs xl xa xn xd ys yl xh xh vc vt vc' vt' w e4).mono fun e w' h => MethB.no (fun e => e4 (by injection e)) h
  subst e4
  by_cases e5 : xl = yl
  rotate_left
  · exact (ref4_Method_5 xa xn xd xs xl xa xn xd xs yl xh xh vc vt vc' vt' w e5).mono fun e w' h => MethB.no (fun e => e5 (by injection e)) h
  subst e5
  exact ref4_Method_7 xa xn xd xs xl xh xc yc xt yt vc vt vc' vt' w h1 h2 _ (by simp)
end Go.Proofs.Ytcklmhbcjgiplaa
