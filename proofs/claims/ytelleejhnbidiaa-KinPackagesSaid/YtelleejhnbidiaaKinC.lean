/-
  Package kin and the document by contract: Sees, Allows of both.
-/
import Derived.Test.YtelleejhnbidiaaKinB
namespace Go.Proofs.Ytelleejhnbidiaa
open Go.RowKit
set_option maxRecDepth 100000

def near (a b : ByteArray) : Bool := (pkgOf a).toList == (pkgOf b).toList
def seesB (D : List TD) (f t : ByteArray) : Bool := match atO D t with
  | some k => (!decide (bits .and .i64 ((D[k]?.map (·.access)).getD 0) 1 = 0)) || near f t
  | none => false
theorem seesB_none {D : List TD} {f t : ByteArray} (h : atO D t = none) : seesB D f t = false := by simp [seesB, h]
theorem seesB_some {D : List TD} {f t : ByteArray} {k : Nat} {x : TD} (h : atO D t = some k) (hx : D[k]? = some x) : seesB D f t = ((!decide (bits .and .i64 x.access 1 = 0)) || near f t) := by simp [seesB, h, hx]

set_option maxHeartbeats 1000000 in
theorem kin_Sees (D : List TD) (f s : ByteArray) (v : Value) (w : World) (h : TyR w v D) (hf : f.size ≤ maxLen) (hs : s.size ≤ maxLen) :
    Calls Try.prog 44 #[v, .string f, .string s] w fun e w' => e = .returned (.bool (seesB D f s)) ∧ w = w' := by
  have C0 := kin_At D s v w h
  have H := Lib.hid h
  have hl := h.len
  obtain ⟨av, cv, rfl, -, -⟩ := h.slice
  have C1 := Lib.hid (desc_Package f w hf)
  have C2 := Lib.hid (desc_Package s w hs)
  clear h
  cases hat : atO D s with
  | none =>
    rw [atI_none hat] at C0
    have HN := Lib.hid (seesB_none (f := f) hat)
    clear hat
    go_enter Try.func44, Try.ntmps44
    go_wp2_with fail
    refine C0.mono ?_
    rintro e w1 ⟨rfl, rfl⟩
    clear C0
    go_wp2_with fail
    go_ret
    exact ⟨ret_bool HN.out.symm, rfl⟩
  | some k =>
    rw [atI_some hat] at C0
    obtain ⟨t, ht, -, hkl⟩ := atO_some hat
    have HV := Lib.hid (seesB_some (f := f) hat ht)
    obtain ⟨tb, off, cc, iv, fv, mv, hv, -, -, x2, -⟩ := H.out.cells ht
    simp only [Value.slice.injEq] at hv
    obtain ⟨rfl, -, rfl⟩ := hv
    have hkI : (k : Int) < (D.length : Int) := by omega
    have h0I : (0 : Int) ≤ (k : Int) := by omega
    obtain ⟨q, hq⟩ : ∃ q, ((pkgOf f).toList == (pkgOf s).toList) = q := ⟨_, rfl⟩
    have HQ := Lib.hid (show near f s = q from hq)
    clear hat ht
    by_cases hb : bits .and .i64 t.access 1 = 0
    · have hv : seesB D f s = q := by rw [HV.out, HQ.out]; simp [hb]
      have HVV := Lib.hid hv
      clear hv
      go_enter Try.func44, Try.ntmps44
      go_wp2_with fail
      refine C0.mono ?_
      rintro e w1 ⟨rfl, rfl⟩
      clear C0
      go_wp2_with fail
      refine C1.out.mono ?_
      rintro e w1 ⟨rfl, rfl⟩
      go_wp2_with fail
      refine C2.out.mono ?_
      rintro e w1 ⟨rfl, rfl⟩
      go_wp2_with fail
      go_ret
      exact ⟨ret_bool HVV.out.symm, rfl⟩
    · have hv : seesB D f s = true := by rw [HV.out]; simp [hb]
      have HVV := Lib.hid hv
      clear hv hq
      go_enter Try.func44, Try.ntmps44
      go_wp2_with fail
      refine C0.mono ?_
      rintro e w1 ⟨rfl, rfl⟩
      clear C0
      go_wp2_with fail
      go_ret
      exact ⟨ret_bool HVV.out.symm, rfl⟩
set_option maxHeartbeats 1000000 in
theorem ref9_Sees (D : List TD) (f s : ByteArray) (v : Value) (w : World) (h : TyR w v D) (hf : f.size ≤ maxLen) (hs : s.size ≤ maxLen) :
    Calls Try.prog 45 #[v, .string f, .string s] w fun e w' => e = .returned (.bool (seesB D f s)) ∧ w = w' := by
  have C0 := ref9_At D s v w h
  have H := Lib.hid h
  have hl := h.len
  obtain ⟨av, cv, rfl, -, -⟩ := h.slice
  have C1 := Lib.hid (ref2_Package f w hf)
  have C2 := Lib.hid (ref2_Package s w hs)
  clear h
  cases hat : atO D s with
  | none =>
    rw [atI_none hat] at C0
    have HN := Lib.hid (seesB_none (f := f) hat)
    clear hat
    go_enter Try.func45, Try.ntmps45
    go_wp2_with fail
    refine C0.mono ?_
    rintro e w1 ⟨rfl, rfl⟩
    clear C0
    go_wp2_with fail
    go_ret
    exact ⟨ret_bool HN.out.symm, rfl⟩
  | some k =>
    rw [atI_some hat] at C0
    obtain ⟨t, ht, -, hkl⟩ := atO_some hat
    have HV := Lib.hid (seesB_some (f := f) hat ht)
    obtain ⟨tb, off, cc, iv, fv, mv, hv, -, -, x2, -⟩ := H.out.cells ht
    simp only [Value.slice.injEq] at hv
    obtain ⟨rfl, -, rfl⟩ := hv
    have hkI : (k : Int) < (D.length : Int) := by omega
    have h0I : (0 : Int) ≤ (k : Int) := by omega
    obtain ⟨q, hq⟩ : ∃ q, ((pkgOf f).toList == (pkgOf s).toList) = q := ⟨_, rfl⟩
    have HQ := Lib.hid (show near f s = q from hq)
    clear hat ht
    by_cases hb : bits .and .i64 t.access 1 = 0
    · have hv : seesB D f s = q := by rw [HV.out, HQ.out]; simp [hb]
      have HVV := Lib.hid hv
      clear hv
      go_enter Try.func45, Try.ntmps45
      go_wp2_with fail
      refine C0.mono ?_
      rintro e w1 ⟨rfl, rfl⟩
      clear C0
      go_wp2_with fail
      refine C1.out.mono ?_
      rintro e w1 ⟨rfl, rfl⟩
      go_wp2_with fail
      refine C2.out.mono ?_
      rintro e w1 ⟨rfl, rfl⟩
      go_wp2_with fail
      go_ret
      exact ⟨ret_bool HVV.out.symm, rfl⟩
    · have hv : seesB D f s = true := by rw [HV.out]; simp [hb]
      have HVV := Lib.hid hv
      clear hv hq
      go_enter Try.func45, Try.ntmps45
      go_wp2_with fail
      refine C0.mono ?_
      rintro e w1 ⟨rfl, rfl⟩
      clear C0
      go_wp2_with fail
      go_ret
      exact ⟨ret_bool HVV.out.symm, rfl⟩

def allowsB (D : List TD) (f o : ByteArray) (acc : Int) : Bool :=
  if bits .and .i64 acc 1 = 0 then (if bits .and .i64 acc 4 = 0 then (if bits .and .i64 acc 2 = 0 then near f o else f.toList == o.toList) else near f o || decide (subB D f o)) else true

set_option maxHeartbeats 2000000 in
theorem kin_Allows (D : List TD) (f o : ByteArray) (acc : Int) (v : Value) (w : World) (h : TyR w v D) (hf : f.size ≤ maxLen) (ho : o.size ≤ maxLen) :
    Calls Try.prog 46 #[v, .string f, .string o, .int .i64 acc] w fun e w' => e = .returned (.bool (allowsB D f o acc)) ∧ Kept w w' := by
  have H := Lib.hid h
  obtain ⟨av, cv, rfl, -, -⟩ := h.slice
  have C1 := Lib.hid (desc_Package f w hf)
  have C2 := Lib.hid (desc_Package o w ho)
  have C3 := kin_Sub D f o _ w h hf
  obtain ⟨q, hq⟩ : ∃ q, ((pkgOf f).toList == (pkgOf o).toList) = q := ⟨_, rfl⟩
  obtain ⟨p, hp⟩ : ∃ p, (f.toList == o.toList) = p := ⟨_, rfl⟩
  have HV : Hid (allowsB D f o acc = if bits .and .i64 acc 1 = 0 then (if bits .and .i64 acc 4 = 0 then (if bits .and .i64 acc 2 = 0 then q else p) else q || decide (subB D f o)) else true) := Lib.hid (by rw [allowsB, show near f o = q from hq, hp])
  generalize decide (subB D f o) = d at *
  have HC3 := Lib.hid C3
  clear h C3
  by_cases h1 : bits .and .i64 acc 1 = 0
  · by_cases h4 : bits .and .i64 acc 4 = 0
    · by_cases h2 : bits .and .i64 acc 2 = 0
      · have hv := HV.out
        rw [if_pos h1, if_pos h4, if_pos h2] at hv
        have HVV := Lib.hid hv
        clear hv
        go_enter Try.func46, Try.ntmps46
        go_wp2_with fail
        refine C1.out.mono ?_
        rintro e w1 ⟨rfl, rfl⟩
        go_wp2_with fail
        refine C2.out.mono ?_
        rintro e w1 ⟨rfl, rfl⟩
        go_wp2_with fail
        go_ret
        exact ⟨ret_bool HVV.out.symm, Below.refl _ _⟩
      · have hv := HV.out
        rw [if_pos h1, if_pos h4, if_neg h2] at hv
        have HVV := Lib.hid hv
        clear hv
        go_enter Try.func46, Try.ntmps46
        go_wp2_with fail
        refine C1.out.mono ?_
        rintro e w1 ⟨rfl, rfl⟩
        go_wp2_with fail
        refine C2.out.mono ?_
        rintro e w1 ⟨rfl, rfl⟩
        go_wp2_with fail
        go_ret
        exact ⟨ret_bool HVV.out.symm, Below.refl _ _⟩
    · have hv := HV.out
      rw [if_pos h1, if_neg h4] at hv
      have HVV := Lib.hid hv
      clear hv
      cases q
      · go_enter Try.func46, Try.ntmps46
        go_wp2_with fail
        refine C1.out.mono ?_
        rintro e w1 ⟨rfl, rfl⟩
        go_wp2_with fail
        refine C2.out.mono ?_
        rintro e w1 ⟨rfl, rfl⟩
        go_wp2_with fail
        refine HC3.out.mono ?_
        rintro e w1 ⟨rfl, k1⟩
        have K1 := Lib.hid k1
        clear k1
        go_wp2_with fail
        go_ret
        exact ⟨ret_bool (by rw [HVV.out]; rfl), K1.out⟩
      · go_enter Try.func46, Try.ntmps46
        go_wp2_with fail
        refine C1.out.mono ?_
        rintro e w1 ⟨rfl, rfl⟩
        go_wp2_with fail
        refine C2.out.mono ?_
        rintro e w1 ⟨rfl, rfl⟩
        go_wp2_with fail
        go_ret
        exact ⟨ret_bool (by rw [HVV.out]; rfl), Below.refl _ _⟩
  · have hv := HV.out
    rw [if_neg h1] at hv
    have HVV := Lib.hid hv
    clear hv
    go_enter Try.func46, Try.ntmps46
    go_wp2_with fail
    refine C1.out.mono ?_
    rintro e w1 ⟨rfl, rfl⟩
    go_wp2_with fail
    refine C2.out.mono ?_
    rintro e w1 ⟨rfl, rfl⟩
    go_wp2_with fail
    go_ret
    exact ⟨ret_bool HVV.out.symm, Below.refl _ _⟩

set_option maxHeartbeats 2000000 in
theorem ref9_Allows (D : List TD) (f o : ByteArray) (acc : Int) (v : Value) (w : World) (h : TyR w v D) (hf : f.size ≤ maxLen) (ho : o.size ≤ maxLen) :
    Calls Try.prog 47 #[v, .string f, .string o, .int .i64 acc] w fun e w' => e = .returned (.bool (allowsB D f o acc)) ∧ Kept w w' := by
  have H := Lib.hid h
  obtain ⟨av, cv, rfl, -, -⟩ := h.slice
  have C1 := Lib.hid (ref2_Package f w hf)
  have C2 := Lib.hid (ref2_Package o w ho)
  have C3 := ref9_Sub D f o _ w h hf
  obtain ⟨q, hq⟩ : ∃ q, ((pkgOf f).toList == (pkgOf o).toList) = q := ⟨_, rfl⟩
  obtain ⟨p, hp⟩ : ∃ p, (f.toList == o.toList) = p := ⟨_, rfl⟩
  have HV : Hid (allowsB D f o acc = if bits .and .i64 acc 1 = 0 then (if bits .and .i64 acc 4 = 0 then (if bits .and .i64 acc 2 = 0 then q else p) else q || decide (subB D f o)) else true) := Lib.hid (by rw [allowsB, show near f o = q from hq, hp])
  generalize decide (subB D f o) = d at *
  have HC3 := Lib.hid C3
  clear h C3
  by_cases h1 : bits .and .i64 acc 1 = 0
  · by_cases h4 : bits .and .i64 acc 4 = 0
    · by_cases h2 : bits .and .i64 acc 2 = 0
      · have hv := HV.out
        rw [if_pos h1, if_pos h4, if_pos h2] at hv
        have HVV := Lib.hid hv
        clear hv
        go_enter Try.func47, Try.ntmps47
        go_wp2_with fail
        refine C1.out.mono ?_
        rintro e w1 ⟨rfl, rfl⟩
        go_wp2_with fail
        refine C2.out.mono ?_
        rintro e w1 ⟨rfl, rfl⟩
        go_wp2_with fail
        go_ret
        exact ⟨ret_bool HVV.out.symm, Below.refl _ _⟩
      · have hv := HV.out
        rw [if_pos h1, if_pos h4, if_neg h2] at hv
        have HVV := Lib.hid hv
        clear hv
        go_enter Try.func47, Try.ntmps47
        go_wp2_with fail
        refine C1.out.mono ?_
        rintro e w1 ⟨rfl, rfl⟩
        go_wp2_with fail
        refine C2.out.mono ?_
        rintro e w1 ⟨rfl, rfl⟩
        go_wp2_with fail
        go_ret
        exact ⟨ret_bool HVV.out.symm, Below.refl _ _⟩
    · have hv := HV.out
      rw [if_pos h1, if_neg h4] at hv
      have HVV := Lib.hid hv
      clear hv
      cases q
      · go_enter Try.func47, Try.ntmps47
        go_wp2_with fail
        refine C1.out.mono ?_
        rintro e w1 ⟨rfl, rfl⟩
        go_wp2_with fail
        refine C2.out.mono ?_
        rintro e w1 ⟨rfl, rfl⟩
        go_wp2_with fail
        refine HC3.out.mono ?_
        rintro e w1 ⟨rfl, k1⟩
        have K1 := Lib.hid k1
        clear k1
        go_wp2_with fail
        go_ret
        exact ⟨ret_bool (by rw [HVV.out]; rfl), K1.out⟩
      · go_enter Try.func47, Try.ntmps47
        go_wp2_with fail
        refine C1.out.mono ?_
        rintro e w1 ⟨rfl, rfl⟩
        go_wp2_with fail
        refine C2.out.mono ?_
        rintro e w1 ⟨rfl, rfl⟩
        go_wp2_with fail
        refine HC3.out.mono ?_
        rintro e w1 ⟨rfl, k1⟩
        have K1 := Lib.hid k1
        clear k1
        go_wp2_with fail
        go_ret
        exact ⟨ret_bool (by rw [HVV.out]; rfl), K1.out⟩
  · have hv := HV.out
    rw [if_neg h1] at hv
    have HVV := Lib.hid hv
    clear hv
    go_enter Try.func47, Try.ntmps47
    go_wp2_with fail
    refine C1.out.mono ?_
    rintro e w1 ⟨rfl, rfl⟩
    go_wp2_with fail
    refine C2.out.mono ?_
    rintro e w1 ⟨rfl, rfl⟩
    go_wp2_with fail
    go_ret
    exact ⟨ret_bool HVV.out.symm, Below.refl _ _⟩
end Go.Proofs.Ytelleejhnbidiaa
