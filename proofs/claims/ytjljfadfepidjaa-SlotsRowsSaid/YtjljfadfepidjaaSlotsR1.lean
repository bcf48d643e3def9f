/-
  Package slots by contract: fields, Layout, Fresh.
-/
import Derived.Test.YtjljfadfepidjaaSlots
import Derived.Test.YtjljfadfepidjaaKin2
import Derived.Test.YtjljfadfepidjaaKinB
namespace Go.Proofs.Ytjljfadfepidjaa
open Go.RowKit
set_option maxRecDepth 100000

/-- A slot: its class, its place, its descriptor. -/
abbrev SV := ByteArray × Nat × ByteArray
def encSl (x : SV) : List Value := [.string x.1, .int .i64 x.2.1]
def frV (x : SV) : List Value := encVal (zeroOf x.2.2)
/-- The fields of all the types of a name. -/
def flds (D : List TD) (s : ByteArray) : List MemberV := match atO D s with
  | some k => (D[k]?.map (·.fields)).getD []
  | none => []
theorem flds_at {D : List TD} {s : ByteArray} {k : Nat} {t : TD} (h : atO D s = some k) (ht : D[k]? = some t) : flds D s = t.fields := by simp [flds, h, ht]
/-- The instance fields of a class, from the k-th on. -/
def instF (c : ByteArray) : List MemberV → Nat → List SV
  | [], _ => []
  | m :: l, k => (if bits .and .i64 m.access 8 = 0 then [(c, k, m.desc)] else []) ++ instF c l (k + 1)
theorem instF_app (c : ByteArray) : ∀ (a b : List MemberV) (k : Nat), instF c (a ++ b) k = instF c a k ++ instF c b (k + a.length)
  | [], b, k => rfl
  | m :: a, b, k => by
    rw [List.cons_append, instF, instF, instF_app c a b (k + 1), List.append_assoc, List.length_cons, show k + 1 + a.length = k + (a.length + 1) by omega]
theorem instF_next {c : ByteArray} {l : List MemberV} {k : Nat} {m : MemberV} (h : l[k]? = some m) : instF c (l.take (k + 1)) 0 = instF c (l.take k) 0 ++ if bits .and .i64 m.access 8 = 0 then [(c, k, m.desc)] else [] := by
  have hk := (List.getElem?_eq_some_iff.1 h).1
  rw [List.take_add_one, h, instF_app]
  simp [instF, Nat.min_eq_left (Nat.le_of_lt hk)]
theorem instF_len (c : ByteArray) : ∀ (l : List MemberV) (k : Nat), (instF c l k).length ≤ l.length
  | [], _ => Nat.le_refl _
  | m :: l, k => by
    have := instF_len c l (k + 1)
    unfold instF
    split <;> simp <;> omega
def clsS (D : List TD) (c : ByteArray) : List SV := instF c (flds D c) 0
/-- The slots of a class's objects. -/
def slotL (D : List TD) (s : ByteArray) : List SV := (chainL D s).reverse.flatMap (clsS D)
theorem clsS_len {D : List TD} (h : ∀ t ∈ D, t.fields.length ≤ 3000) (c : ByteArray) : (clsS D c).length ≤ 3000 := by
  refine Nat.le_trans (instF_len c _ 0) ?_
  unfold flds
  cases ho : atO D c with
  | none => simp
  | some k =>
    obtain ⟨t, ht, _⟩ := atO_some ho
    simp only [ht, Option.map_some, Option.getD_some]
    exact h t (List.mem_of_getElem? ht)
theorem flat_le {α β : Type} {f : α → List β} {m : Nat} (h : ∀ x, (f x).length ≤ m) : ∀ l : List α, (l.flatMap f).length ≤ l.length * m
  | [] => by simp
  | x :: l => by
    have := flat_le h l
    have := h x
    simp only [List.flatMap_cons, List.length_append, List.length_cons, Nat.add_mul]
    omega
theorem slot_len {D : List TD} (h : ∀ t ∈ D, t.fields.length ≤ 3000) (hD : D.length ≤ 100) (s : ByteArray) : (slotL D s).length ≤ 300000 := by
  have h1 := flat_le (clsS_len h) (chainL D s).reverse
  have h2 := (chainL_nms D s).le
  rw [List.length_reverse] at h1
  unfold slotL
  have := Nat.mul_le_mul_right 3000 (Nat.le_trans h2 hD)
  omega
theorem flat_take {α β : Type} (f : α → List β) {l : List α} {k : Nat} {x : α} (h : l[k]? = some x) : (l.take (k + 1)).flatMap f = (l.take k).flatMap f ++ f x := by
  rw [List.take_add_one, h]
  simp
/-- What the calls of a closure keep: from what was told to what is told. -/
structure Keeps (W0 : World) (v : Value) (D : List TD) (I : World → List SV → Prop) : Prop where
  ty : TyR W0 v D
  k : ∀ w xs, I w xs → Kept W0 w
  m : ∀ w w' xs, I w xs → Kept w w' → I w' xs
/-- Rows of texts are as they were. -/
def StrK (w w' : World) : Prop := ∀ B v n ys, Row w B 9 1 v n ys → Row w' B 9 1 v n ys
theorem StrK.refl (w : World) : StrK w w := fun _ _ _ _ h => h
theorem StrK.trans {a b c : World} (h : StrK a b) (k : StrK b c) : StrK a c := fun _ _ _ _ r => k _ _ _ _ (h _ _ _ _ r)
theorem StrK.of_kept {a b : World} (h : Kept a b) : StrK a b := fun _ _ _ _ r => r.kept h
theorem StrK.alloc {a b : World} (h : StrK a b) (o : Obj) : StrK a (b.alloc o) := h.trans (StrK.of_kept ((Below.refl _ b).alloc (Nat.le_refl _) o))
theorem elem_slot : ElemTy Try.prog 28 33 (.agg #[.string ⟨#[]⟩, .int .i64 0]) 2 24 := ⟨Try.underlying28, by kernel_rfl, rfl, by decide⟩

set_option maxHeartbeats 4000000 in
theorem fields_Layout (D : List TD) (s : ByteArray) (v : Value) (g : Nat) (W0 : World) (I : World → List SV → Prop) (hI : Keeps W0 v D I) (hst : ∀ (w : World) (xs : List SV) (x : SV), I w xs → xs.length ≤ 300000 → Calls Try.prog 36 #[.agg #[.string x.1, .int .i64 x.2.1], .string x.2.2, .pointer (some ⟨g, 0, none⟩)] w fun e w' => e = .returned (.tuple #[]) ∧ I w' (xs ++ [x]) ∧ StrK w w')
    (hs : s.size ≤ maxLen) (hct : ∀ t ∈ D, t.fields.length ≤ 3000) (w : World) (hw : I w []) :
    Calls Try.prog 35 #[v, .string s, .func (.func 36) #[] #[.pointer (some ⟨g, 0, none⟩)]] w fun e w' => e = .returned (.tuple #[]) ∧ I w' (slotL D s) := by
  have HI := Lib.hid hI
  have HST := Lib.hid hst
  have HW := Lib.hid hw
  have HCT := Lib.hid hct
  obtain ⟨a, c, rfl, hc1, hc2⟩ := hI.ty.slice
  have hl := hI.ty.len
  have hcl := (chainL_nms D s).le
  obtain ⟨C, hC⟩ : ∃ C, C = chainL D s := ⟨_, rfl⟩
  obtain ⟨N, hN⟩ : ∃ N, N = C.length := ⟨_, rfl⟩
  have hNl : N ≤ 100 := by rw [hN, hC]; omega
  have HC := Lib.hid hC
  have HN := Lib.hid hN
  clear hI hst hw hct hC hN
  go_enter Try.func35, Try.ntmps35
  go_wp2_with fail
  refine (kin_Chain D s _ w (HI.out.ty.kept (HI.out.k _ _ HW.out)) hs).mono ?_
  rintro e w1 ⟨vc, rfl, hvc, k1⟩
  have hrd : Row w1 w.heap.size 9 1 vc N (C.flatMap encS) := by rw [HN.out, HC.out]; exact hvc
  have HV := Lib.hid hrd
  have HW1 := Lib.hid (HI.out.m _ _ _ HW.out k1)
  obtain ⟨ac, cc, rfl, hcc1, hcc2⟩ := hrd.form
  clear hvc k1 hrd
  go_wp2_with fail
  go_loopw [16] (fun s16 wr => ∃ k : Nat, k ≤ N ∧ s16 = .int .i64 k ∧ I wr ((C.reverse.take k).flatMap (clsS D)) ∧ StrK w1 wr) (fun s16 _ => N - (intOf s16).toNat)
  case atStart => exact ⟨0, by omega, rfl, HW1.out, StrK.refl _⟩
  case round =>
    obtain ⟨k, hk, rfl, hi, hK⟩ := hrel
    rename World => wr
    have HIW := Lib.hid hi
    have HK := Lib.hid hK
    have hacc : ((C.reverse.take k).flatMap (clsS D)).length ≤ k * 3000 := by
      have h1 := flat_le (clsS_len HCT.out) (C.reverse.take k)
      have h2 : (C.reverse.take k).length ≤ k := List.length_take_le _ _
      have := Nat.mul_le_mul_right 3000 h2
      omega
    clear hi hK
    by_cases hlt : k < N
    · obtain ⟨x, hx⟩ : ∃ x, C[N - 1 - k]? = some x := ⟨_, List.getElem?_eq_getElem (by have := HN.out; omega)⟩
      obtain ⟨xb, xo, xc, hv, x0⟩ := str_cell HN.out (HK.out _ _ _ _ HV.out).rd hx
      simp only [Value.slice.injEq] at hv
      obtain ⟨rfl, -, rfl⟩ := hv
      have hth : there D x := (chainL_nms D s).th x (by rw [← HC.out]; exact List.mem_of_getElem? hx)
      unfold there at hth
      obtain ⟨ka, hka⟩ := Option.isSome_iff_exists.1 hth
      obtain ⟨t, ht, -, hkl⟩ := atO_some hka
      have hnx : ((C.reverse.take (k + 1)).flatMap (clsS D)) = (C.reverse.take k).flatMap (clsS D) ++ clsS D x := flat_take _ (by rw [List.getElem?_reverse (by have := HN.out; omega), ← HN.out]; exact hx)
      have hcx : clsS D x = instF x t.fields 0 := by unfold clsS; rw [flds_at hka ht]
      rw [hcx] at hnx
      have HNX := Lib.hid hnx
      have hfl := HCT.out t (List.mem_of_getElem? ht)
      have CA := kin_At D x _ wr (HI.out.ty.kept (HI.out.k _ _ HIW.out))
      rw [atI_some hka] at CA
      have CA := Lib.hid CA
      obtain ⟨tb, tof, tc, iv, fv, mv, hv, -, -, -, -, x4, -, -, -, hfr, -⟩ := HI.out.ty.cells ht
      have x4 := Kept.cell (HI.out.k _ _ HIW.out) x4
      simp only [Value.slice.injEq] at hv
      obtain ⟨rfl, -, rfl⟩ := hv
      obtain ⟨M, hM⟩ : ∃ M, M = t.fields.length := ⟨_, rfl⟩
      rw [← hM] at hfr hfl
      have HM := Lib.hid hM
      have HFR := Lib.hid hfr
      obtain ⟨-, af, cf, rfl, hcf1, hcf2, -⟩ := hfr
      have hki : (ka : Int) < (D.length : Int) := by omega
      have hk0 : (0 : Int) ≤ (ka : Int) := by omega
      have hn1 : (N : Int) - 1 - (k : Int) = ((N - 1 - k : Nat) : Int) := by omega
      have hn2 : ((N - 1 - k : Nat) : Int) < (N : Int) := by omega
      have hn3 : (0 : Int) ≤ ((N - 1 - k : Nat) : Int) := by omega
      have hn4 : ((N : Int) - 1 - (k : Int)).toNat = N - 1 - k := by omega
      have acc0 : ∃ acc, acc = (C.reverse.take k).flatMap (clsS D) := ⟨_, rfl⟩
      obtain ⟨acc, hac⟩ := acc0
      rw [← hac] at hacc HIW HNX
      clear hx hth hka ht hkl hnx hcx hM hac
      go_wp2_with fail
      refine CA.out.mono ?_
      rintro e w2 ⟨rfl, rfl⟩
      clear CA
      go_wp2_with fail
      go_loopw [35] (fun s35 wi => ∃ j : Nat, j ≤ M ∧ s35 = .int .i64 j ∧ I wi (acc ++ instF x (t.fields.take j) 0) ∧ StrK wr wi) (fun s35 _ => M - (intOf s35).toNat)
      case atStart => exact ⟨0, by omega, rfl, by simpa [instF] using HIW.out, StrK.refl _⟩
      case round =>
        obtain ⟨j, hj, rfl, hi, hKi⟩ := hrel
        rename World => wi
        have HII := Lib.hid hi
        have HKI := Lib.hid hKi
        clear hi hKi
        by_cases hlj : j < M
        · obtain ⟨m, hm⟩ : ∃ m, t.fields[j]? = some m := ⟨_, List.getElem?_eq_getElem (by have := HM.out; omega)⟩
          obtain ⟨mb, mo, mc, hv, y0, y1, y2, y3, y4⟩ := mem_row HM.out (HFR.out.kept (HI.out.k _ _ HII.out)) hm
          simp only [Value.slice.injEq] at hv
          obtain ⟨rfl, -, rfl⟩ := hv
          have hnj := instF_next (c := x) hm
          have hal : (acc ++ instF x (t.fields.take j) 0).length ≤ 300000 := by
            have h1 := instF_len x (t.fields.take j) 0
            have h2 : (t.fields.take j).length ≤ j := List.length_take_le _ _
            rw [List.length_append]
            omega
          have IA := Lib.hid (HI.out.m _ _ _ HII.out ((Below.refl _ wi).alloc (Nat.le_refl _) (.cells #[.int .i64 m.access, .string m.name, .string m.desc, .bool m.has, .int .i64 m.value] 55)))
          have KA := Lib.hid (HKI.out.alloc (.cells #[.int .i64 m.access, .string m.name, .string m.desc, .bool m.has, .int .i64 m.value] 55))
          have HAL := Lib.hid hal
          by_cases h0 : bits .and .i64 m.access 8 = 0
          · rw [if_pos h0] at hnj
            have HNJ := Lib.hid hnj
            have CS := Lib.hid (HST.out _ _ (x, j, m.desc) IA.out HAL.out)
            clear hm hnj hal
            go_wp2_with fail
            refine CS.out.mono ?_
            rintro e w5 ⟨rfl, hi5, ht5⟩
            have H5 := Lib.hid hi5
            have T5 := Lib.hid (KA.out.trans ht5)
            clear CS hi5 ht5
            go_wp2_with fail
            go_roundw
            case rel => exact ⟨j + 1, by omega, by go_num, by rw [HNJ.out, ← List.append_assoc]; exact H5.out, T5.out⟩
            case measure => simp [intOf]; omega
          · rw [if_neg h0, List.append_nil] at hnj
            have HNJ := Lib.hid hnj
            clear hm hnj hal
            go_wp2_with fail
            go_roundw
            case rel => exact ⟨j + 1, by omega, by go_num, by rw [HNJ.out]; exact IA.out, KA.out⟩
            case measure => simp [intOf]; omega
        · have e1 : t.fields.take j = t.fields := List.take_of_length_le (by have := HM.out; omega)
          have hfin : I wi ((C.reverse.take (k + 1)).flatMap (clsS D)) := by rw [HNX.out, ← e1]; exact HII.out
          have HF := Lib.hid hfin
          have KF := Lib.hid (HK.out.trans HKI.out)
          clear e1 hfin
          go_wp2_with fail
          go_roundw
          case rel => exact ⟨k + 1, by omega, by go_num, HF.out, KF.out⟩
          case measure => simp [intOf]; omega
    · have hfin : I wr (slotL D s) := by
        have h1 := HIW.out
        rw [List.take_of_length_le (by rw [List.length_reverse]; have := HN.out; omega), HC.out] at h1
        exact h1
      have HF := Lib.hid hfin
      clear hfin
      go_wp2_with fail
      go_end0
      exact ⟨rfl, HF.out⟩

set_option maxHeartbeats 4000000 in
theorem fields_Fresh (D : List TD) (s : ByteArray) (v : Value) (g : Nat) (W0 : World) (I : World → List SV → Prop) (hI : Keeps W0 v D I) (hst : ∀ (w : World) (xs : List SV) (x : SV), I w xs → xs.length ≤ 300000 → Calls Try.prog 37 #[.agg #[.string x.1, .int .i64 x.2.1], .string x.2.2, .pointer (some ⟨g, 0, none⟩)] w fun e w' => e = .returned (.tuple #[]) ∧ I w' (xs ++ [x]) ∧ StrK w w')
    (hs : s.size ≤ maxLen) (hct : ∀ t ∈ D, t.fields.length ≤ 3000) (w : World) (hw : I w []) :
    Calls Try.prog 35 #[v, .string s, .func (.func 37) #[] #[.pointer (some ⟨g, 0, none⟩)]] w fun e w' => e = .returned (.tuple #[]) ∧ I w' (slotL D s) := by
  have HI := Lib.hid hI
  have HST := Lib.hid hst
  have HW := Lib.hid hw
  have HCT := Lib.hid hct
  obtain ⟨a, c, rfl, hc1, hc2⟩ := hI.ty.slice
  have hl := hI.ty.len
  have hcl := (chainL_nms D s).le
  obtain ⟨C, hC⟩ : ∃ C, C = chainL D s := ⟨_, rfl⟩
  obtain ⟨N, hN⟩ : ∃ N, N = C.length := ⟨_, rfl⟩
  have hNl : N ≤ 100 := by rw [hN, hC]; omega
  have HC := Lib.hid hC
  have HN := Lib.hid hN
  clear hI hst hw hct hC hN
  go_enter Try.func35, Try.ntmps35
  go_wp2_with fail
  refine (kin_Chain D s _ w (HI.out.ty.kept (HI.out.k _ _ HW.out)) hs).mono ?_
  rintro e w1 ⟨vc, rfl, hvc, k1⟩
  have hrd : Row w1 w.heap.size 9 1 vc N (C.flatMap encS) := by rw [HN.out, HC.out]; exact hvc
  have HV := Lib.hid hrd
  have HW1 := Lib.hid (HI.out.m _ _ _ HW.out k1)
  obtain ⟨ac, cc, rfl, hcc1, hcc2⟩ := hrd.form
  clear hvc k1 hrd
  go_wp2_with fail
  go_loopw [16] (fun s16 wr => ∃ k : Nat, k ≤ N ∧ s16 = .int .i64 k ∧ I wr ((C.reverse.take k).flatMap (clsS D)) ∧ StrK w1 wr) (fun s16 _ => N - (intOf s16).toNat)
  case atStart => exact ⟨0, by omega, rfl, HW1.out, StrK.refl _⟩
  case round =>
    obtain ⟨k, hk, rfl, hi, hK⟩ := hrel
    rename World => wr
    have HIW := Lib.hid hi
    have HK := Lib.hid hK
    have hacc : ((C.reverse.take k).flatMap (clsS D)).length ≤ k * 3000 := by
      have h1 := flat_le (clsS_len HCT.out) (C.reverse.take k)
      have h2 : (C.reverse.take k).length ≤ k := List.length_take_le _ _
      have := Nat.mul_le_mul_right 3000 h2
      omega
    clear hi hK
    by_cases hlt : k < N
    · obtain ⟨x, hx⟩ : ∃ x, C[N - 1 - k]? = some x := ⟨_, List.getElem?_eq_getElem (by have := HN.out; omega)⟩
      obtain ⟨xb, xo, xc, hv, x0⟩ := str_cell HN.out (HK.out _ _ _ _ HV.out).rd hx
      simp only [Value.slice.injEq] at hv
      obtain ⟨rfl, -, rfl⟩ := hv
      have hth : there D x := (chainL_nms D s).th x (by rw [← HC.out]; exact List.mem_of_getElem? hx)
      unfold there at hth
      obtain ⟨ka, hka⟩ := Option.isSome_iff_exists.1 hth
      obtain ⟨t, ht, -, hkl⟩ := atO_some hka
      have hnx : ((C.reverse.take (k + 1)).flatMap (clsS D)) = (C.reverse.take k).flatMap (clsS D) ++ clsS D x := flat_take _ (by rw [List.getElem?_reverse (by have := HN.out; omega), ← HN.out]; exact hx)
      have hcx : clsS D x = instF x t.fields 0 := by unfold clsS; rw [flds_at hka ht]
      rw [hcx] at hnx
      have HNX := Lib.hid hnx
      have hfl := HCT.out t (List.mem_of_getElem? ht)
      have CA := kin_At D x _ wr (HI.out.ty.kept (HI.out.k _ _ HIW.out))
      rw [atI_some hka] at CA
      have CA := Lib.hid CA
      obtain ⟨tb, tof, tc, iv, fv, mv, hv, -, -, -, -, x4, -, -, -, hfr, -⟩ := HI.out.ty.cells ht
      have x4 := Kept.cell (HI.out.k _ _ HIW.out) x4
      simp only [Value.slice.injEq] at hv
      obtain ⟨rfl, -, rfl⟩ := hv
      obtain ⟨M, hM⟩ : ∃ M, M = t.fields.length := ⟨_, rfl⟩
      rw [← hM] at hfr hfl
      have HM := Lib.hid hM
      have HFR := Lib.hid hfr
      obtain ⟨-, af, cf, rfl, hcf1, hcf2, -⟩ := hfr
      have hki : (ka : Int) < (D.length : Int) := by omega
      have hk0 : (0 : Int) ≤ (ka : Int) := by omega
      have hn1 : (N : Int) - 1 - (k : Int) = ((N - 1 - k : Nat) : Int) := by omega
      have hn2 : ((N - 1 - k : Nat) : Int) < (N : Int) := by omega
      have hn3 : (0 : Int) ≤ ((N - 1 - k : Nat) : Int) := by omega
      have hn4 : ((N : Int) - 1 - (k : Int)).toNat = N - 1 - k := by omega
      have acc0 : ∃ acc, acc = (C.reverse.take k).flatMap (clsS D) := ⟨_, rfl⟩
      obtain ⟨acc, hac⟩ := acc0
      rw [← hac] at hacc HIW HNX
      clear hx hth hka ht hkl hnx hcx hM hac
      go_wp2_with fail
      refine CA.out.mono ?_
      rintro e w2 ⟨rfl, rfl⟩
      clear CA
      go_wp2_with fail
      go_loopw [35] (fun s35 wi => ∃ j : Nat, j ≤ M ∧ s35 = .int .i64 j ∧ I wi (acc ++ instF x (t.fields.take j) 0) ∧ StrK wr wi) (fun s35 _ => M - (intOf s35).toNat)
      case atStart => exact ⟨0, by omega, rfl, by simpa [instF] using HIW.out, StrK.refl _⟩
      case round =>
        obtain ⟨j, hj, rfl, hi, hKi⟩ := hrel
        rename World => wi
        have HII := Lib.hid hi
        have HKI := Lib.hid hKi
        clear hi hKi
        by_cases hlj : j < M
        · obtain ⟨m, hm⟩ : ∃ m, t.fields[j]? = some m := ⟨_, List.getElem?_eq_getElem (by have := HM.out; omega)⟩
          obtain ⟨mb, mo, mc, hv, y0, y1, y2, y3, y4⟩ := mem_row HM.out (HFR.out.kept (HI.out.k _ _ HII.out)) hm
          simp only [Value.slice.injEq] at hv
          obtain ⟨rfl, -, rfl⟩ := hv
          have hnj := instF_next (c := x) hm
          have hal : (acc ++ instF x (t.fields.take j) 0).length ≤ 300000 := by
            have h1 := instF_len x (t.fields.take j) 0
            have h2 : (t.fields.take j).length ≤ j := List.length_take_le _ _
            rw [List.length_append]
            omega
          have IA := Lib.hid (HI.out.m _ _ _ HII.out ((Below.refl _ wi).alloc (Nat.le_refl _) (.cells #[.int .i64 m.access, .string m.name, .string m.desc, .bool m.has, .int .i64 m.value] 55)))
          have KA := Lib.hid (HKI.out.alloc (.cells #[.int .i64 m.access, .string m.name, .string m.desc, .bool m.has, .int .i64 m.value] 55))
          have HAL := Lib.hid hal
          by_cases h0 : bits .and .i64 m.access 8 = 0
          · rw [if_pos h0] at hnj
            have HNJ := Lib.hid hnj
            have CS := Lib.hid (HST.out _ _ (x, j, m.desc) IA.out HAL.out)
            clear hm hnj hal
            go_wp2_with fail
            refine CS.out.mono ?_
            rintro e w5 ⟨rfl, hi5, ht5⟩
            have H5 := Lib.hid hi5
            have T5 := Lib.hid (KA.out.trans ht5)
            clear CS hi5 ht5
            go_wp2_with fail
            go_roundw
            case rel => exact ⟨j + 1, by omega, by go_num, by rw [HNJ.out, ← List.append_assoc]; exact H5.out, T5.out⟩
            case measure => simp [intOf]; omega
          · rw [if_neg h0, List.append_nil] at hnj
            have HNJ := Lib.hid hnj
            clear hm hnj hal
            go_wp2_with fail
            go_roundw
            case rel => exact ⟨j + 1, by omega, by go_num, by rw [HNJ.out]; exact IA.out, KA.out⟩
            case measure => simp [intOf]; omega
        · have e1 : t.fields.take j = t.fields := List.take_of_length_le (by have := HM.out; omega)
          have hfin : I wi ((C.reverse.take (k + 1)).flatMap (clsS D)) := by rw [HNX.out, ← e1]; exact HII.out
          have HF := Lib.hid hfin
          have KF := Lib.hid (HK.out.trans HKI.out)
          clear e1 hfin
          go_wp2_with fail
          go_roundw
          case rel => exact ⟨k + 1, by omega, by go_num, HF.out, KF.out⟩
          case measure => simp [intOf]; omega
    · have hfin : I wr (slotL D s) := by
        have h1 := HIW.out
        rw [List.take_of_length_le (by rw [List.length_reverse]; have := HN.out; omega), HC.out] at h1
        exact h1
      have HF := Lib.hid hfin
      clear hfin
      go_wp2_with fail
      go_end0
      exact ⟨rfl, HF.out⟩
end Go.Proofs.Ytjljfadfepidjaa
