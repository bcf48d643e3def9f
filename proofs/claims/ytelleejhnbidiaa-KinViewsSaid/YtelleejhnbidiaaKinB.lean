/-
  Package kin and the document by contract: the document's Sub; Defaults, Sees, Allows of both.
-/
import Derived.Test.YtelleejhnbidiaaSub
import Derived.Test.YtelleejhnbidiaaRef9b
import Derived.Test.YtelleejhnbidiaaPkg
namespace Go.Proofs.Ytelleejhnbidiaa
open Go.RowKit
set_option maxRecDepth 100000

theorem RowS.has {B : Nat} {l : List ByteArray} {w : World} {v : Value} (h : RowS B l w v) : Rd w 1 v l.length (l.flatMap encS) := Row.rd h

theorem ref9_Sub (D : List TD) (a b : ByteArray) (v : Value) (w : World) (h : TyR w v D) (hs : a.size ≤ maxLen) :
    Calls Try.prog 41 #[v, .string a, .string b] w fun e w' => e = .returned (.bool (decide (subB D a b))) ∧ Kept w w' := by
  have C0 := ref9_At D a v w h
  have H := Lib.hid h
  have hl := h.len
  obtain ⟨av, cv, rfl, -, -⟩ := h.slice
  clear h
  cases hat : atO D a with
  | none =>
    rw [atI_none hat] at C0
    have HN := Lib.hid (show decide (subB D a b) = false from decide_eq_false (subB_no (by unfold there; rw [hat]; simp)))
    clear hat
    go_enter Try.func41, Try.ntmps41
    go_wp2_with fail
    refine C0.mono ?_
    rintro e w1 ⟨rfl, rfl⟩
    clear C0
    go_wp2_with fail
    go_ret
    exact ⟨ret_bool HN.out.symm, Below.refl _ _⟩
  | some k =>
    rw [atI_some hat] at C0
    clear hat
    have C1 := Lib.hid (ref9_Chain D a _ w H.out hs)
    go_enter Try.func41, Try.ntmps41
    go_wp2_with fail
    refine C0.mono ?_
    rintro e w1 ⟨rfl, rfl⟩
    clear C0
    go_wp2_with fail
    refine C1.out.mono ?_
    rintro e w2 ⟨v2, rfl, hr, k2⟩
    have HR := Lib.hid hr.has
    have K2 := Lib.hid k2
    clear hr k2 C1
    go_wp2_with fail
    refine (ref9_Has (chainL D a) b v2 _ w2 rfl HR.out (by have := (chainL_nms D a).le; omega)).mono ?_
    rintro e w3 ⟨rfl, rfl⟩
    go_wp2_with fail
    refine (ref9_All D a _ w2 (H.out.kept K2.out) hs).mono ?_
    rintro e w3 ⟨v3, rfl, hr3, k3⟩
    have HR3 := Lib.hid hr3.has
    have K3 := Lib.hid (Kept.trans K2.out k3)
    clear hr3 k3
    go_wp2_with fail
    refine (ref9_Has (allL D a) b v3 _ w3 rfl HR3.out (by have := (allL_nms D a).le; omega)).mono ?_
    rintro e w4 ⟨rfl, rfl⟩
    have hv : decide (subB D a b) = (decide (b ∈ chainL D a) || decide (b ∈ allL D a)) := by
      by_cases q1 : b ∈ chainL D a <;> by_cases q2 : b ∈ allL D a <;> simp only [subB, q1, q2] <;> decide
    have HV := Lib.hid hv
    clear hv
    generalize decide (b ∈ chainL D a) = d1 at *
    generalize decide (b ∈ allL D a) = d2 at *
    cases d1
    all_goals
      go_wp2_with fail
      go_ret
      exact ⟨ret_bool (by rw [HV.out]; rfl), K3.out⟩

/-- Has a type a method that is neither abstract nor static? -/
def dfl (m : MemberV) : Bool := decide (bits .and .i64 m.access 1032 = 0)
def dflL (D : List TD) (s : ByteArray) : Bool := match atO D s with
  | some k => ((D[k]?).map fun t => t.methods.any dfl).getD false
  | none => false
theorem dflL_at {D : List TD} {s : ByteArray} {k : Nat} {t : TD} (h : atO D s = some k) (ht : D[k]? = some t) : dflL D s = t.methods.any dfl := by simp [dflL, h, ht]

theorem mem_row {w : World} {l : List MemberV} {v : Value} {n : Nat} (hn : n = l.length) (hr : Rd w 5 v n (l.flatMap encMemberV)) {i : Nat} {m : MemberV} (hm : l[i]? = some m) :
    ∃ b off c, v = .slice (some ⟨b, off, none⟩) n c ∧ w.cell? ⟨b, off + i * 5, none⟩ = some (.int .i64 m.access) ∧ w.cell? ⟨b, off + i * 5 + 1, none⟩ = some (.string m.name) ∧ w.cell? ⟨b, off + i * 5 + 2, none⟩ = some (.string m.desc) ∧ w.cell? ⟨b, off + i * 5 + 3, none⟩ = some (.bool m.has) ∧ w.cell? ⟨b, off + i * 5 + 4, none⟩ = some (.int .i64 m.value) := by
  have hl := (List.getElem?_eq_some_iff.1 hm).1
  rcases hr.parts with ⟨h0, _⟩ | ⟨b, off, c, rfl, h0, h1, h2, hc⟩
  · omega
  · have hg : ∀ f u, (encMemberV m)[f]? = some u → f < 5 → w.cell? ⟨b, off + (i * 5 + f), none⟩ = some u := fun f u hu hf => hc _ _ (by rw [flat_get encMemberV 5 (fun _ => rfl) l i f m hm hf]; exact hu)
    exact ⟨b, off, c, rfl, hg 0 _ rfl (by omega), hg 1 _ rfl (by omega), hg 2 _ rfl (by omega), hg 3 _ rfl (by omega), hg 4 _ rfl (by omega)⟩

set_option maxHeartbeats 1000000 in
theorem kin_Defaults (D : List TD) (s : ByteArray) (v : Value) (w : World) (h : TyR w v D) :
    Calls Try.prog 42 #[v, .string s] w fun e w' => e = .returned (.bool (dflL D s)) ∧ Kept w w' := by
  have C0 := kin_At D s v w h
  have H := Lib.hid h
  have hl := h.len
  obtain ⟨av, cv, rfl, -, -⟩ := h.slice
  clear h
  cases hat : atO D s with
  | none =>
    rw [atI_none hat] at C0
    have HN := Lib.hid (show dflL D s = false by unfold dflL; rw [hat])
    clear hat
    go_enter Try.func42, Try.ntmps42
    go_wp2_with fail
    refine C0.mono ?_
    rintro e w1 ⟨rfl, rfl⟩
    clear C0
    go_wp2_with fail
    go_ret
    exact ⟨ret_bool HN.out.symm, Below.refl _ _⟩
  | some k =>
    rw [atI_some hat] at C0
    obtain ⟨t, ht, -, hkl⟩ := atO_some hat
    have HV := Lib.hid (dflL_at hat ht)
    obtain ⟨tb, off, cc, iv, fv, mv, hv, -, -, -, -, -, x5, -, -, -, -, hrm, hml, -⟩ := H.out.cells ht
    simp only [Value.slice.injEq] at hv
    obtain ⟨rfl, -, rfl⟩ := hv
    obtain ⟨n, hn⟩ : ∃ n, n = t.methods.length := ⟨_, rfl⟩
    rw [← hn] at hrm hml
    have HN := Lib.hid hn
    have HRM := Lib.hid hrm
    obtain ⟨_, am, cm, rfl, hcm, hcm2, _⟩ := hrm
    have hkI : (k : Int) < (D.length : Int) := by omega
    have h0I : (0 : Int) ≤ (k : Int) := by omega
    clear hat ht hn
    go_enter Try.func42, Try.ntmps42
    go_wp2_with fail
    refine C0.mono ?_
    rintro e w1 ⟨rfl, rfl⟩
    clear C0
    go_wp2_with fail
    go_loopw [19] (fun s19 wr => ∃ i : Nat, i ≤ n ∧ s19 = .int .i64 i ∧ (∀ m ∈ t.methods.take i, dfl m = false) ∧ Kept w wr) (fun s19 _ => n - (intOf s19).toNat)
    case atStart => exact ⟨0, by omega, rfl, by simp, Below.refl _ _⟩
    case round =>
      obtain ⟨i, hi, rfl, hno, hK⟩ := hrel
      have HNO := Lib.hid hno
      have HK := Lib.hid hK
      clear hno hK x5
      by_cases hlt : i < n
      · obtain ⟨m, hm⟩ : ∃ m, t.methods[i]? = some m := ⟨_, List.getElem?_eq_getElem (by have := HN.out; omega)⟩
        obtain ⟨mb, mo, mc, hv, m0, m1, m2, m3, m4⟩ := mem_row HN.out (HRM.out.kept HK.out) hm
        simp only [Value.slice.injEq] at hv
        obtain ⟨rfl, -, rfl⟩ := hv
        have HM := Lib.hid hm
        clear hm
        by_cases hd : bits .and .i64 m.access 1032 = 0
        · have hv : dflL D s = true := by
            rw [HV.out, List.any_eq_true]
            exact ⟨m, List.mem_of_getElem? HM.out, by simp [dfl, hd]⟩
          have HVV := Lib.hid hv
          clear hv
          go_wp2_with fail
          go_ret
          exact ⟨ret_bool HVV.out.symm, HK.out.alloc HK.out.size _⟩
        · have hdm : dfl m = false := by simp [dfl, hd]
          have HDM := Lib.hid hdm
          clear hdm
          go_wp2_with fail
          go_roundw
          case rel =>
            refine ⟨i + 1, by omega, by go_num, fun z hz => ?_, HK.out.alloc HK.out.size _⟩
            rw [List.take_add_one, HM.out] at hz
            rcases List.mem_append.1 hz with hz | hz
            · exact HNO.out z hz
            · obtain rfl : z = m := by simpa using hz
              exact HDM.out
          case measure => simp [intOf]; omega
      · obtain rfl : i = n := by omega
        have hv : dflL D s = false := by
          rw [HV.out, List.any_eq_false]
          intro m hm
          rw [HNO.out m (by rw [HN.out, List.take_length]; exact hm)]
          decide
        have HVV := Lib.hid hv
        clear hv
        go_wp2_with fail
        go_ret
        exact ⟨ret_bool HVV.out.symm, HK.out⟩

set_option maxHeartbeats 1000000 in
theorem ref9_Defaults (D : List TD) (s : ByteArray) (v : Value) (w : World) (h : TyR w v D) :
    Calls Try.prog 43 #[v, .string s] w fun e w' => e = .returned (.bool (dflL D s)) ∧ w = w' := by
  have C0 := ref9_At D s v w h
  have H := Lib.hid h
  have hl := h.len
  obtain ⟨av, cv, rfl, -, -⟩ := h.slice
  clear h
  cases hat : atO D s with
  | none =>
    rw [atI_none hat] at C0
    have HN := Lib.hid (show dflL D s = false by unfold dflL; rw [hat])
    clear hat
    go_enter Try.func43, Try.ntmps43
    go_wp2_with fail
    refine C0.mono ?_
    rintro e w1 ⟨rfl, rfl⟩
    clear C0
    go_wp2_with fail
    go_ret
    exact ⟨ret_bool HN.out.symm, rfl⟩
  | some k =>
    rw [atI_some hat] at C0
    obtain ⟨t, ht, -, hkl⟩ := atO_some hat
    have HV := Lib.hid (dflL_at hat ht)
    obtain ⟨tb, off, cc, iv, fv, mv, hv, -, -, -, -, -, x5, -, -, -, -, hrm, hml, -⟩ := H.out.cells ht
    simp only [Value.slice.injEq] at hv
    obtain ⟨rfl, -, rfl⟩ := hv
    obtain ⟨n, hn⟩ : ∃ n, n = t.methods.length := ⟨_, rfl⟩
    rw [← hn] at hrm hml
    have HN := Lib.hid hn
    have HRM := Lib.hid hrm
    obtain ⟨_, am, cm, rfl, hcm, hcm2, _⟩ := hrm
    have hkI : (k : Int) < (D.length : Int) := by omega
    have h0I : (0 : Int) ≤ (k : Int) := by omega
    clear hat ht hn
    go_enter Try.func43, Try.ntmps43
    go_wp2_with fail
    refine C0.mono ?_
    rintro e w1 ⟨rfl, rfl⟩
    clear C0
    go_wp2_with fail
    go_loop [6] (fun s6 => ∃ i : Nat, i ≤ n ∧ s6 = .int .i64 i ∧ (∀ m ∈ t.methods.take i, dfl m = false)) (fun s6 => n - (intOf s6).toNat)
    case atStart => exact ⟨0, by omega, rfl, by simp⟩
    case round =>
      obtain ⟨i, hi, rfl, hno⟩ := hrel
      have HNO := Lib.hid hno
      clear hno
      by_cases hlt : i < n
      · obtain ⟨m, hm⟩ : ∃ m, t.methods[i]? = some m := ⟨_, List.getElem?_eq_getElem (by have := HN.out; omega)⟩
        obtain ⟨mb, mo, mc, hv, m0, -, -, -, -⟩ := mem_row HN.out HRM.out hm
        simp only [Value.slice.injEq] at hv
        obtain ⟨rfl, -, rfl⟩ := hv
        have HM := Lib.hid hm
        clear hm
        by_cases hd : bits .and .i64 m.access 1032 = 0
        · have hv : dflL D s = true := by
            rw [HV.out, List.any_eq_true]
            exact ⟨m, List.mem_of_getElem? HM.out, by simp [dfl, hd]⟩
          have HVV := Lib.hid hv
          clear hv
          go_wp2_with fail
          go_ret
          exact ⟨ret_bool HVV.out.symm, rfl⟩
        · have hdm : dfl m = false := by simp [dfl, hd]
          have HDM := Lib.hid hdm
          clear hdm
          go_wp2_with fail
          go_round
          case rel =>
            refine ⟨i + 1, by omega, by go_num, fun z hz => ?_⟩
            rw [List.take_add_one, HM.out] at hz
            rcases List.mem_append.1 hz with hz | hz
            · exact HNO.out z hz
            · obtain rfl : z = m := by simpa using hz
              exact HDM.out
          case measure => simp [intOf]; omega
      · obtain rfl : i = n := by omega
        have hv : dflL D s = false := by
          rw [HV.out, List.any_eq_false]
          intro m hm
          rw [HNO.out m (by rw [HN.out, List.take_length]; exact hm)]
          decide
        have HVV := Lib.hid hv
        clear hv
        go_wp2_with fail
        go_ret
        exact ⟨ret_bool HVV.out.symm, rfl⟩
end Go.Proofs.Ytelleejhnbidiaa
