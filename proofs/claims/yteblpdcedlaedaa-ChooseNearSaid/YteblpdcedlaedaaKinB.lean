/-
  Package kin and the document by contract: the document's Sub; Defaults, Sees, Allows of both.
-/
import Derived.Test.YteblpdcedlaedaaSub
import Derived.Test.YteblpdcedlaedaaRef9b
import Derived.Test.YteblpdcedlaedaaPkg
namespace Go.Proofs.Yteblpdcedlaedaa
open Go.RowKit
set_option maxRecDepth 100000

theorem RowS.has {B : Nat} {l : List ByteArray} {w : World} {v : Value} (h : RowS B l w v) : Rd w 1 v l.length (l.flatMap encS) := Row.rd h

theorem ref9_Sub (D : List TD) (a b : ByteArray) (v : Value) (w : World) (h : TyR w v D) (hs : a.size ≤ maxLen) :
    Calls Try.prog 37 #[v, .string a, .string b] w fun e w' => e = .returned (.bool (decide (subB D a b))) ∧ Kept w w' := by
  have C0 := ref9_At D a v w h
  have H := Lib.hid h
  have hl := h.len
  obtain ⟨av, cv, rfl, -, -⟩ := h.slice
  clear h
  cases hat : atO D a with
  | none =>
    rw [atI_none hat] at C0
    have HN := Lib.hid (show decide (subB D a b) = false from decide_eq_false (subB_no (by unfold there; rw [hat]; simp)))
    clear hat
    go_enter Try.func37, Try.ntmps37
    go_wp2_with fail
    refine C0.mono ?_
    rintro e w1 ⟨rfl, rfl⟩
    clear C0
    go_wp2_with fail
    go_ret
    exact ⟨ret_bool HN.out.symm, Below.refl _ _⟩
  | some k =>
    rw [atI_some hat] at C0
    clear hat
    have C1 := Lib.hid (ref9_Chain D a _ w H.out hs)
    go_enter Try.func37, Try.ntmps37
    go_wp2_with fail
    refine C0.mono ?_
    rintro e w1 ⟨rfl, rfl⟩
    clear C0
    go_wp2_with fail
    refine C1.out.mono ?_
    rintro e w2 ⟨v2, rfl, hr, k2⟩
    have HR := Lib.hid hr.has
    have K2 := Lib.hid k2
    clear hr k2 C1
    go_wp2_with fail
    refine (ref9_Has (chainL D a) b v2 _ w2 rfl HR.out (by have := (chainL_nms D a).le; omega)).mono ?_
    rintro e w3 ⟨rfl, rfl⟩
    go_wp2_with fail
    refine (ref9_All D a _ w2 (H.out.kept K2.out) hs).mono ?_
    rintro e w3 ⟨v3, rfl, hr3, k3⟩
    have HR3 := Lib.hid hr3.has
    have K3 := Lib.hid (Kept.trans K2.out k3)
    clear hr3 k3
    go_wp2_with fail
    refine (ref9_Has (allL D a) b v3 _ w3 rfl HR3.out (by have := (allL_nms D a).le; omega)).mono ?_
    rintro e w4 ⟨rfl, rfl⟩
    have hv : decide (subB D a b) = (decide (b ∈ chainL D a) || decide (b ∈ allL D a)) := by
      by_cases q1 : b ∈ chainL D a <;> by_cases q2 : b ∈ allL D a <;> simp only [subB, q1, q2] <;> decide
    have HV := Lib.hid hv
    clear hv
    generalize decide (b ∈ chainL D a) = d1 at *
    generalize decide (b ∈ allL D a) = d2 at *
    cases d1
    all_goals
      go_wp2_with fail
      go_ret
      exact ⟨ret_bool (by rw [HV.out]; rfl), K3.out⟩

/-- Has a type a method that is neither abstract nor static? -/
def dfl (m : MemberV) : Bool := decide (bits .and .i64 m.access 1032 = 0)
def dflL (D : List TD) (s : ByteArray) : Bool := match atO D s with
  | some k => ((D[k]?).map fun t => t.methods.any dfl).getD false
  | none => false
theorem dflL_at {D : List TD} {s : ByteArray} {k : Nat} {t : TD} (h : atO D s = some k) (ht : D[k]? = some t) : dflL D s = t.methods.any dfl := by simp [dflL, h, ht]

theorem mem_row {w : World} {l : List MemberV} {v : Value} {n : Nat} (hn : n = l.length) (hr : Rd w 5 v n (l.flatMap encMemberV)) {i : Nat} {m : MemberV} (hm : l[i]? = some m) :
    ∃ b off c, v = .slice (some ⟨b, off, none⟩) n c ∧ w.cell? ⟨b, off + i * 5, none⟩ = some (.int .i64 m.access) ∧ w.cell? ⟨b, off + i * 5 + 1, none⟩ = some (.string m.name) ∧ w.cell? ⟨b, off + i * 5 + 2, none⟩ = some (.string m.desc) ∧ w.cell? ⟨b, off + i * 5 + 3, none⟩ = some (.bool m.has) ∧ w.cell? ⟨b, off + i * 5 + 4, none⟩ = some (.int .i64 m.value) := by
  have hl := (List.getElem?_eq_some_iff.1 hm).1
  rcases hr.parts with ⟨h0, _⟩ | ⟨b, off, c, rfl, h0, h1, h2, hc⟩
  · omega
  · have hg : ∀ f u, (encMemberV m)[f]? = some u → f < 5 → w.cell? ⟨b, off + (i * 5 + f), none⟩ = some u := fun f u hu hf => hc _ _ (by rw [flat_get encMemberV 5 (fun _ => rfl) l i f m hm hf]; exact hu)
    exact ⟨b, off, c, rfl, hg 0 _ rfl (by omega), hg 1 _ rfl (by omega), hg 2 _ rfl (by omega), hg 3 _ rfl (by omega), hg 4 _ rfl (by omega)⟩

end Go.Proofs.Yteblpdcedlaedaa
