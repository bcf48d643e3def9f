/-
  Rings of threads: what goes round and what does not. No function of the program in sight, but for the words of Round's contract.
-/
import Derived.Test.YteahbpcimnaioaaRound
namespace Go.Proofs.Yteahbpcimnaioaa
open Go.RowKit Go.Maps
set_option maxRecDepth 100000

section
variable {H : Type} {D : DataW H}
theorem ownOf_empty (s : ByteArray) : ownOf (H := H) (.map []) s = none := rfl
theorem ownOf_put_same (hD : IsMap D) (s : ByteArray) (c : Int) : ownOf (D.put (.string s.data.toList) (.lit (.int .i64 c))) s = some c := by
  have hk : WideAt.IsKeyLit (.string s.data.toList) := by trivial
  rw [ownOf, has_put_same hD hk, if_pos rfl, atKey_put_same hD hk]
  rfl
theorem ownOf_put_other (s s' : ByteArray) (d : DataW H) (hne : s'.data.toList ≠ s.data.toList) : ownOf (D.put (.string s.data.toList) d) s' = ownOf D s' := by
  have h : (Lit.string s'.data.toList) ≠ .string s.data.toList := fun e => hne (by injection e)
  rw [ownOf, ownOf, has_put_other h, atKey_put_other h]
theorem ownOf_del_same (s : ByteArray) : ownOf (D.del (.string s.data.toList)) s = none := by
  rw [ownOf, has_del_same]
  rfl
theorem ownOf_del_other (s s' : ByteArray) (hne : s'.data.toList ≠ s.data.toList) : ownOf (D.del (.string s.data.toList)) s' = ownOf D s' := by
  have h : (Lit.string s'.data.toList) ≠ .string s.data.toList := fun e => hne (by injection e)
  rw [ownOf, ownOf, has_del_other h, atKey_del_other h]
end

/-- The name of class i. -/
def cls (i : Nat) : ByteArray := ⟨#[67]⟩ ++ (⟨#[97, 98, 99, 100, 101, 102, 103, 104, 105, 106, 107, 108, 109, 110, 111, 112]⟩ : ByteArray).extract i (i + 1)
theorem cls_list : ∀ i : Fin 16, (cls i).data.toList = [67, UInt8.ofNat (97 + i)] := by decide +kernel
theorem cls_inj {i j : Nat} (hi : i < 16) (hj : j < 16) (h : (cls i).data.toList = (cls j).data.toList) : i = j := by
  rw [cls_list ⟨i, hi⟩, cls_list ⟨j, hj⟩] at h
  simp only [List.cons.injEq, and_true, true_and] at h
  have h2 := congrArg UInt8.toNat h
  simp only [UInt8.toNat_ofNat'] at h2
  omega
theorem cls_size {i : Nat} (hi : i < 16) : (cls i).size = 2 := by
  have h := cls_list ⟨i, hi⟩
  have : (cls i).size = (cls i).data.toList.length := by rw [Array.length_toList]; rfl
  rw [this, h]
  rfl

/-- One after the other, round: where a row ends in a place from which nothing follows, nothing goes round. -/
theorem ring_dead {own : ByteArray → Option Int} {l : List Th} {n c : Nat} (hc : c < n) (hdead : ∀ (i : Int) f, ring own l i f c = false)
    (hn : ∀ t, t < n → t ≠ c → ∃ s, waitsAt l t = some s ∧ own s = some (((t + 1) % n : Nat) : Int)) :
    ∀ (f t i : Nat), t < n → i < n → (c + n - t) % n ≤ (c + n - i) % n → ring own l i f t = false := by
  intro f
  induction f with
  | zero => intros; rfl
  | succ f ih =>
    intro t i ht hi hd
    by_cases htc : t = c
    · subst htc; exact hdead _ _
    · obtain ⟨s, hs, ho⟩ := hn t ht htc
      have key : (c + n - (t + 1) % n) % n + 1 = (c + n - t) % n := by
        rcases (by omega : t + 1 = n ∨ t + 1 < n) with h | h
        · have e1 : (c + n - 0) % n = c := by rw [Nat.sub_zero, Nat.add_mod_right, Nat.mod_eq_of_lt hc]
          have e2 : (c + n - t) % n = c + 1 := by rw [show c + n - t = c + 1 by omega]; exact Nat.mod_eq_of_lt (by omega)
          rw [h, Nat.mod_self, e1, e2]
        · have e0 : (t + 1) % n = t + 1 := Nat.mod_eq_of_lt h
          rw [e0]
          rcases (by omega : t < c ∨ c < t) with h1 | h1
          · have e1 : (c + n - t) % n = c - t := by rw [show c + n - t = (c - t) + n by omega, Nat.add_mod_right]; exact Nat.mod_eq_of_lt (by omega)
            have e2 : (c + n - (t + 1)) % n = c - (t + 1) := by rw [show c + n - (t + 1) = (c - (t + 1)) + n by omega, Nat.add_mod_right]; exact Nat.mod_eq_of_lt (by omega)
            rw [e1, e2]
            omega
          · have e1 : (c + n - t) % n = c + n - t := Nat.mod_eq_of_lt (by omega)
            have e2 : (c + n - (t + 1)) % n = c + n - (t + 1) := Nat.mod_eq_of_lt (by omega)
            rw [e1, e2]
            omega
      have hne : (((t + 1) % n : Nat) : Int) ≠ (i : Int) := by
        intro e
        have e : (t + 1) % n = i := by omega
        rw [← e] at hd
        omega
      rw [ring_on f hs ho hne]
      exact ih _ _ (Nat.mod_lt _ (by omega)) hi (by omega)
theorem rndF_false {own : ByteArray → Option Int} {l : List Th} (h : ∀ i : Nat, i < l.length → ring own l i (l.length + 1) i = false) : ∀ d, d ≤ l.length → rndF own l d = false
  | 0, _ => rfl
  | d + 1, hd => by
    have e : ((l.length : Int) - ((d : Int) + 1)) = ((l.length - (d + 1) : Nat) : Int) := by omega
    rw [rndF, e, h _ (by omega), Bool.false_or]
    exact rndF_false h d (by omega)
theorem round_dead {own : ByteArray → Option Int} {l : List Th} {c : Nat} (hc : c < l.length) (hdead : ∀ (i : Int) f, ring own l i f c = false)
    (hn : ∀ t, t < l.length → t ≠ c → ∃ s, waitsAt l t = some s ∧ own s = some (((t + 1) % l.length : Nat) : Int)) : roundB own l = false :=
  rndF_false (fun i hi => ring_dead hc hdead hn _ i i hi hi (Nat.le_refl _)) _ (Nat.le_refl _)
/-- A whole ring goes round. -/
theorem ring_all {own : ByteArray → Option Int} {l : List Th} {n : Nat} (hn : ∀ t, t < n → ∃ s, waitsAt l t = some s ∧ own s = some (((t + 1) % n : Nat) : Int)) :
    ∀ (f t : Nat), t < n → n - t ≤ f → ring own l 0 f t = true := by
  intro f
  induction f with
  | zero => intros; omega
  | succ f ih =>
    intro t ht hf
    obtain ⟨s, hs, ho⟩ := hn t ht
    rcases (by omega : t + 1 = n ∨ t + 1 < n) with h | h
    · rw [h, Nat.mod_self] at ho
      exact ring_hit f hs ho
    · rw [Nat.mod_eq_of_lt h] at ho
      rw [ring_on f hs ho (by omega)]
      exact ih _ h (by omega)
theorem round_all {own : ByteArray → Option Int} {l : List Th} (hpos : 0 < l.length) (hn : ∀ t, t < l.length → ∃ s, waitsAt l t = some s ∧ own s = some (((t + 1) % l.length : Nat) : Int)) : roundB own l = true := by
  obtain ⟨d, hd⟩ : ∃ d, l.length = d + 1 := ⟨l.length - 1, by omega⟩
  have h0 := ring_all hn (l.length + 1) 0 hpos (by omega)
  rw [roundB, hd, rndF]
  have e : ((l.length : Int) - ((d : Int) + 1)) = ((0 : Nat) : Int) := by omega
  rw [e]
  have h1 : ring own l ((0 : Nat) : Int) (l.length + 1) ((0 : Nat) : Int) = true := h0
  rw [h1, Bool.true_or]

theorem waitsAt_at {l : List Th} {t : Nat} {x : Th} (hx : l[t]? = some x) : waitsAt l t = if x.st = 1 then some x.tx else none := by
  have := (List.getElem?_eq_some_iff.1 hx).1
  simp only [waitsAt]
  rw [if_pos (by omega), Int.toNat_natCast, hx]
  rfl
end Go.Proofs.Yteahbpcimnaioaa
