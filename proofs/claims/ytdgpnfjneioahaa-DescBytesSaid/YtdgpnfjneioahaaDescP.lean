/-
  A class's package, by contract: desc.Package and the document's.
-/
import Derived.Test.YtdgpnfjneioahaaDesc5
namespace Go.Proofs.Ytdgpnfjneioahaa
open Go.RowKit
set_option maxRecDepth 100000

/-- The place of the last slash ahead of place k. -/
def lastIx (s : ByteArray) : Nat → Option Nat
  | 0 => none
  | k + 1 => if (s.data.toList[k]?.map (fun c => decide ((c.toNat : Int) = 47))) = some true then some k else lastIx s k
def pkgOf (s : ByteArray) : ByteArray := s.extract 0 ((lastIx s s.size).getD 0)
theorem lastIx_lt {s : ByteArray} : ∀ {n k : Nat}, lastIx s n = some k → k < n
  | 0, k, h => by cases h
  | n + 1, k, h => by
    unfold lastIx at h
    split at h
    · obtain rfl : n = k := by simpa using h
      omega
    · have := lastIx_lt h
      omega
theorem lastIx_yes {s : ByteArray} {k : Nat} (hk : k < s.size) (h : ((s[k].toNat : Int) = 47)) : lastIx s (k + 1) = some k := by
  unfold lastIx
  rw [if_pos]
  rw [List.getElem?_eq_getElem (by simpa using hk)]
  have : s.data.toList[k]'(by simpa using hk) = s[k] := rfl
  simp [this, h]
theorem lastIx_no {s : ByteArray} {k : Nat} (hk : k < s.size) (h : ¬ ((s[k].toNat : Int) = 47)) : lastIx s (k + 1) = lastIx s k := by
  rw [lastIx, if_neg]
  rw [List.getElem?_eq_getElem (by simpa using hk)]
  have : s.data.toList[k]'(by simpa using hk) = s[k] := rfl
  simp [this, h]
theorem ext00 (s : ByteArray) : s.extract 0 0 = ByteArray.empty := ByteArray.ext (by simp)
def lastI (s : ByteArray) : Int := match lastIx s s.size with
  | some k => k
  | none => -1

theorem bytealg_last (s : ByteArray) (w : World) (hs : s.size ≤ maxLen) :
    Calls Try.prog 28 #[.string s, .int .u8 47] w fun e w' => e = .returned (.int .i64 (lastI s)) ∧ w = w' := by
  unfold maxLen at hs
  go_enter Try.func28, Try.ntmps28
  go_wp2
  go_loop [5] (fun s5 => ∃ k : Nat, k ≤ s.size ∧ s5 = .int .i64 ((k : Int) - 1) ∧ lastIx s k = lastIx s s.size) (fun s5 => (intOf s5 + 1).toNat)
  case atStart => exact ⟨s.size, Nat.le_refl _, rfl, rfl⟩
  case round =>
    obtain ⟨k, hk, rfl, hx⟩ := hrel
    have HX := Lib.hid hx
    clear hx
    cases k with
    | zero =>
      have hv : lastI s = -1 := by unfold lastI; rw [← HX.out]; rfl
      have HV := Lib.hid hv
      clear hv
      go_wp2
      go_ret
      exact ⟨ret_int HV.out.symm, rfl⟩
    | succ k =>
      have e1 : (((k + 1 : Nat) : Int) - 1) = (k : Int) := by omega
      rw [e1]
      clear e1
      by_cases h47 : (s[k].toNat : Int) = 47
      · have hv : lastI s = k := by unfold lastI; rw [← HX.out, lastIx_yes (by omega) h47]
        have HV := Lib.hid hv
        clear hv
        go_wp2
        go_ret
        exact ⟨ret_int HV.out.symm, rfl⟩
      · have hb := h47
        have hl := lastIx_no (by omega) h47
        rw [HX.out] at hl
        have HL := Lib.hid hl
        clear hl
        go_wp2
        go_round
        case rel => exact ⟨k, by omega, by go_num, HL.out.symm⟩
        case measure => simp [intOf]

theorem strings_last (s : ByteArray) (w : World) (hs : s.size ≤ maxLen) :
    Calls Try.prog 24 #[.string s, .int .u8 47] w fun e w' => e = .returned (.int .i64 (lastI s)) ∧ w = w' := by
  go_enter Try.func24, Try.ntmps24
  go_wp2_with fail
  refine (bytealg_last s w hs).mono ?_
  rintro e w1 ⟨rfl, rfl⟩
  go_wp2
  go_ret
  exact ⟨rfl, rfl⟩

theorem desc_Package (s : ByteArray) (w : World) (hs : s.size ≤ maxLen) :
    Calls Try.prog 18 #[.string s] w fun e w' => e = .returned (.string (pkgOf s)) ∧ w = w' := by
  have C := strings_last s w hs
  unfold maxLen at hs
  unfold lastI at C
  unfold pkgOf
  cases hx : lastIx s s.size with
  | none =>
    rw [hx] at C
    dsimp only at C
    clear hx
    go_enter Try.func18, Try.ntmps18
    go_wp2_with fail
    refine C.mono ?_
    rintro e w1 ⟨rfl, rfl⟩
    clear C
    go_wp2_with fail
    go_ret
    exact ⟨by rw [Option.getD_none, ext00]; rfl, rfl⟩
  | some k =>
    rw [hx] at C
    dsimp only at C
    have hk := lastIx_lt hx
    clear hx
    go_enter Try.func18, Try.ntmps18
    go_wp2_with fail
    refine C.mono ?_
    rintro e w1 ⟨rfl, rfl⟩
    clear C
    go_wp2_with fail
    · go_ret
      exact ⟨rfl, rfl⟩
    · obtain rfl : k = 0 := by omega
      go_ret
      exact ⟨by rw [ext00]; rfl, rfl⟩

theorem ref2_Package (s : ByteArray) (w : World) (hs : s.size ≤ maxLen) :
    Calls Try.prog 19 #[.string s] w fun e w' => e = .returned (.string (pkgOf s)) ∧ w = w' := by
  unfold maxLen at hs
  go_enter Try.func19, Try.ntmps19
  go_wp2
  go_loop [3] (fun s5 => ∃ k : Nat, k ≤ s.size ∧ s5 = .int .i64 ((k : Int) - 1) ∧ lastIx s k = lastIx s s.size) (fun s5 => (intOf s5 + 1).toNat)
  case atStart => exact ⟨s.size, Nat.le_refl _, rfl, rfl⟩
  case round =>
    obtain ⟨k, hk, rfl, hx⟩ := hrel
    have HX := Lib.hid hx
    clear hx
    cases k with
    | zero =>
      have hv : pkgOf s = ByteArray.empty := by unfold pkgOf; rw [← HX.out]; exact ext00 s
      have HV := Lib.hid hv
      clear hv
      go_wp2
      go_ret
      exact ⟨by rw [HV.out]; rfl, rfl⟩
    | succ k =>
      have e1 : (((k + 1 : Nat) : Int) - 1) = (k : Int) := by omega
      rw [e1]
      clear e1
      by_cases h47 : (s[k].toNat : Int) = 47
      · have hv : pkgOf s = s.extract 0 k := by unfold pkgOf; rw [← HX.out, lastIx_yes (by omega) h47]; rfl
        have HV := Lib.hid hv
        clear hv
        go_wp2
        go_ret
        exact ⟨by rw [HV.out]; rfl, rfl⟩
      · have hb := h47
        have hl := lastIx_no (by omega) h47
        rw [HX.out] at hl
        have HL := Lib.hid hl
        clear hl
        go_wp2
        go_round
        case rel => exact ⟨k, by omega, by go_num, HL.out.symm⟩
        case measure => simp [intOf]
end Go.Proofs.Ytdgpnfjneioahaa
