/-
  An argument that is a slice of structs, as the walks want it: rows of cells.
-/
import Derived.Test.YtcklmhbcjgiplaaBase
import Derived.ProofKit
import Derived.OpenShut
import Derived.Deep.Slices
import Derived.Deep.Fields
import Derived.ChangeSame
namespace Go.Proofs.Ytcklmhbcjgiplaa
set_option linter.unusedVariables false
set_option linter.unusedSimpArgs false
open Go.RowKit Go.ChangeShapes Go.WideShapes Go.Deep

theorem open_rows_at {α H : Type} {enc : TypeId × Value → H} {P : Program} {w : World} {base : Nat} {spare : Nat → Bool} {held : Bool} {t e : TypeId} {v : Value} {fuel : Nat} {xx : DataW H × List MemPlace}
    (ec : α → List Value) (Q : α → Prop) (sz : Nat) (hsz : 0 < sz) (hlen : ∀ x, (ec x).length = sz) (hC : P.cellsOf e = sz) (ht : P.underlying t = some (.slice e))
    (hel : ∀ n cs x, cs.length = sz → DataW.trod enc P w base spare held n e cs = some x → ∃ y, cs = ec y ∧ Q y)
    (hf : DataW.trod enc P w base spare held fuel t [v] = some xx) : ∃ l : List α, Rd w sz v l.length (l.flatMap ec) ∧ ∀ y ∈ l, Q y := by
  rcases open_slice ht hf with ⟨hcs, _⟩ | ⟨a, len, cap, m, n, D, Pl, hcs, hb, hl, hm, hmm, hx, hi⟩
  · simp at hcs
    subst hcs
    exact ⟨[], Rd.nil, by simp⟩
  · simp at hcs
    subst hcs
    obtain ⟨a0, ha0⟩ : ∃ a0, a0 = some a := ⟨_, rfl⟩
    obtain ⟨len0, rfl⟩ : ∃ z, z = len := ⟨_, rfl⟩
    obtain ⟨cap0, rfl⟩ : ∃ z, z = cap := ⟨_, rfl⟩
    have hlm : len0 ≤ m := by rw [hmm]; split <;> omega
    have hy : ∀ i, ∃ y : Option α, i < len0 → ∃ z, y = some z ∧ w.cells? base (a.add (i * sz)) sz = some (ec z) ∧ Q z := by
      intro i
      by_cases hlt : i < len0
      · obtain ⟨cs', hc, htr⟩ := hi i (by omega)
        rw [hC] at hc
        obtain ⟨_, hcl, _⟩ := World.cells?_some hc
        obtain ⟨y, rfl, hq⟩ := hel n cs' _ hcl htr
        exact ⟨some y, fun _ => ⟨y, rfl, hc, hq⟩⟩
      · exact ⟨none, fun h => absurd h hlt⟩
    have hl2 : ∃ l : List α, l.length = len0 ∧ ∀ i z, l[i]? = some z → w.cells? base (a.add (i * sz)) sz = some (ec z) ∧ Q z := by
      have step : ∀ k, k ≤ len0 → ∃ l : List α, l.length = k ∧ ∀ i z, l[i]? = some z → w.cells? base (a.add (i * sz)) sz = some (ec z) ∧ Q z := by
        intro k
        induction k with
        | zero => exact fun _ => ⟨[], rfl, by simp⟩
        | succ k ih =>
          intro hk
          obtain ⟨l, hll, hlz⟩ := ih (by omega)
          obtain ⟨y, hyy⟩ := hy k
          obtain ⟨z, rfl, hz, hq⟩ := hyy (by omega)
          refine ⟨l ++ [z], by simp [hll], fun i z' hz' => ?_⟩
          rcases Nat.lt_or_ge i l.length with hi' | hi'
          · rw [List.getElem?_append_left hi'] at hz'
            exact hlz i z' hz'
          · rw [List.getElem?_append_right hi'] at hz'
            have hi0 : i - l.length = 0 := by
              have := (List.getElem?_eq_some_iff.1 hz').1
              simp at this
              omega
            rw [hi0] at hz'
            simp at hz'
            subst hz'
            have : i = k := by omega
            subst this
            exact ⟨hz, hq⟩
      exact step len0 (Nat.le_refl _)
    obtain ⟨l, hll, hlz⟩ := hl2
    refine ⟨l, ?_, fun y hyl => ?_⟩
    · rw [hll]
      refine ⟨by rw [flat_length ec sz hlen, hll], _, cap0, rfl, hl, by simpa [maxLen] using hm, fun hn => ?_⟩
      obtain ⟨bb, off, sp⟩ := a
      have hj : ∀ j u, (l.flatMap ec)[j]? = some u → w.cell? ((⟨bb, off, sp⟩ : Addr).add j) = some u := by
        intro j u hu
        have hjl := (List.getElem?_eq_some_iff.1 hu).1
        rw [flat_length ec sz hlen] at hjl
        have hs0 : 0 < sz := by
          rcases Nat.eq_zero_or_pos sz with h0 | h0
          · rw [h0] at hjl; omega
          · exact h0
        have hdj : j / sz < l.length := (Nat.div_lt_iff_lt_mul hs0).2 hjl
        have hmj : j % sz < sz := Nat.mod_lt _ hs0
        have hej : j = j / sz * sz + j % sz := by rw [Nat.mul_comm]; exact (Nat.div_add_mod j sz).symm
        have hz : l[j / sz]? = some l[j / sz] := List.getElem?_eq_getElem hdj
        obtain ⟨_, _, hat⟩ := World.cells?_some (hlz _ _ hz).1
        have h1 := hat (j % sz) hmj
        rw [add_add, ← hej] at h1
        rw [h1, ← flat_get ec sz hlen l (j / sz) (j % sz) _ hz hmj, ← hej, hu]
      have hsp : sp = none := by
        have hz : l[0]? = some l[0] := List.getElem?_eq_getElem (by omega)
        obtain ⟨_, hcl, hat⟩ := World.cells?_some (hlz _ _ hz).1
        have h1 := hat 0 hsz
        simp only [Nat.zero_mul, Addr.add, if_true] at h1
        have : ∃ u, (ec l[0])[0]? = some u := ⟨_, List.getElem?_eq_getElem (by rw [hlen]; exact hsz)⟩
        obtain ⟨u, hu⟩ := this
        rw [hu] at h1
        exact World.cell?_spot h1
      subst hsp
      refine ⟨bb, off, rfl, fun j u hu => ?_⟩
      have := hj j u hu
      have hadd : (⟨bb, off, none⟩ : Addr).add j = ⟨bb, off + j, none⟩ := by unfold Addr.add; split <;> simp_all
      rwa [hadd] at this
    · obtain ⟨i, hil, rfl⟩ := List.getElem_of_mem hyl
      exact (hlz i _ (List.getElem?_eq_getElem hil)).2

theorem open_rows {α H : Type} {enc : TypeId × Value → H} {P : Program} {w : World} {base b0 : Nat} {spare : Nat → Bool} {held : Bool} {r : Reach} {t e : TypeId} {v : Value} {d : DataW H} {p : List MemPlace}
    (ec : α → List Value) (Q : α → Prop) (sz : Nat) (hsz : 0 < sz) (hlen : ∀ x, (ec x).length = sz) (hC : P.cellsOf e = sz) (ht : P.underlying t = some (.slice e))
    (hel : ∀ n cs x, cs.length = sz → DataW.trod enc P w base spare held n e cs = some x → ∃ y, cs = ec y ∧ Q y)
    (hval : Value.okWide P w r b0 t v) (h : DataW.Trod enc P w base spare held t v d p) : ∃ l : List α, Rd w sz v l.length (l.flatMap ec) ∧ ∀ y ∈ l, Q y := by
  obtain ⟨a0, len0, cap0, rfl⟩ := okWide_slice ht hval
  obtain ⟨fuel, hf⟩ := h
  exact open_rows_at ec Q sz hsz hlen hC ht hel (v := .slice a0 len0 cap0) hf
/-- The same of a cell that holds a slice. -/
theorem open_cell_rows {α H : Type} {enc : TypeId × Value → H} {P : Program} {w : World} {base : Nat} {spare : Nat → Bool} {held : Bool} {t e : TypeId} {v : Value} {fuel : Nat} {xx : Option (DataW H × List MemPlace)}
    (ec : α → List Value) (Q : α → Prop) (sz : Nat) (hsz : 0 < sz) (hlen : ∀ x, (ec x).length = sz) (hC : P.cellsOf e = sz) (ht : P.underlying t = some (.slice e))
    (hel : ∀ n cs x, cs.length = sz → DataW.trod enc P w base spare held n e cs = some x → ∃ y, cs = ec y ∧ Q y)
    (hf : DataW.trod enc P w base spare held fuel t [v] = xx) (hy : xx.isSome = true) : ∃ l : List α, Rd w sz v l.length (l.flatMap ec) ∧ ∀ y ∈ l, Q y := by
  obtain ⟨x, rfl⟩ := Option.isSome_iff_exists.1 hy
  exact open_rows_at ec Q sz hsz hlen hC ht hel hf

section
variable {H : Type} {enc : TypeId × Value → H} {P : Program} {w : World} {base n : Nat} {spare : Nat → Bool} {held : Bool} {t : TypeId} {c : Value} {y : Option (DataW H × List MemPlace)}
theorem fld_int (ht : P.underlying t = some (.int .i64)) (h : DataW.trod enc P w base spare held n t [c] = y) (hy : y.isSome = true) : ∃ k : Int, c = .int .i64 k ∧ -9223372036854775808 ≤ k ∧ k ≤ 9223372036854775807 := by
  obtain ⟨x, rfl⟩ := Option.isSome_iff_exists.1 hy
  obtain ⟨k, hk, _, hw⟩ := DataW.trod_int ht h
  simp at hk
  have := bounds_i64 hw
  exact ⟨k, hk, this.1, this.2⟩
theorem fld_string (ht : P.underlying t = some .string) (h : DataW.trod enc P w base spare held n t [c] = y) (hy : y.isSome = true) : ∃ s : ByteArray, c = .string s ∧ s.size ≤ maxLen := by
  obtain ⟨x, rfl⟩ := Option.isSome_iff_exists.1 hy
  obtain ⟨s, hs, _, hw⟩ := DataW.trod_string ht h
  simp at hs
  exact ⟨s, hs, hw⟩
theorem fld_bool (ht : P.underlying t = some .bool) (h : DataW.trod enc P w base spare held n t [c] = y) (hy : y.isSome = true) : ∃ b : Bool, c = .bool b := by
  obtain ⟨x, rfl⟩ := Option.isSome_iff_exists.1 hy
  obtain ⟨b, hb, _⟩ := DataW.trod_bool ht h
  simp at hb
  exact ⟨b, hb⟩
end
section
variable {H : Type} {enc : TypeId × Value → H} {P : Program} {w : World} {base : Nat} {spare : Nat → Bool} {held : Bool} {t : TypeId}
theorem elem_int_ (ht : P.underlying t = some (.int .i64)) (n : Nat) (cs : List Value) (x : DataW H × List MemPlace) (hl : cs.length = 1) (h : DataW.trod enc P w base spare held n t cs = some x) :
    ∃ k : Int, cs = [.int .i64 k] ∧ -9223372036854775808 ≤ k ∧ k ≤ 9223372036854775807 := by
  match cs, hl with
  | [c], _ =>
    obtain ⟨k, rfl, hk⟩ := fld_int ht h rfl
    exact ⟨k, rfl, hk⟩
theorem elem_string_ (ht : P.underlying t = some .string) (n : Nat) (cs : List Value) (x : DataW H × List MemPlace) (hl : cs.length = 1) (h : DataW.trod enc P w base spare held n t cs = some x) :
    ∃ s : ByteArray, cs = [.string s] ∧ s.size ≤ maxLen := by
  match cs, hl with
  | [c], _ =>
    obtain ⟨k, rfl, hk⟩ := fld_string ht h rfl
    exact ⟨k, rfl, hk⟩
end
theorem some_of_len {α : Type} {xs : List α} {i : Nat} (h : i < xs.length) : (xs[i]?).isSome = true := by rw [List.getElem?_eq_getElem h]; rfl

/-- Cells of a field of one cell. -/
theorem field1 {α : Type} {cs : List α} {i : Nat} {c : α} (h : cs[i]? = some c) : (cs.drop i).take 1 = [c] := by
  obtain ⟨hi, rfl⟩ := List.getElem?_eq_some_iff.1 h
  rw [List.drop_eq_getElem_cons hi]
  rfl

end Go.Proofs.Ytcklmhbcjgiplaa
