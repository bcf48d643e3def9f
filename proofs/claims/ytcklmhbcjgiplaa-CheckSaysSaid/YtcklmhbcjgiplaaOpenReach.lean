/-
  Arguments opened together with the reach of the form: lengths are bounded, also of slices inside elements.
-/
import Derived.Test.YtcklmhbcjgiplaaOpenRows
import Derived.SizedLaws
namespace Go.Proofs.Ytcklmhbcjgiplaa
set_option linter.unusedVariables false
set_option linter.unusedSimpArgs false
open Go.RowKit Go.ChangeShapes Go.WideShapes Go.Deep

/-- What is read weighs no more than the reach. -/
def Light {H : Type} (P : Program) (t : TypeId) (d : DataW H) : Prop := ∀ n ∈ d.weights P t, n ≤ reachBytes

theorem weightsAll_mem {H : Type} {P : Program} {e : TypeId} {d : DataW H} : ∀ {l : List (DataW H)}, d ∈ l → ∀ n ∈ d.weights P e, n ∈ DataW.weightsAll P e l
  | [], h, _, _ => by simp at h
  | x :: l, h, n, hn => by
    simp only [DataW.weightsAll, List.mem_append]
    rcases List.mem_cons.1 h with rfl | h
    · exact .inl hn
    · exact .inr (weightsAll_mem h n hn)
theorem Light.elem {H : Type} {P : Program} {t e : TypeId} {elems spare : List (DataW H)} (hu : P.underlying t = some (.slice e)) (h : Light P t (.slice elems spare)) : (elems.length + spare.length) * P.bytesOf e ≤ reachBytes ∧ ∀ d ∈ elems, Light P e d := by
  refine ⟨h _ (by simp [DataW.weights, hu]), fun d hd n hn => h n ?_⟩
  simp only [DataW.weights, hu, List.mem_cons, List.mem_append]
  exact .inr (.inl (weightsAll_mem hd n hn))
theorem Light.field {H : Type} {P : Program} {t : TypeId} {fs : Array Field} {parts : List (DataW H)} (hu : P.underlying t = some (.struct fs)) (h : Light P t (.agg parts)) {j : Nat} {f : Field} {d : DataW H} (hf : fs.toList[j]? = some f) (hd : parts[j]? = some d) : Light P f.type d := by
  intro n hn
  refine h n ?_
  simp only [DataW.weights, hu]
  exact DataW.weights_mem_each (j := j) (by rw [List.getElem?_map, hf]; rfl) hd n hn
theorem Light.of_all {H : Type} {P : Program} {ts : List TypeId} {ds : List (DataW H)} (h : (DataW.weightsEach P ts ds).all (· ≤ reachBytes) = true) {j : Nat} {t : TypeId} {d : DataW H} (ht : ts[j]? = some t) (hd : ds[j]? = some d) : Light P t d := by
  intro n hn
  have := List.all_eq_true.1 h _ (DataW.weights_mem_each ht hd n hn)
  simpa using this

theorem open_rows_reach {α H : Type} {enc : TypeId × Value → H} {P : Program} {w : World} {base : Nat} {spare : Nat → Bool} {held : Bool} {t e : TypeId} {v : Value} {fuel : Nat} {xx : DataW H × List MemPlace}
    (ec : α → List Value) (Q : α → Prop) (sz : Nat) (hsz : 0 < sz) (hlen : ∀ x, (ec x).length = sz) (hC : P.cellsOf e = sz) (ht : P.underlying t = some (.slice e))
    (hel : ∀ n cs x, cs.length = sz → DataW.trod enc P w base spare held n e cs = some x → Light P e x.1 → ∃ y, cs = ec y ∧ Q y)
    (hf : DataW.trod enc P w base spare held fuel t [v] = some xx) (hw : Light P t xx.1) : ∃ l : List α, Rd w sz v l.length (l.flatMap ec) ∧ (∀ y ∈ l, Q y) ∧ l.length * P.bytesOf e ≤ reachBytes := by
  rcases open_slice ht hf with ⟨hcs, _⟩ | ⟨a, len, cap, m, n, D, Pl, hcs, hb, hl, hm, hmm, hx, hi⟩
  · simp at hcs
    subst hcs
    exact ⟨[], Rd.nil, by simp, by simp⟩
  · simp at hcs
    subst hcs
    subst hx
    have hwe := Light.elem ht hw
    obtain ⟨a0, ha0⟩ : ∃ a0, a0 = some a := ⟨_, rfl⟩
    obtain ⟨len0, rfl⟩ : ∃ z, z = len := ⟨_, rfl⟩
    obtain ⟨cap0, rfl⟩ : ∃ z, z = cap := ⟨_, rfl⟩
    have hlm : len0 ≤ m := by rw [hmm]; split <;> omega
    have hy : ∀ i, ∃ y : Option α, i < len0 → ∃ z, y = some z ∧ w.cells? base (a.add (i * sz)) sz = some (ec z) ∧ Q z := by
      intro i
      by_cases hlt : i < len0
      · obtain ⟨cs', hc, htr⟩ := hi i (by omega)
        rw [hC] at hc
        obtain ⟨_, hcl, _⟩ := World.cells?_some hc
        obtain ⟨y, rfl, hq⟩ := hel n cs' _ hcl htr (hwe.2 _ (List.mem_map.2 ⟨i, List.mem_range.2 hlt, rfl⟩))
        exact ⟨some y, fun _ => ⟨y, rfl, hc, hq⟩⟩
      · exact ⟨none, fun h => absurd h hlt⟩
    have hl2 : ∃ l : List α, l.length = len0 ∧ ∀ i z, l[i]? = some z → w.cells? base (a.add (i * sz)) sz = some (ec z) ∧ Q z := by
      have step : ∀ k, k ≤ len0 → ∃ l : List α, l.length = k ∧ ∀ i z, l[i]? = some z → w.cells? base (a.add (i * sz)) sz = some (ec z) ∧ Q z := by
        intro k
        induction k with
        | zero => exact fun _ => ⟨[], rfl, by simp⟩
        | succ k ih =>
          intro hk
          obtain ⟨l, hll, hlz⟩ := ih (by omega)
          obtain ⟨y, hyy⟩ := hy k
          obtain ⟨z, rfl, hz, hq⟩ := hyy (by omega)
          refine ⟨l ++ [z], by simp [hll], fun i z' hz' => ?_⟩
          rcases Nat.lt_or_ge i l.length with hi' | hi'
          · rw [List.getElem?_append_left hi'] at hz'
            exact hlz i z' hz'
          · rw [List.getElem?_append_right hi'] at hz'
            have hi0 : i - l.length = 0 := by
              have := (List.getElem?_eq_some_iff.1 hz').1
              simp at this
              omega
            rw [hi0] at hz'
            simp at hz'
            subst hz'
            have : i = k := by omega
            subst this
            exact ⟨hz, hq⟩
      exact step len0 (Nat.le_refl _)
    obtain ⟨l, hll, hlz⟩ := hl2
    refine ⟨l, ?_, fun y hyl => ?_, ?_⟩
    · rw [hll]
      refine ⟨by rw [flat_length ec sz hlen, hll], _, cap0, rfl, hl, by simpa [maxLen] using hm, fun hn => ?_⟩
      obtain ⟨bb, off, sp⟩ := a
      have hj : ∀ j u, (l.flatMap ec)[j]? = some u → w.cell? ((⟨bb, off, sp⟩ : Addr).add j) = some u := by
        intro j u hu
        have hjl := (List.getElem?_eq_some_iff.1 hu).1
        rw [flat_length ec sz hlen] at hjl
        have hs0 : 0 < sz := by
          rcases Nat.eq_zero_or_pos sz with h0 | h0
          · rw [h0] at hjl; omega
          · exact h0
        have hdj : j / sz < l.length := (Nat.div_lt_iff_lt_mul hs0).2 hjl
        have hmj : j % sz < sz := Nat.mod_lt _ hs0
        have hej : j = j / sz * sz + j % sz := by rw [Nat.mul_comm]; exact (Nat.div_add_mod j sz).symm
        have hz : l[j / sz]? = some l[j / sz] := List.getElem?_eq_getElem hdj
        obtain ⟨_, _, hat⟩ := World.cells?_some (hlz _ _ hz).1
        have h1 := hat (j % sz) hmj
        rw [add_add, ← hej] at h1
        rw [h1, ← flat_get ec sz hlen l (j / sz) (j % sz) _ hz hmj, ← hej, hu]
      have hsp : sp = none := by
        have hz : l[0]? = some l[0] := List.getElem?_eq_getElem (by omega)
        obtain ⟨_, hcl, hat⟩ := World.cells?_some (hlz _ _ hz).1
        have h1 := hat 0 hsz
        simp only [Nat.zero_mul, Addr.add, if_true] at h1
        have : ∃ u, (ec l[0])[0]? = some u := ⟨_, List.getElem?_eq_getElem (by rw [hlen]; exact hsz)⟩
        obtain ⟨u, hu⟩ := this
        rw [hu] at h1
        exact World.cell?_spot h1
      subst hsp
      refine ⟨bb, off, rfl, fun j u hu => ?_⟩
      have := hj j u hu
      have hadd : (⟨bb, off, none⟩ : Addr).add j = ⟨bb, off + j, none⟩ := by unfold Addr.add; split <;> simp_all
      rwa [hadd] at this
    · obtain ⟨i, hil, rfl⟩ := List.getElem_of_mem hyl
      exact (hlz i _ (List.getElem?_eq_getElem hil)).2
    · have := hwe.1
      simp at this
      rw [hll]
      exact Nat.le_trans (Nat.mul_le_mul_right _ (Nat.le_add_right _ _)) this

theorem open_cell_reach {α H : Type} {enc : TypeId × Value → H} {P : Program} {w : World} {base : Nat} {spare : Nat → Bool} {held : Bool} {t e : TypeId} {v : Value} {fuel : Nat} {xx : Option (DataW H × List MemPlace)}
    (ec : α → List Value) (Q : α → Prop) (sz : Nat) (hsz : 0 < sz) (hlen : ∀ x, (ec x).length = sz) (hC : P.cellsOf e = sz) (ht : P.underlying t = some (.slice e))
    (hel : ∀ n cs x, cs.length = sz → DataW.trod enc P w base spare held n e cs = some x → Light P e x.1 → ∃ y, cs = ec y ∧ Q y)
    (hf : DataW.trod enc P w base spare held fuel t [v] = xx) (hy : xx.isSome = true) (hw : ∀ x, xx = some x → Light P t x.1) : ∃ l : List α, Rd w sz v l.length (l.flatMap ec) ∧ (∀ y ∈ l, Q y) ∧ l.length * P.bytesOf e ≤ reachBytes := by
  obtain ⟨x, rfl⟩ := Option.isSome_iff_exists.1 hy
  exact open_rows_reach ec Q sz hsz hlen hC ht hel hf (hw x rfl)
theorem open_arg_reach {α H : Type} {enc : TypeId × Value → H} {P : Program} {w : World} {base b0 : Nat} {spare : Nat → Bool} {held : Bool} {r : Reach} {t e : TypeId} {v : Value} {d : DataW H} {p : List MemPlace}
    (ec : α → List Value) (Q : α → Prop) (sz : Nat) (hsz : 0 < sz) (hlen : ∀ x, (ec x).length = sz) (hC : P.cellsOf e = sz) (ht : P.underlying t = some (.slice e))
    (hel : ∀ n cs x, cs.length = sz → DataW.trod enc P w base spare held n e cs = some x → Light P e x.1 → ∃ y, cs = ec y ∧ Q y)
    (hval : Value.okWide P w r b0 t v) (h : DataW.Trod enc P w base spare held t v d p) (hw : Light P t d) : ∃ l : List α, Rd w sz v l.length (l.flatMap ec) ∧ (∀ y ∈ l, Q y) ∧ l.length * P.bytesOf e ≤ reachBytes := by
  obtain ⟨a0, len0, cap0, rfl⟩ := okWide_slice ht hval
  obtain ⟨fuel, hf⟩ := h
  exact open_rows_reach ec Q sz hsz hlen hC ht hel (v := .slice a0 len0 cap0) hf hw
end Go.Proofs.Ytcklmhbcjgiplaa
