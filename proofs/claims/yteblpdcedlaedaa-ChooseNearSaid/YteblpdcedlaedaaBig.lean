/-
  turnstilelaw9.Big: a list of types that is not too much has short lists.
-/
import Derived.Test.YteblpdcedlaedaaTouch
import Derived.Test.YteblpdcedlaedaaOpenType
namespace Go.Proofs.Yteblpdcedlaedaa
open Go.RowKit
set_option maxRecDepth 100000

/-- How many there are in a type. -/
def TypeV.count (y : TypeV) : Nat := y.interfaces.length + y.fields.length + y.methods.length

theorem type_cells {w : World} {l : List TypeV} {v : Value} (hr : Rd w 6 v l.length (l.flatMap encTypeV)) {i : Nat} {m : TypeV} (hm : l[i]? = some m) :
    ∃ b off c, v = .slice (some ⟨b, off, none⟩) l.length c ∧ c ≤ 9223372036854775807 ∧ w.cell? ⟨b, off + i * 6, none⟩ = some (.string m.name) ∧ w.cell? ⟨b, off + i * 6 + 1, none⟩ = some (.string m.super) ∧ w.cell? ⟨b, off + i * 6 + 2, none⟩ = some (.int .i64 m.access) ∧ w.cell? ⟨b, off + i * 6 + 3, none⟩ = some m.interfacesV ∧ w.cell? ⟨b, off + i * 6 + 4, none⟩ = some m.fieldsV ∧ w.cell? ⟨b, off + i * 6 + 5, none⟩ = some m.methodsV := by
  have hl := (List.getElem?_eq_some_iff.1 hm).1
  rcases hr.parts with ⟨h0, _⟩ | ⟨b, off, c, rfl, h0, h1, h2, hc⟩
  · omega
  · have hg : ∀ f u, (encTypeV m)[f]? = some u → f < 6 → w.cell? ⟨b, off + (i * 6 + f), none⟩ = some u := fun f u hu hf => hc _ _ (by rw [flat_get encTypeV 6 (fun _ => rfl) l i f m hm hf]; exact hu)
    exact ⟨b, off, c, rfl, h2, hg 0 _ rfl (by omega), hg 1 _ rfl (by omega), hg 2 _ rfl (by omega), hg 3 _ rfl (by omega), hg 4 _ rfl (by omega), hg 5 _ rfl (by omega)⟩

set_option maxHeartbeats 1000000 in
theorem law9_Big (l : List TypeV) (v : Value) (w : World) (hr : Rd w 6 v l.length (l.flatMap encTypeV)) (hok : ∀ y ∈ l, TypeV.Ok w y) (hlen : l.length ≤ 140737488351232) :
    Calls Try.prog 9 #[v] w fun e w' => (e = .returned (.bool true) ∨ e = .returned (.bool false) ∧ l.length ≤ 60 ∧ ∀ y ∈ l, y.count ≤ 3000) ∧ ∃ m, w' = w.drewN m := by
  have HR := Lib.hid hr
  have HK := Lib.hid hok
  clear hok
  obtain ⟨n, hn⟩ : ∃ n, n = l.length := ⟨_, rfl⟩
  rw [← hn] at hr hlen ⊢
  have HN := Lib.hid hn
  clear hn
  obtain ⟨_, a, c, rfl, h1, h2, _⟩ := hr
  go_enter Try.func9, Try.ntmps9
  go_wp2
  go_loopw [3, 4] (fun s3 s4 wr => ∃ k N : Nat, k ≤ n ∧ s4 = .int .i64 k ∧ s3 = .int .i64 N ∧ N ≤ 1000000000000000000 ∧ (∀ j y, j < k → l[j]? = some y → y.count ≤ N) ∧ ∃ m, wr = w.drewN m) (fun _ s4 _ => n - (intOf s4).toNat)
  case atStart => exact ⟨0, 0, by omega, rfl, rfl, by omega, fun j y hj => by omega, 0, rfl⟩
  case round =>
    obtain ⟨k, N, hk, rfl, rfl, hN, hall, mm, rfl⟩ := hrel
    have HA := Lib.hid hall
    clear hall
    by_cases hlt : k < n
    · by_cases h3 : N ≤ 3000
      · obtain ⟨m, hm⟩ : ∃ m, l[k]? = some m := ⟨_, List.getElem?_eq_getElem (show k < l.length by have := HN.out; omega)⟩
        obtain ⟨b, off, c', hv, hc, x0, x1, x2, x3, x4, x5⟩ := type_cells HR.out hm
        simp only [Value.slice.injEq] at hv
        obtain ⟨rfl, -, rfl⟩ := hv
        have ok := HK.out m (List.mem_of_getElem? hm)
        obtain ⟨_, ai, ci, hi, i1, i2, _⟩ := ok.interfaces_
        obtain ⟨_, af, cf, hf, f1, f2, _⟩ := ok.fields_
        obtain ⟨_, am, cm, hme, m1, m2, _⟩ := ok.methods_
        have li := ok.interfaces_len
        have lf := ok.fields_len
        have lm := ok.methods_len
        have ln : m.name.size ≤ 9223372036854775807 := by have := ok.name_; simpa [maxLen] using this
        rw [hi] at x3
        rw [hf] at x4
        rw [hme] at x5
        have HM := Lib.hid hm
        clear hm hi hf hme ok
        go_wp2
        go_quiet (fail)
        go_wp2
        go_roundw
        case rel =>
          refine ⟨k + 1, N + 1 + m.interfaces.length + m.fields.length + m.methods.length + m.name.size / 16, by omega, by go_num, by go_num, by omega, ?_, _, rfl⟩
          intro j y hj hy
          rcases (by omega : j < k ∨ j = k) with h | rfl
          · have := HA.out j y h hy
            omega
          · rw [HM.out] at hy
            obtain rfl : m = y := by simpa using hy
            simp only [TypeV.count]
            omega
        case measure => simp [intOf]; omega
      · go_wp2
        go_ret
        exact ⟨.inl rfl, _, rfl⟩
    · obtain rfl : k = n := by omega
      have hend : N ≤ 3000 → ∀ y ∈ l, y.count ≤ 3000 := by
        intro h3 y hy
        obtain ⟨j, hj, rfl⟩ := List.getElem_of_mem hy
        have := HA.out j _ (by have := HN.out; omega) (List.getElem?_eq_getElem hj)
        omega
      have HE := Lib.hid hend
      clear hend
      by_cases h3 : N ≤ 3000
      · by_cases h6 : k ≤ 60
        · go_wp2
          go_ret
          exact ⟨.inr ⟨ret_bool (by simp; omega), h6, HE.out h3⟩, _, rfl⟩
        · go_wp2
          go_ret
          exact ⟨.inl (ret_bool (by simp; omega)), _, rfl⟩
      · go_wp2
        go_ret
        exact ⟨.inl rfl, _, rfl⟩
end Go.Proofs.Yteblpdcedlaedaa
