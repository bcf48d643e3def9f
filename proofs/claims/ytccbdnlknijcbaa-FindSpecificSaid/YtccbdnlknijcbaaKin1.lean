/-
  Lists of types in memory; the finders of a name.
-/
import Derived.Test.YtccbdnlknijcbaaKin0
import Derived.Test.YtccbdnlknijcbaaDict
import Derived.Test.YtccbdnlknijcbaaTy
namespace Go.Proofs.Ytccbdnlknijcbaa
open Go.RowKit
set_option maxRecDepth 100000

def encS (s : ByteArray) : List Value := [.string s]
/-- The slice v reads as the types D. -/
def TyR (w : World) (v : Value) (D : List TD) : Prop := ∃ L : List TypeV, L.map TypeV.d = D ∧ Rd w 6 v L.length (L.flatMap encTypeV) ∧ (∀ y ∈ L, TypeV.Ok w y) ∧ L.length ≤ 100

theorem Ok.keep_ {w w' : World} {y : TypeV} (h : y.Ok w) (hk : Kept w w') : y.Ok w' :=
  ⟨h.name_, h.super_, h.access_, h.interfaces_.kept hk, h.interfaces_all, h.interfaces_len, h.fields_.kept hk, fun z hz => ⟨(h.fields_all z hz).access_, (h.fields_all z hz).name_, (h.fields_all z hz).desc_, (h.fields_all z hz).value_⟩, h.fields_len,
   h.methods_.kept hk, fun z hz => ⟨(h.methods_all z hz).access_, (h.methods_all z hz).name_, (h.methods_all z hz).desc_, (h.methods_all z hz).value_⟩, h.methods_len⟩

section
variable {w w' : World} {v : Value} {D : List TD}
theorem TyR.kept (h : TyR w v D) (hk : Kept w w') : TyR w' v D := by
  obtain ⟨L, h1, h2, h3, h4⟩ := h
  exact ⟨L, h1, h2.kept hk, fun y hy => Ok.keep_ (h3 y hy) hk, h4⟩
theorem TyR.len (h : TyR w v D) : D.length ≤ 100 := by
  obtain ⟨L, rfl, _, _, h4⟩ := h
  simpa using h4
theorem TyR.slice (h : TyR w v D) : ∃ a c, v = .slice a D.length c ∧ D.length ≤ c ∧ c ≤ 9223372036854775807 := by
  obtain ⟨L, rfl, h2, _, _⟩ := h
  obtain ⟨_, a, c, rfl, h1, h2, _⟩ := h2
  exact ⟨a, c, by simp, by simpa using h1, h2⟩
/-- The cells of a type. -/
theorem TyR.cells (h : TyR w v D) {k : Nat} {t : TD} (ht : D[k]? = some t) :
    ∃ b off c iv fv mv, v = .slice (some ⟨b, off, none⟩) D.length c ∧ w.cell? ⟨b, off + k * 6, none⟩ = some (.string t.name) ∧ w.cell? ⟨b, off + k * 6 + 1, none⟩ = some (.string t.super) ∧ w.cell? ⟨b, off + k * 6 + 2, none⟩ = some (.int .i64 t.access) ∧
      w.cell? ⟨b, off + k * 6 + 3, none⟩ = some iv ∧ w.cell? ⟨b, off + k * 6 + 4, none⟩ = some fv ∧ w.cell? ⟨b, off + k * 6 + 5, none⟩ = some mv ∧
      Rd w 1 iv t.interfaces.length (t.interfaces.flatMap encS) ∧ t.interfaces.length ≤ 140737488351232 ∧ Rd w 5 fv t.fields.length (t.fields.flatMap encMemberV) ∧ t.fields.length ≤ 140737488351232 ∧ Rd w 5 mv t.methods.length (t.methods.flatMap encMemberV) ∧ t.methods.length ≤ 140737488351232 ∧
      t.name.size ≤ maxLen ∧ t.super.size ≤ maxLen ∧ (∀ s ∈ t.interfaces, s.size ≤ maxLen) ∧ (∀ z ∈ t.fields, MemberV.Ok w z) ∧ (∀ z ∈ t.methods, MemberV.Ok w z) ∧ -9223372036854775808 ≤ t.access ∧ t.access ≤ 9223372036854775807 := by
  obtain ⟨L, rfl, h2, h3, h4⟩ := h
  rw [List.getElem?_map, Option.map_eq_some_iff] at ht
  obtain ⟨y, hy, rfl⟩ := ht
  have ok := h3 y (List.mem_of_getElem? hy)
  have hk := (List.getElem?_eq_some_iff.1 hy).1
  rcases h2.parts with ⟨h0, _⟩ | ⟨b, off, c, rfl, h0, _, _, hc⟩
  · omega
  · have g : ∀ f u, (encTypeV y)[f]? = some u → f < 6 → w.cell? ⟨b, off + k * 6 + f, none⟩ = some u := fun f u hu hf => by
      rw [Nat.add_assoc]
      exact hc _ _ (by rw [flat_get encTypeV 6 (fun _ => rfl) L k f y hy hf]; exact hu)
    exact ⟨b, off, c, y.interfacesV, y.fieldsV, y.methodsV, by simp, g 0 _ rfl (by omega), g 1 _ rfl (by omega), g 2 _ rfl (by omega), g 3 _ rfl (by omega), g 4 _ rfl (by omega), g 5 _ rfl (by omega),
      ok.interfaces_, ok.interfaces_len, ok.fields_, ok.fields_len, ok.methods_, ok.methods_len, ok.name_, ok.super_, ok.interfaces_all, ok.fields_all, ok.methods_all, ok.access_.1, ok.access_.2⟩
/-- The cell of a text in a row of texts. -/
theorem str_cell {l : List ByteArray} {v : Value} {n : Nat} (hn : n = l.length) (h : Rd w 1 v n (l.flatMap encS)) {k : Nat} {s : ByteArray} (hs : l[k]? = some s) :
    ∃ b off c, v = .slice (some ⟨b, off, none⟩) n c ∧ w.cell? ⟨b, off + k, none⟩ = some (.string s) := by
  have hk := (List.getElem?_eq_some_iff.1 hs).1
  rcases h.parts with ⟨h0, _⟩ | ⟨b, off, c, rfl, h0, h1, h2, hc⟩
  · omega
  · have := hc (k * 1 + 0) (.string s) (by rw [flat_get encS 1 (fun _ => rfl) l k 0 s hs (by omega)]; rfl)
    exact ⟨b, off, c, rfl, by simpa using this⟩
end

theorem TyR.size_of {w : World} {v : Value} {D : List TD} (h : TyR w v D) {x : ByteArray} (hx : there D x) : x.size ≤ maxLen := by
  unfold there at hx
  obtain ⟨k, hk⟩ := Option.isSome_iff_exists.1 hx
  obtain ⟨t, ht, rfl, _⟩ := atO_some hk
  obtain ⟨_, _, _, _, _, _, _, _, _, _, _, _, _, _, _, _, _, _, _, hn, _⟩ := h.cells ht
  exact hn

theorem str_ne_ {a b : ByteArray} (h : a ≠ b) : (a.toList == b.toList) = false := by
  rw [beq_eq_false_iff_ne]
  intro e
  rw [ByteArray.toList_eq, ByteArray.toList_eq] at e
  exact h (ByteArray.ext (Array.toList_inj.1 e))

theorem kin_At (D : List TD) (s : ByteArray) (v : Value) (w : World) (h : TyR w v D) :
    Calls Try.prog 18 #[v, .string s] w fun e w' => e = .returned (.int .i64 (atI D s)) ∧ w = w' := by
  have H := Lib.hid h
  obtain ⟨a, c, rfl, hc1, hc2⟩ := h.slice
  have hl := h.len
  obtain ⟨N, hN⟩ : ∃ N, N = D.length := ⟨_, rfl⟩
  rw [← hN] at hl hc1 ⊢
  have HN := Lib.hid hN
  clear h hN
  go_enter Try.func18, Try.ntmps18
  go_wp2
  go_loop [8] (fun s8 => ∃ k : Nat, k ≤ N ∧ s8 = .int .i64 k ∧ ∀ j t, j < k → D[j]? = some t → t.name ≠ s) (fun s8 => N - (intOf s8).toNat)
  case atStart => exact ⟨0, by omega, rfl, fun j t hj => by omega⟩
  case round =>
    obtain ⟨k, hk, rfl, hno⟩ := hrel
    have HNO := Lib.hid hno
    clear hno
    by_cases hlt : k < N
    · obtain ⟨t, ht⟩ : ∃ t, D[k]? = some t := ⟨_, List.getElem?_eq_getElem (by have := HN.out; omega)⟩
      obtain ⟨b, off, c', iv, fv, mv, hv, x0, -⟩ := H.out.cells ht
      simp only [Value.slice.injEq] at hv
      obtain ⟨rfl, -, rfl⟩ := hv
      have HT := Lib.hid ht
      clear ht
      by_cases he : t.name = s
      · have ha := atI_some (atO_first HT.out he HNO.out)
        have HA := Lib.hid ha
        rw [he] at x0
        clear ha he
        go_wp2
        go_ret
        exact ⟨ret_int HA.out.symm, rfl⟩
      · have hb := str_ne_ he
        have HE := Lib.hid he
        clear he
        go_wp2
        go_round
        case rel =>
          refine ⟨k + 1, by omega, by go_num, fun j t' hj ht' => ?_⟩
          by_cases e : j = k
          · subst e
            rw [HT.out] at ht'
            obtain rfl : t = t' := by simpa using ht'
            exact HE.out
          · exact HNO.out j t' (by omega) ht'
        case measure => simp [intOf]; omega
    · have ha : atI D s = -1 := atI_none (atO_no (fun t ht => by
        obtain ⟨j, hj⟩ := List.mem_iff_getElem?.1 ht
        exact HNO.out j t (by have := (List.getElem?_eq_some_iff.1 hj).1; have := HN.out; omega) hj))
      have HA := Lib.hid ha
      clear ha
      go_wp2
      go_ret
      exact ⟨ret_int HA.out.symm, rfl⟩

end Go.Proofs.Ytccbdnlknijcbaa
