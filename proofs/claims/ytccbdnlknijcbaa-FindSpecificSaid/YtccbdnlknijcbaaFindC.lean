/-
  What is found is declared there: plain; the law's own test by contract.
-/
import Derived.Test.YtccbdnlknijcbaaFindA
import Derived.Test.YtccbdnlknijcbaaFindR6
import Derived.Test.YtccbdnlknijcbaaFindG
namespace Go.Proofs.Ytccbdnlknijcbaa
open Go.RowKit
set_option maxRecDepth 100000

theorem field_some {D : List TD} {c n d : ByteArray} {f : FV} (h : fieldL D c n d = some f) : there D f.1 ∧ memAt (fldL D f.1) n d = some f.2 := ovF_some h
theorem field_at {D : List TD} {c n d : ByteArray} {f : FV} (h : fieldL D c n d = some f) : there D c := by
  by_cases ht : there D c
  · exact ht
  · unfold fieldL at h
    rw [ovF_skip (.inl ht)] at h
    cases h
theorem field_none {D : List TD} {c n d : ByteArray} (h : fieldL D c n d = none) (ht : there D c) : memAt (fldL D c) n d = none := by
  cases hm : memAt (fldL D c) n d with
  | none => rfl
  | some i =>
    unfold fieldL at h
    rw [ovF_hit ht (by simp) hm] at h
    cases h
/-- A found that is declared. -/
structure Decl (D : List TD) (n d : ByteArray) (f : FV) : Prop where
  th : there D f.1
  at_ : memAt (metL D f.1) n d = some f.2
theorem own_decl {D : List TD} {c n d : ByteArray} {f : FV} (h : ownF D c n d = some f) : f.1 = c ∧ Decl D n d f := by
  unfold ownF at h
  obtain ⟨x, hx, rfl⟩ := Option.map_eq_some_iff.1 h
  obtain ⟨m, h1, _⟩ := mth_some hx
  exact ⟨rfl, (mth_fnd hx).1.1, h1⟩
theorem declF_decl {D : List TD} {c n d : ByteArray} {f : FV} (h : declF D n d c = some f) : Decl D n d f := by
  have hc := declF_class h
  subst hc
  unfold declF at h
  obtain ⟨x, hx, h3⟩ := Option.bind_eq_some_iff.1 h
  split at h3
  · have he : (f.1, x.1) = f := by simpa using h3
    obtain ⟨m, h1, _⟩ := mth_some hx
    have a := (mth_fnd hx).1.1
    exact ⟨a, by rw [h1]; rw [← he]⟩
  · cases h3
theorem chain_self {D : List TD} {c : ByteArray} (h : there D c) : c ∈ chainL D c := by
  unfold there at h
  obtain ⟨k, hk⟩ := Option.isSome_iff_exists.1 h
  obtain ⟨t, ht, _⟩ := atO_some hk
  have h1 : chainL D c = chainR D D.length t.super [c] := chainR_step hk ht (by simp)
  rw [h1]
  exact chainR_pre.subset (by simp)
theorem rest_decl {D : List TD} {c n d : ByteArray} {f : FV} (h : (sglF D c n d).or (fstF D c n d) = some f) : Decl D n d f ∧ subB D c f.1 := by
  have key : f ∈ declL D (allL D c) n d := by
    cases hs : sglF D c n d with
    | some g =>
      rw [hs] at h
      obtain rfl : g = f := by simpa using h
      unfold sglF at hs
      split at hs
      · exact (List.mem_filter.1 (List.mem_filter.1 (List.mem_of_mem_head? hs)).1).1
      · cases hs
    | none =>
      rw [hs] at h
      have h : fstF D c n d = some f := by simpa using h
      exact List.mem_of_mem_head? h
  obtain ⟨h1, h2⟩ := declL_mem key
  exact ⟨declF_decl h2, .inr h1⟩
theorem cls_decl {D : List TD} {c n d : ByteArray} {f : FV} (h : clsF D c n d = some f) : Decl D n d f ∧ subB D c f.1 := by
  unfold clsF at h
  cases hc : chF D c n d with
  | some g =>
    rw [hc] at h
    obtain rfl : g = f := by simpa using h
    unfold chF at hc
    obtain ⟨s, hs, ho⟩ := List.exists_of_findSome?_eq_some hc
    obtain ⟨h1, h2⟩ := own_decl ho
    exact ⟨h2, .inl (h1 ▸ hs)⟩
  | none =>
    rw [hc] at h
    exact rest_decl (by simpa using h)
theorem ifc_decl {D : List TD} {c n d : ByteArray} {f : FV} (h : ifcF D c n d = some f) : Decl D n d f ∧ (subB D c f.1 ∨ f.1 = objB) := by
  unfold ifcF at h
  cases hc : ownF D c n d with
  | some g =>
    rw [hc] at h
    obtain rfl : g = f := by simpa using h
    obtain ⟨h1, h2⟩ := own_decl hc
    exact ⟨h2, .inl (.inl (by rw [h1]; exact chain_self (h1 ▸ h2.th)))⟩
  | none =>
    rw [hc] at h
    cases ho : objF D c n d with
    | some g =>
      rw [ho] at h
      obtain rfl : g = f := by simpa using h
      unfold objF at ho
      obtain ⟨x, hx, h3⟩ := Option.bind_eq_some_iff.1 ho
      split at h3
      · cases h3
      · have he : (objB, x.1) = g := by simpa using h3
        obtain ⟨m, h1, _⟩ := mth_some hx
        subst he
        exact ⟨⟨(mth_fnd hx).1.1, h1⟩, .inr rfl⟩
    | none =>
      rw [ho] at h
      obtain ⟨h1, h2⟩ := rest_decl (D := D) (c := c) (n := n) (d := d) (f := f) (by simpa using h)
      exact ⟨h1, .inl h2⟩
/-- What a search tells: a found, or an error that is not empty. -/
def ErrB (e : ByteArray) : Prop := e.toList.isEmpty = false
theorem nm_err : ErrB nmB := by unfold ErrB nmB; simp [ByteArray.toList_eq]
theorem ch_err : ErrB chB := by unfold ErrB chB; simp [ByteArray.toList_eq]
theorem nf_err : ErrB nfB := by unfold ErrB nfB; simp [ByteArray.toList_eq]
theorem look_cases {P : FV → Prop} {o : Option FV} (h : ∀ f, o = some f → P f) : (∃ f, lookR o = (f, ⟨#[]⟩) ∧ P f) ∨ ∃ e, lookR o = (f0, e) ∧ ErrB e := by
  cases o with
  | some f => exact .inl ⟨f, rfl, h f rfl⟩
  | none => exact .inr ⟨_, rfl, nm_err⟩
theorem try_cases {P : FV → Prop} {D : List TD} {c : ByteArray} {b : Bool} {o : Option FV} (h : ∀ f, o = some f → P f) : (∃ f, tryR D c b o = (f, ⟨#[]⟩) ∧ P f) ∨ ∃ e, tryR D c b o = (f0, e) ∧ ErrB e := by
  unfold tryR
  split
  · split
    · exact look_cases h
    · exact .inr ⟨_, rfl, ch_err⟩
  · exact .inr ⟨_, rfl, nm_err⟩
theorem meth_cases (D : List TD) (c n d : ByteArray) : (∃ f, methR D c n d = (f, ⟨#[]⟩) ∧ Decl D n d f ∧ subB D c f.1) ∨ ∃ e, methR D c n d = (f0, e) ∧ ErrB e := try_cases fun _ h => cls_decl h
theorem face_cases (D : List TD) (c n d : ByteArray) : (∃ f, faceR D c n d = (f, ⟨#[]⟩) ∧ Decl D n d f ∧ (subB D c f.1 ∨ f.1 = objB)) ∨ ∃ e, faceR D c n d = (f0, e) ∧ ErrB e := try_cases fun _ h => ifc_decl h

/-- The list that the law looks into. -/
def listL (D : List TD) (fld : Bool) (s : ByteArray) : List MemberV := if fld then fldL D s else metL D s

end Go.Proofs.Ytccbdnlknijcbaa
