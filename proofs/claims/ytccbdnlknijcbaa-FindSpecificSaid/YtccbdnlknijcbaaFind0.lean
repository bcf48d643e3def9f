/-
  Who declares a method, as plain data: no memory, no program.
-/
import Derived.Test.YtccbdnlknijcbaaKin0
namespace Go.Proofs.Ytccbdnlknijcbaa
open Go.RowKit
set_option maxRecDepth 100000

/-- The place of the first member of a name and a descriptor. -/
def memAt : List MemberV → ByteArray → ByteArray → Option Nat
  | [], _, _ => none
  | m :: l, n, d => if m.name = n ∧ m.desc = d then some 0 else (memAt l n d).map (· + 1)
def memI (l : List MemberV) (n d : ByteArray) : Int := match memAt l n d with
  | some k => k
  | none => -1
theorem memI_some {l : List MemberV} {n d : ByteArray} {k : Nat} (h : memAt l n d = some k) : memI l n d = k := by simp [memI, h]
theorem memI_none {l : List MemberV} {n d : ByteArray} (h : memAt l n d = none) : memI l n d = -1 := by simp [memI, h]
theorem memAt_some : ∀ {l : List MemberV} {n d : ByteArray} {k : Nat}, memAt l n d = some k → ∃ m, l[k]? = some m ∧ m.name = n ∧ m.desc = d ∧ k < l.length
  | [], _, _, _, h => by simp [memAt] at h
  | x :: l, n, d, k, h => by
    unfold memAt at h
    split at h
    · rename_i he
      obtain rfl : 0 = k := by simpa using h
      exact ⟨x, rfl, he.1, he.2, by simp⟩
    · rw [Option.map_eq_some_iff] at h
      obtain ⟨j, hj, rfl⟩ := h
      obtain ⟨m, h1, h2, h3, h4⟩ := memAt_some hj
      exact ⟨m, by simpa using h1, h2, h3, by simp; omega⟩
theorem memAt_first : ∀ {l : List MemberV} {n d : ByteArray} {k : Nat} {m : MemberV}, l[k]? = some m → m.name = n → m.desc = d → (∀ (j : Nat) (m' : MemberV), j < k → l[j]? = some m' → ¬ (m'.name = n ∧ m'.desc = d)) → memAt l n d = some k
  | [], _, _, _, _, h, _, _, _ => by simp at h
  | x :: l, n, d, 0, m, h, h1, h2, _ => by
    obtain rfl : x = m := by simpa using h
    simp [memAt, h1, h2]
  | x :: l, n, d, k + 1, m, h, h1, h2, hf => by
    have hx := hf 0 x (by omega) rfl
    have := memAt_first (l := l) (k := k) (by simpa using h) h1 h2 (fun j m' hj hm => hf (j + 1) m' (by omega) (by simpa using hm))
    unfold memAt
    rw [if_neg hx, this]
    rfl
theorem memAt_no : ∀ {l : List MemberV} {n d : ByteArray}, (∀ (j : Nat) (m' : MemberV), l[j]? = some m' → ¬ (m'.name = n ∧ m'.desc = d)) → memAt l n d = none
  | [], _, _, _ => rfl
  | x :: l, n, d, h => by
    have h1 := h 0 x rfl
    unfold memAt
    rw [if_neg h1, memAt_no (l := l) (fun j m' hm => h (j + 1) m' (by simpa using hm))]
    rfl

/-- A found method: its class, its place. -/
abbrev FV := ByteArray × Nat
def encF (f : FV) : List Value := [.string f.1, .int .i64 f.2]
def fagg (f : FV) : Value := .agg #[.string f.1, .int .i64 f.2]
def f0 : FV := (⟨#[]⟩, 0)
/-- The methods and the fields of a type of a name. -/
def metL (D : List TD) (s : ByteArray) : List MemberV := match atO D s with
  | some k => (D[k]?.map (·.methods)).getD []
  | none => []
def fldL (D : List TD) (s : ByteArray) : List MemberV := match atO D s with
  | some k => (D[k]?.map (·.fields)).getD []
  | none => []
theorem metL_at {D : List TD} {s : ByteArray} {k : Nat} {t : TD} (h : atO D s = some k) (ht : D[k]? = some t) : metL D s = t.methods := by simp [metL, h, ht]
theorem metL_no {D : List TD} {s : ByteArray} (h : atO D s = none) : metL D s = [] := by simp [metL, h]
theorem fldL_at {D : List TD} {s : ByteArray} {k : Nat} {t : TD} (h : atO D s = some k) (ht : D[k]? = some t) : fldL D s = t.fields := by simp [fldL, h, ht]
theorem fldL_no {D : List TD} {s : ByteArray} (h : atO D s = none) : fldL D s = [] := by simp [fldL, h]
/-- The method that a type declares: its place, its flags. -/
def mth (D : List TD) (c n d : ByteArray) : Option (Nat × Int) := (memAt (metL D c) n d).map fun i => (i, ((metL D c)[i]?.map (·.access)).getD 0)
theorem mth_no {D : List TD} {c n d : ByteArray} (h : memAt (metL D c) n d = none) : mth D c n d = none := by simp [mth, h]
theorem mth_at {D : List TD} {c n d : ByteArray} {i : Nat} {m : MemberV} (h : memAt (metL D c) n d = some i) (hm : (metL D c)[i]? = some m) : mth D c n d = some (i, m.access) := by simp [mth, h, hm]
theorem mth_some {D : List TD} {c n d : ByteArray} {x : Nat × Int} (h : mth D c n d = some x) : ∃ m, memAt (metL D c) n d = some x.1 ∧ (metL D c)[x.1]? = some m ∧ m.access = x.2 ∧ m.name = n ∧ m.desc = d ∧ x.1 < (metL D c).length := by
  unfold mth at h
  obtain ⟨i, hi, rfl⟩ := Option.map_eq_some_iff.1 h
  obtain ⟨m, h1, h2, h3, h4⟩ := memAt_some hi
  exact ⟨m, hi, h1, by simp [h1], h2, h3, h4⟩
/-- Those of some types' methods of a name that are neither private nor static. -/
def declF (D : List TD) (n d : ByteArray) (c : ByteArray) : Option FV := (mth D c n d).bind fun x => if bits .and .i64 x.2 10 = 0 then some (c, x.1) else none
def declL (D : List TD) (ts : List ByteArray) (n d : ByteArray) : List FV := ts.filterMap (declF D n d)
theorem declF_class {D : List TD} {n d c : ByteArray} {f : FV} (h : declF D n d c = some f) : f.1 = c := by
  unfold declF at h
  obtain ⟨x, hx, h⟩ := Option.bind_eq_some_iff.1 h
  split at h
  · obtain rfl : (c, x.1) = f := by simpa using h
    rfl
  · cases h
theorem declL_len (D : List TD) (ts : List ByteArray) (n d : ByteArray) : (declL D ts n d).length ≤ ts.length := List.length_filterMap_le _ _
theorem declL_snoc (D : List TD) (ts : List ByteArray) (n d x : ByteArray) : declL D (ts ++ [x]) n d = declL D ts n d ++ (declF D n d x).toList := by
  unfold declL
  rw [List.filterMap_append]
  cases h : declF D n d x <;> simp [h]
theorem declL_mem {D : List TD} {ts : List ByteArray} {n d : ByteArray} {f : FV} (h : f ∈ declL D ts n d) : f.1 ∈ ts ∧ declF D n d f.1 = some f := by
  unfold declL at h
  obtain ⟨c, hc, hf⟩ := List.mem_filterMap.1 h
  obtain rfl := declF_class hf
  exact ⟨hc, hf⟩
/-- Of types that are all unlike, the founds are of unlike classes. -/
theorem declL_nodup {D : List TD} {ts : List ByteArray} {n d : ByteArray} (h : ts.Nodup) : (declL D ts n d).Pairwise fun f g => f.1 ≠ g.1 := by
  unfold declL
  rw [List.pairwise_filterMap]
  refine List.Pairwise.imp (fun {a b} hne f hf g hg => ?_) h
  rw [declF_class hf, declF_class hg]
  exact hne
/-- Is a found below another one of a list? -/
def under (D : List TD) (f g : FV) : Bool := decide (f ≠ g) && decide (subB D g.1 f.1)
def best (D : List TD) (all : List FV) (f : FV) : Bool := !(all.any (under D f))
/-- The maximally specific ones among a type's superinterfaces. -/
def mostL (D : List TD) (s n d : ByteArray) : List FV := (declL D (allL D s) n d).filter (best D (declL D (allL D s) n d))
end Go.Proofs.Ytccbdnlknijcbaa
