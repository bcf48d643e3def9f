/-
  The document's search by contract: Flags, Real, Object, faces.
-/
import Derived.Test.YtccbdnlknijcbaaFindR2
import Derived.Test.YtccbdnlknijcbaaFind5
import Derived.Test.YtccbdnlknijcbaaFlags
import Derived.Deep.RegionHeld2
namespace Go.Proofs.Ytccbdnlknijcbaa
open Go.RowKit
set_option maxRecDepth 100000

/-- A found that is there. -/
def Fnd (D : List TD) (f : FV) : Prop := there D f.1 ∧ f.2 < (metL D f.1).length
def accM (D : List TD) (f : FV) : Int := ((metL D f.1)[f.2]?.map (·.access)).getD 0
def realM (D : List TD) (l : List FV) : List FV := l.filter fun f => decide (bits .and .i64 (accM D f) 1024 = 0)
theorem mth_fnd {D : List TD} {c n d : ByteArray} {x : Nat × Int} (h : mth D c n d = some x) : Fnd D (c, x.1) ∧ accM D (c, x.1) = x.2 := by
  obtain ⟨m, h1, h2, h3, h4, h5, h6⟩ := mth_some h
  refine ⟨⟨?_, h6⟩, by simp [accM, h2, h3]⟩
  unfold there
  cases ho : atO D c with
  | some k => rfl
  | none =>
    exfalso
    rw [metL_no ho] at h6
    simp at h6
theorem most_fnd {D : List TD} {s n d : ByteArray} {f : FV} (h : f ∈ mostL D s n d) : Fnd D f ∧ accM D f = accF D n d f := by
  have h2 := (declL_mem (List.mem_filter.1 h).1).2
  unfold declF at h2
  obtain ⟨x, hx, h3⟩ := Option.bind_eq_some_iff.1 h2
  split at h3
  · have he : (f.1, x.1) = f := by simpa using h3
    obtain ⟨a, b⟩ := mth_fnd hx
    rw [he] at a b
    exact ⟨a, by rw [b]; simp [accF, hx]⟩
  · cases h3
theorem real_same {D : List TD} {s n d : ByteArray} : realM D (mostL D s n d) = realL D n d (mostL D s n d) := by
  unfold realM realL
  refine List.filter_congr fun f hf => ?_
  rw [(most_fnd hf).2]
  rfl

end Go.Proofs.Ytccbdnlknijcbaa
