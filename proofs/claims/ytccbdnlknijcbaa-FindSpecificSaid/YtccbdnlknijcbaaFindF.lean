/-
  How a field is found, as plain data: no memory, no program.
-/
import Derived.Test.YtccbdnlknijcbaaFind0
namespace Go.Proofs.Ytccbdnlknijcbaa
open Go.RowKit
set_option maxRecDepth 100000

/-- The type that a type extends. -/
def supO (D : List TD) (s : ByteArray) : ByteArray := match atO D s with
  | some k => (D[k]?.map (·.super)).getD ⟨#[]⟩
  | none => ⟨#[]⟩
theorem supO_at {D : List TD} {s : ByteArray} {k : Nat} {t : TD} (h : atO D s = some k) (ht : D[k]? = some t) : supO D s = t.super := by simp [supO, h, ht]
/-- One after the other, till something is found. -/
def eachF (g : ByteArray → List ByteArray → Option FV × List ByteArray) : List ByteArray → List ByteArray → Option FV × List ByteArray
  | [], seen => (none, seen)
  | x :: l, seen => if (g x seen).1.isSome then g x seen else eachF g l (g x seen).2
/-- The document's way, with fuel. -/
def ovF (D : List TD) (n d : ByteArray) : Nat → ByteArray → List ByteArray → Option FV × List ByteArray
  | 0, _, seen => (none, seen)
  | f + 1, s, seen => if ¬ there D s ∨ s ∈ seen then (none, seen) else match memAt (fldL D s) n d with
    | some i => (some (s, i), seen ++ [s])
    | none => eachF (ovF D n d f) (ifs D s ++ [supO D s]) (seen ++ [s])
/-- The field that is found. -/
def fieldL (D : List TD) (s n d : ByteArray) : Option FV := (ovF D n d (D.length + 1) s []).1
/-- The code's way: what is still to be gone over, the next one first; in so many steps. -/
def FR (D : List TD) (n d : ByteArray) : Nat → List ByteArray → List ByteArray → Option FV → Prop
  | _, [], _, R => R = none
  | 0, _ :: _, _, _ => False
  | k + 1, x :: rest, seen, R => if ¬ there D x ∨ x ∈ seen then FR D n d k rest seen R else match memAt (fldL D x) n d with
    | some i => R = some (x, i)
    | none => FR D n d k (ifs D x ++ (supO D x :: rest)) (seen ++ [x]) R

theorem ovF_skip {D : List TD} {n d s : ByteArray} {f : Nat} {seen : List ByteArray} (h : ¬ there D s ∨ s ∈ seen) : ovF D n d f s seen = (none, seen) := by
  cases f with
  | zero => rfl
  | succ f => unfold ovF; rw [if_pos h]
theorem ovF_hit {D : List TD} {n d s : ByteArray} {f i : Nat} {seen : List ByteArray} (h1 : there D s) (h2 : s ∉ seen) (h3 : memAt (fldL D s) n d = some i) : ovF D n d (f + 1) s seen = (some (s, i), seen ++ [s]) := by
  unfold ovF; rw [if_neg (by simp [h1, h2]), h3]
theorem ovF_on {D : List TD} {n d s : ByteArray} {f : Nat} {seen : List ByteArray} (h1 : there D s) (h2 : s ∉ seen) (h3 : memAt (fldL D s) n d = none) : ovF D n d (f + 1) s seen = eachF (ovF D n d f) (ifs D s ++ [supO D s]) (seen ++ [s]) := by
  conv => lhs; unfold ovF
  rw [if_neg (by simp [h1, h2]), h3]
theorem eachF_keep {I : List ByteArray → Prop} {g : ByteArray → List ByteArray → Option FV × List ByteArray} (hg : ∀ x s, I s → I (g x s).2) : ∀ (l s : List ByteArray), I s → I (eachF g l s).2
  | [], _, h => h
  | x :: l, s, h => by
    unfold eachF
    split
    · exact hg x s h
    · exact eachF_keep hg l _ (hg x s h)
structure NmsL (D : List TD) (m : Nat) (seen : List ByteArray) : Prop where
  nms : Nms D seen
  le : m ≤ seen.length
theorem NmsL.push {D : List TD} {m : Nat} {seen : List ByteArray} (h : NmsL D m seen) {s : ByteArray} (h1 : there D s) (h2 : s ∉ seen) : NmsL D (m + 1) (seen ++ [s]) :=
  ⟨h.nms.snoc h1 h2, by have := h.le; simp; omega⟩
theorem NmsL.mono {D : List TD} {m m' : Nat} {seen : List ByteArray} (h : NmsL D m seen) (hm : m' ≤ m) : NmsL D m' seen := ⟨h.nms, Nat.le_trans hm h.le⟩
theorem ovF_nms {D : List TD} {n d : ByteArray} : ∀ {f : Nat} {s : ByteArray} {seen : List ByteArray} {m : Nat}, NmsL D m seen → NmsL D m (ovF D n d f s seen).2
  | 0, _, _, _, h => h
  | f + 1, s, seen, m, h => by
    by_cases h1 : ¬ there D s ∨ s ∈ seen
    · rw [ovF_skip h1]; exact h
    · have h1' : there D s ∧ s ∉ seen := by simpa using h1
      cases h3 : memAt (fldL D s) n d with
      | some i => rw [ovF_hit h1'.1 h1'.2 h3]; exact (h.push h1'.1 h1'.2).mono (by omega)
      | none =>
        rw [ovF_on h1'.1 h1'.2 h3]
        exact (eachF_keep (I := NmsL D (m + 1)) (fun x s hI => ovF_nms hI) _ _ (h.push h1'.1 h1'.2)).mono (by omega)

theorem FR_skip {D : List TD} {n d x : ByteArray} {k : Nat} {rest seen : List ByteArray} {R : Option FV} (h : ¬ there D x ∨ x ∈ seen) (hr : FR D n d k rest seen R) : FR D n d (k + 1) (x :: rest) seen R := by
  unfold FR; rw [if_pos h]; exact hr
theorem FR_hit {D : List TD} {n d x : ByteArray} {i : Nat} {rest seen : List ByteArray} (h1 : there D x) (h2 : x ∉ seen) (h3 : memAt (fldL D x) n d = some i) : FR D n d 1 (x :: rest) seen (some (x, i)) := by
  unfold FR; rw [if_neg (by simp [h1, h2]), h3]
theorem FR_on {D : List TD} {n d x : ByteArray} {k : Nat} {rest seen : List ByteArray} {R : Option FV} (h1 : there D x) (h2 : x ∉ seen) (h3 : memAt (fldL D x) n d = none) (hr : FR D n d k (ifs D x ++ (supO D x :: rest)) (seen ++ [x]) R) : FR D n d (k + 1) (x :: rest) seen R := by
  unfold FR; rw [if_neg (by simp [h1, h2]), h3]; exact hr
/-- One that is gone over leads on to the rest. -/
def Leads (D : List TD) (n d : ByteArray) (l seen : List ByteArray) (r : Option FV × List ByteArray) : Prop :=
  (∀ v, r.1 = some v → ∀ rest, ∃ k, FR D n d k (l ++ rest) seen (some v)) ∧ (r.1 = none → ∀ rest k R, FR D n d k rest r.2 R → ∃ k', FR D n d k' (l ++ rest) seen R)
theorem each_leads {D : List TD} {n d : ByteArray} {g : ByteArray → List ByteArray → Option FV × List ByteArray} {m : Nat} (hk : ∀ x s, NmsL D m s → NmsL D m (g x s).2) (hg : ∀ x s, NmsL D m s → Leads D n d [x] s (g x s)) : ∀ (l s : List ByteArray), NmsL D m s → Leads D n d l s (eachF g l s)
  | [], s, _ => ⟨fun v h => (by cases h), fun _ rest k R h => ⟨k, h⟩⟩
  | x :: l, s, h => by
    unfold eachF
    obtain ⟨a1, a2⟩ := hg x s h
    split
    · rename_i hs
      refine ⟨fun v hv rest => ?_, fun hn => by rw [hn] at hs; cases hs⟩
      exact a1 v hv (l ++ rest)
    · rename_i hs
      have hn : (g x s).1 = none := by simpa using hs
      obtain ⟨b1, b2⟩ := each_leads hk hg l _ (hk x s h)
      refine ⟨fun v hv rest => ?_, fun hv rest k R hr => ?_⟩
      · obtain ⟨k, hk'⟩ := b1 v hv rest
        exact a2 hn _ _ _ hk'
      · obtain ⟨k', hk'⟩ := b2 hv rest k R hr
        exact a2 hn _ _ _ hk'
theorem ovF_leads {D : List TD} {n d : ByteArray} : ∀ {f : Nat} {s : ByteArray} {seen : List ByteArray} {m : Nat}, NmsL D m seen → D.length + 1 ≤ f + m → Leads D n d [s] seen (ovF D n d f s seen)
  | 0, s, seen, m, h, hl => by
    have := h.nms.le; have := h.le; omega
  | f + 1, s, seen, m, h, hl => by
    by_cases h1 : ¬ there D s ∨ s ∈ seen
    · rw [ovF_skip h1]
      exact ⟨fun v hv => (by cases hv), fun _ rest k R hr => ⟨k + 1, FR_skip h1 hr⟩⟩
    · have h1' : there D s ∧ s ∉ seen := by simpa using h1
      cases h3 : memAt (fldL D s) n d with
      | some i =>
        rw [ovF_hit h1'.1 h1'.2 h3]
        exact ⟨fun v hv rest => ⟨1, by cases hv; exact FR_hit h1'.1 h1'.2 h3⟩, fun hv => by cases hv⟩
      | none =>
        rw [ovF_on h1'.1 h1'.2 h3]
        obtain ⟨b1, b2⟩ := each_leads (m := m + 1) (fun x s hI => ovF_nms hI) (fun x s hI => ovF_leads (f := f) hI (by omega)) (ifs D s ++ [supO D s]) _ (h.push h1'.1 h1'.2)
        refine ⟨fun v hv rest => ?_, fun hv rest k R hr => ?_⟩
        · obtain ⟨k, hk⟩ := b1 v hv rest
          exact ⟨k + 1, FR_on h1'.1 h1'.2 h3 (by simpa using hk)⟩
        · obtain ⟨k', hk'⟩ := b2 hv rest k R hr
          exact ⟨k' + 1, FR_on h1'.1 h1'.2 h3 (by simpa using hk')⟩
/-- The code's way finds what the document's does. -/
theorem field_steps (D : List TD) (s n d : ByteArray) : ∃ k, FR D n d k [s] [] (fieldL D s n d) := by
  obtain ⟨a1, a2⟩ := ovF_leads (D := D) (n := n) (d := d) (f := D.length + 1) (s := s) (seen := []) (m := 0) ⟨Nms.nil D, Nat.le_refl _⟩ (by omega)
  cases h : fieldL D s n d with
  | some v => exact a1 v h []
  | none => exact a2 h [] 0 none rfl
/-- What is found is declared there. -/
theorem eachF_some {P : FV → Prop} {g : ByteArray → List ByteArray → Option FV × List ByteArray} (hg : ∀ x s v, (g x s).1 = some v → P v) : ∀ (l s : List ByteArray) (v : FV), (eachF g l s).1 = some v → P v
  | [], _, _, h => by cases h
  | x :: l, s, v, h => by
    unfold eachF at h
    split at h
    · exact hg x s v h
    · exact eachF_some hg l _ v h
theorem ovF_some {D : List TD} {n d : ByteArray} : ∀ {f : Nat} {s : ByteArray} {seen : List ByteArray} {v : FV}, (ovF D n d f s seen).1 = some v → there D v.1 ∧ memAt (fldL D v.1) n d = some v.2
  | 0, _, _, _, h => by cases h
  | f + 1, s, seen, v, h => by
    by_cases h1 : ¬ there D s ∨ s ∈ seen
    · rw [ovF_skip h1] at h; cases h
    · have h1' : there D s ∧ s ∉ seen := by simpa using h1
      cases h3 : memAt (fldL D s) n d with
      | some i => rw [ovF_hit h1'.1 h1'.2 h3] at h; cases h; exact ⟨h1'.1, h3⟩
      | none =>
        rw [ovF_on h1'.1 h1'.2 h3] at h
        exact eachF_some (P := fun v => there D v.1 ∧ memAt (fldL D v.1) n d = some v.2) (fun x s v hv => ovF_some hv) _ _ v h
end Go.Proofs.Ytccbdnlknijcbaa
