/-
  m[k]++ in a region that draws its order: the entry, the lookup, the store. No function of the program in sight.
-/
import Derived.Test.YtcklmhbcjgiplaaDict
import Derived.WideKeyEntry
import Derived.Maps.Own
namespace Go.Proofs.Ytcklmhbcjgiplaa
set_option linter.unusedVariables false
set_option linter.unusedSimpArgs false
open Go.RowKit Go.MapKept
open Go.Maps (Keyed)
open Go.ChangeMaps
open Go.WideElems (Fit entry_then_store)
section
variable {H : Type} {P : Program} {w : World} {t k e : TypeId} {R : Value → Option (DataW H × List MemPlace)} {b : Nat} {es : Array MapEntry} {clock : Nat}
theorem setBlock_self {o : Obj} (h : w.heap[b]? = some o) : setBlock w b o = w := by
  obtain ⟨hl, he⟩ := Array.getElem?_eq_some_iff.1 h
  unfold setBlock
  have : w.heap.setIfInBounds b o = w.heap := by
    apply Array.ext_getElem?
    intro i
    rw [Array.getElem?_setIfInBounds]
    by_cases hi : b = i
    · subst hi
      simp [hl, he]
    · simp [hi]
  rw [this]
theorem setBlock_twice {o o' : Obj} : setBlock (setBlock w b o) b o' = setBlock w b o' := by
  unfold setBlock
  simp
theorem entry_here (K : Keyed P k) (ht : P.underlying t = some (.map k e)) {z : Value} (hz : ∀ u : World, (zeroValue e).run P u = .ok z u) (hb : w.heap[b]? = some (.map es clock)) (F : Fit P k R es clock)
    {key : Value} {kl : Lit} (hkey : keyOf P k key = some kl) :
    ∃ v w1, (Instr.mapEntry t (.map (some b)) key).run P w = .ok v w1 ∧ ∀ u, (Instr.lookup t (.map (some b)) key false).run P w = .ok u w → (Instr.lookup t (.map (some b)) key false).run P w1 = .ok u w1 := by
  rcases K.find w hkey es.toList F.keys with ⟨h1, h2⟩ | ⟨j, e0, h1, h2, h3⟩
  · refine ⟨_, setBlock w b (.map (es.push ⟨key, z, clock⟩) (clock + 1)), by simp [Instr.mapEntry, run_underlying ht, MapKept.run_getObj_map hb, K.check w false hkey, h1, hz, MapKept.run_setObj_map _ hb, Result.andThen, setBlock]; rfl, fun u hu => ?_⟩
    have hu' : u = z := by
      simp [Instr.lookup, run_underlying ht, MapKept.run_getObj_map hb, K.check w _ hkey, h1, hz, Result.andThen] at hu
      exact hu.symm
    subst hu'
    have hb1 : (setBlock w b (.map (es.push ⟨key, u, clock⟩) (clock + 1))).heap[b]? = some (.map (es.push ⟨key, u, clock⟩) (clock + 1)) := heap_setBlock_same hb _
    generalize setBlock w b (.map (es.push ⟨key, u, clock⟩) (clock + 1)) = w1 at *
    rcases K.find w1 hkey (es.push ⟨key, u, clock⟩).toList (by
      intro x hx
      simp only [Array.toList_push, List.mem_append, List.mem_singleton] at hx
      rcases hx with hx | rfl
      · exact F.keys x hx
      · exact ⟨_, hkey⟩) with ⟨-, g2⟩ | ⟨j, e0, g1, g2, g3⟩
    · exact absurd rfl (g2 ⟨key, u, clock⟩ (by simp))
    · have hv : e0.val = u := by
        have hm := List.mem_of_getElem? g2
        simp only [Array.toList_push, List.mem_append, List.mem_singleton] at hm
        rcases hm with hm | rfl
        · exact absurd g3 (h2 e0 hm)
        · rfl
      simp only [Array.toList_push] at g1
      simp [Instr.lookup, run_underlying ht, MapKept.run_getObj_map hb1, K.check w1 _ hkey, g1, Result.andThen, hv]
  · have hj : es[j]? = some e0 := by simpa using h2
    have hsame : es.modify j (fun e => { e with key := key }) = es := by
      apply Array.ext'
      rw [Array.toList_modify, modify_eq_set _ _ _ _ h2]
      have : ({ e0 with key := key } : MapEntry) = e0 := by rw [← h3]
      rw [this]
      exact Go.WideElems.set_self _ _ _ h2
    refine ⟨.tuple #[e0.val, goInt e0.born], w, ?_, fun u hu => hu⟩
    have h9 : (Instr.mapEntry t (.map (some b)) key).run P w = .ok (.tuple #[e0.val, goInt e0.born]) (setBlock w b (.map es clock)) := by
      simp [Instr.mapEntry, run_underlying ht, MapKept.run_getObj_map hb, K.check w false hkey, h1, hj, h3, K.stays w hkey, hsame, MapKept.run_setObj_map _ hb, Result.andThen, setBlock]
    rw [setBlock_self hb] at h9
    exact h9
end
section
variable {α : Type} {P : Program} {k : TypeId} {enc : α → Value} {w w' : World} {b n : Nat} {f : α → Option Value}
/-- 'm[k] op= v', taken apart: the entry; what it holds can still be looked up; the store. -/
theorem Dict.entry [DecidableEq α] {t e : TypeId} (h : Dict P k enc w b n f) (L : Go.WideMaps.KeyLaw P k) (K : Keyed P k) (ht : P.underlying t = some (.map k e)) {z : Value} (hz : ∀ u : World, (zeroValue e).run P u = .ok z u) (hn : n < maxLen) {a : α} {l : Lit} (hkey : keyOf P k (enc a) = some l) (hinj : ∀ a', enc a' = enc a → a' = a) :
    ∃ v0 st w1, (Instr.mapEntry t (.map (some b)) (enc a)).run P w = .ok (.tuple #[v0, goInt st]) w1 ∧ (Instr.lookup t (.map (some b)) (enc a) false).run P w1 = .ok ((f a).getD z) w1 ∧ w.grownBy w1 (some b) ∧
      ∀ v, ∃ w2, (Instr.entryStore t (.map (some b)) (goInt st) v).run P w1 = .ok () w2 ∧ Dict P k enc w2 b (n + 1) (fun x => if x = a then some v else f x) ∧ w.grownBy w2 (some b) := by
  have hlook := h.look K ht (hz w) hkey
  have hst := fun v => h.store K ht hn hkey hinj v
  obtain ⟨D, ⟨es, clock, hb, F, hs, hD⟩, hf⟩ := h
  obtain ⟨v0, st, es1, clock1, h1, -, h3⟩ := entry_then_store L ht hz hb F hkey
  obtain ⟨v, w1, g1, g2⟩ := entry_here K ht hz hb F hkey
  rw [h1] at g1
  injection g1 with g3 g4
  subst g4
  refine ⟨v0, st, _, h1, g2 _ hlook, ⟨rfl, rfl, rfl, by simp [setBlock], fun i _ hi => heap_setBlock_other hb _ (fun e => hi (by rw [e]))⟩, fun v => ?_⟩
  obtain ⟨w2, hrun, hd, hg⟩ := hst v
  obtain ⟨es', clock', k1, k2⟩ := h3 _ v (heap_setBlock_same hb _)
  rw [k2] at hrun
  injection hrun with _ e2
  rw [setBlock_twice, e2] at k1
  exact ⟨w2, k1, hd, hg⟩
end
end Go.Proofs.Ytcklmhbcjgiplaa
