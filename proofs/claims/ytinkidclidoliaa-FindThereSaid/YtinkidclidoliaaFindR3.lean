/-
  The document's search by contract: over (fields).
-/
import Derived.Test.YtinkidclidoliaaFindR1
import Derived.Test.YtinkidclidoliaaFindF
import Derived.Test.YtinkidclidoliaaFind4
import Derived.Test.YtinkidclidoliaaRef9
namespace Go.Proofs.Ytinkidclidoliaa
open Go.RowKit
set_option maxRecDepth 100000

/-- What over tells. -/
def ovV (o : Option FV) (vs : Value) : Value := .tuple #[.agg #[.string (o.getD f0).1, .int .i64 (o.getD f0).2], .bool o.isSome, vs]
def OvPost (w : World) (r : Option FV × List ByteArray) (e : Ending) (w' : World) : Prop := ∃ vs', e = .returned (ovV r.1 vs') ∧ Row w' 0 9 1 vs' r.2.length (r.2.flatMap encS) ∧ Kept w w'
theorem each_end (g : ByteArray → List ByteArray → Option FV × List ByteArray) (x : ByteArray) (s : List ByteArray) : eachF g [x] s = g x s := by
  unfold eachF
  split
  · rfl
  · rename_i h
    have hn : (g x s).1 = none := by simpa using h
    unfold eachF
    rw [← hn]
theorem each_hit {g : ByteArray → List ByteArray → Option FV × List ByteArray} {l l' : List ByteArray} {i : Nat} {x : ByteArray} {s : List ByteArray} {v : FV} (hx : l[i]? = some x) (hg : (g x s).1 = some v) : eachF g (l.drop i ++ l') s = g x s := by
  have hl := (List.getElem?_eq_some_iff.1 hx).1
  rw [List.drop_eq_getElem_cons hl, List.cons_append, (List.getElem?_eq_some_iff.1 hx).2]
  unfold eachF
  rw [if_pos (by simp [hg])]
theorem each_go {g : ByteArray → List ByteArray → Option FV × List ByteArray} {l l' : List ByteArray} {i : Nat} {x : ByteArray} {s : List ByteArray} (hx : l[i]? = some x) (hg : (g x s).1 = none) : eachF g (l.drop i ++ l') s = eachF g (l.drop (i + 1) ++ l') (g x s).2 := by
  have hl := (List.getElem?_eq_some_iff.1 hx).1
  rw [List.drop_eq_getElem_cons hl, List.cons_append, (List.getElem?_eq_some_iff.1 hx).2]
  conv => lhs; unfold eachF
  rw [if_neg (by simp [hg])]

theorem row_ne {w : World} {base e sz n : Nat} {v : Value} {xs : List Value} {g t : Nat} {cs : Array Value} (h : Row w base e sz v n xs) (hg : Blk w g t cs) (hne : e ≠ t) : ∀ k, v.ownBlock = some k → k ≠ g := by
  intro k hk
  rcases h.2 with ⟨rfl, _⟩ | ⟨g', cap, cur, rfl, _, hh, _⟩
  · cases hk
  · have : g' = k := by simpa [Value.ownBlock] using hk
    subst this
    exact Blk.ne_ (t := e) hh hg hne
/-- A row of texts is as it was behind a store into a found. -/
theorem row_put {w : World} {base sz n r : Nat} {v a b : Value} {xs : List Value} (h : Row w base 9 sz v n xs) (hb : Blk w r 30 #[a, b]) (u u' : Value) : Row ((w.setCell ⟨r, 0, none⟩ u).setCell ⟨r, 1, none⟩ u') base 9 sz v n xs :=
  h.touch (S := fun k => k = r) (((Touch.refl (fun k => k = r) w).setCell (p := ⟨r, 0, none⟩) (.inl rfl) u).setCell (p := ⟨r, 1, none⟩) (.inl rfl) u') (fun k hk => row_ne h hb (by decide) k hk)

set_option maxHeartbeats 4000000 in
theorem over12_skip (D : List TD) (f : Nat) (c0 n d name : ByteArray) (seen : List ByteArray) (v vs : Value) (w : World) (h : TyR w v D) (hs : Row w 0 9 1 vs seen.length (seen.flatMap encS)) (hsl : seen.length ≤ 100) (hsk : ¬ there D name ∨ name ∈ seen) :
    Calls Try.prog 54 #[v, .string name, .agg #[.string c0, .string n, .string d], vs] w (OvPost w (ovF D n d f name seen)) := by
  rw [ovF_skip hsk]
  have H := Lib.hid h
  have HSN := Lib.hid hs
  obtain ⟨as_, cs_, rfl, -, -⟩ := hs.form
  have k0 : Kept w ((w.alloc (.cells #[.string c0, .string n, .string d] 24)).alloc (.cells #[.string ⟨#[]⟩, .int .i64 0] 30)) := ((Below.refl _ _).alloc (Nat.le_refl _) _).alloc (by simp) _
  have b1 : Blk ((w.alloc (.cells #[.string c0, .string n, .string d] 24)).alloc (.cells #[.string ⟨#[]⟩, .int .i64 0] 30)) (w.heap.size + 1) 30 #[.string ⟨#[]⟩, .int .i64 0] := Blk.at_ (by simp)
  have CA := Lib.hid (ref9_At D name v _ (h.kept k0))
  have CH := Lib.hid (ref9_Has seen name _ seen.length _ rfl (hs.kept k0).rd (by omega))
  have K0 := Lib.hid k0
  have PF := fnd_put b1
  have g0 := PF.g0
  have g1 := PF.g1
  have h0 := PF.h0
  have h1 := PF.h1
  have zr := PF.lt
  have KP := Lib.hid (PF.keeps k0 (Nat.le_succ _))
  have E0 := Lib.hid (PF.e0 (.string ⟨#[]⟩))
  have E1 := Lib.hid (PF.e1 (.string ⟨#[]⟩) (.int .i64 0))
  have PE := Lib.hid (fnd_put (PF.set (.string ⟨#[]⟩) (.int .i64 0)))
  clear PF h hs k0 b1
  have fin : ∀ (W : World) (hW : W = ((w.alloc (.cells #[.string c0, .string n, .string d] 24)).alloc (.cells #[.string ⟨#[]⟩, .int .i64 0] 30))), OvPost w (none, seen) (.returned (ovV none (.slice as_ seen.length cs_))) ((W.setCell ⟨w.heap.size + 1, 0, none⟩ (.string ⟨#[]⟩)).setCell ⟨w.heap.size + 1, 1, none⟩ (.int .i64 0)) := by
    intro W hW
    subst hW
    exact ⟨_, rfl, HSN.out.kept (KP.out _ _), KP.out _ _⟩
  have FIN := Lib.hid (fin _ rfl)
  clear fin
  by_cases ht : there D name
  · have hin : name ∈ seen := by rcases hsk with h | h; exact absurd ht h; exact h
    unfold there at ht
    obtain ⟨ka, hka⟩ := Option.isSome_iff_exists.1 ht
    have CA := CA.out
    rw [atI_some hka] at CA
    have CH := CH.out
    rw [decide_eq_true hin] at CH
    clear hin hka ht hsk
    go_enter Try.func54, Try.ntmps54
    go_wp2_with fail
    generalize ((w.alloc (.cells #[.string c0, .string n, .string d] 24)).alloc (.cells #[.string ⟨#[]⟩, .int .i64 0] 30)) = W at *
    refine CA.mono ?_
    rintro e w1 ⟨rfl, rfl⟩
    clear CA
    go_wp2_with fail
    refine CH.mono ?_
    rintro e w1 ⟨rfl, rfl⟩
    clear CH
    go_wp2_with fail
    refine bodyPost_ret (v := ovV none (.slice as_ seen.length cs_)) (by simp [results, Try.results54, go_sem, E0.out, E1.out, PE.out.g0, PE.out.g1, ovV, f0]) rfl FIN.out
  · have hno : atO D name = none := by unfold there at ht; simpa using ht
    have CA := CA.out
    rw [atI_none hno] at CA
    generalize decide (name ∈ seen) = q at *
    clear hno ht hsk
    go_enter Try.func54, Try.ntmps54
    go_wp2_with fail
    generalize ((w.alloc (.cells #[.string c0, .string n, .string d] 24)).alloc (.cells #[.string ⟨#[]⟩, .int .i64 0] 30)) = W at *
    refine CA.mono ?_
    rintro e w1 ⟨rfl, rfl⟩
    clear CA
    go_wp2_with fail
    refine CH.out.mono ?_
    rintro e w1 ⟨rfl, rfl⟩
    clear CH
    go_wp2_with fail
    refine bodyPost_ret (v := ovV none (.slice as_ seen.length cs_)) (by simp [results, Try.results54, go_sem, E0.out, E1.out, PE.out.g0, PE.out.g1, ovV, f0]) rfl FIN.out
end Go.Proofs.Ytinkidclidoliaa
