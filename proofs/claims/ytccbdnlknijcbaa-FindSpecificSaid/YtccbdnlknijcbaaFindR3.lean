/-
  The document's search by contract: over (fields).
-/
import Derived.Test.YtccbdnlknijcbaaFindR1
import Derived.Test.YtccbdnlknijcbaaFindF
import Derived.Test.YtccbdnlknijcbaaFind4
import Derived.Test.YtccbdnlknijcbaaRef9
namespace Go.Proofs.Ytccbdnlknijcbaa
open Go.RowKit
set_option maxRecDepth 100000

/-- What over tells. -/
def ovV (o : Option FV) (vs : Value) : Value := .tuple #[.agg #[.string (o.getD f0).1, .int .i64 (o.getD f0).2], .bool o.isSome, vs]
def OvPost (w : World) (r : Option FV × List ByteArray) (e : Ending) (w' : World) : Prop := ∃ vs', e = .returned (ovV r.1 vs') ∧ Row w' 0 9 1 vs' r.2.length (r.2.flatMap encS) ∧ Kept w w'
theorem each_end (g : ByteArray → List ByteArray → Option FV × List ByteArray) (x : ByteArray) (s : List ByteArray) : eachF g [x] s = g x s := by
  unfold eachF
  split
  · rfl
  · rename_i h
    have hn : (g x s).1 = none := by simpa using h
    unfold eachF
    rw [← hn]
theorem each_hit {g : ByteArray → List ByteArray → Option FV × List ByteArray} {l l' : List ByteArray} {i : Nat} {x : ByteArray} {s : List ByteArray} {v : FV} (hx : l[i]? = some x) (hg : (g x s).1 = some v) : eachF g (l.drop i ++ l') s = g x s := by
  have hl := (List.getElem?_eq_some_iff.1 hx).1
  rw [List.drop_eq_getElem_cons hl, List.cons_append, (List.getElem?_eq_some_iff.1 hx).2]
  unfold eachF
  rw [if_pos (by simp [hg])]
theorem each_go {g : ByteArray → List ByteArray → Option FV × List ByteArray} {l l' : List ByteArray} {i : Nat} {x : ByteArray} {s : List ByteArray} (hx : l[i]? = some x) (hg : (g x s).1 = none) : eachF g (l.drop i ++ l') s = eachF g (l.drop (i + 1) ++ l') (g x s).2 := by
  have hl := (List.getElem?_eq_some_iff.1 hx).1
  rw [List.drop_eq_getElem_cons hl, List.cons_append, (List.getElem?_eq_some_iff.1 hx).2]
  conv => lhs; unfold eachF
  rw [if_neg (by simp [hg])]

theorem row_ne {w : World} {base e sz n : Nat} {v : Value} {xs : List Value} {g t : Nat} {cs : Array Value} (h : Row w base e sz v n xs) (hg : Blk w g t cs) (hne : e ≠ t) : ∀ k, v.ownBlock = some k → k ≠ g := by
  intro k hk
  rcases h.2 with ⟨rfl, _⟩ | ⟨g', cap, cur, rfl, _, hh, _⟩
  · cases hk
  · have : g' = k := by simpa [Value.ownBlock] using hk
    subst this
    exact Blk.ne_ (t := e) hh hg hne
/-- A row of texts is as it was behind a store into a found. -/
theorem row_put {w : World} {base sz n r : Nat} {v a b : Value} {xs : List Value} (h : Row w base 9 sz v n xs) (hb : Blk w r 37 #[a, b]) (u u' : Value) : Row ((w.setCell ⟨r, 0, none⟩ u).setCell ⟨r, 1, none⟩ u') base 9 sz v n xs :=
  h.touch (S := fun k => k = r) (((Touch.refl (fun k => k = r) w).setCell (p := ⟨r, 0, none⟩) (.inl rfl) u).setCell (p := ⟨r, 1, none⟩) (.inl rfl) u') (fun k hk => row_ne h hb (by decide) k hk)

end Go.Proofs.Ytccbdnlknijcbaa
