/-
  Who is above whom, as plain data: lists of types; no memory, no program.
-/
import Derived.Test.YtcklmhbcjgiplaaOpenType
namespace Go.Proofs.Ytcklmhbcjgiplaa
set_option linter.unusedVariables false
set_option linter.unusedSimpArgs false
open Go.RowKit
set_option maxRecDepth 100000

/-- A type as plain data. -/
structure TD where
  name : ByteArray
  super : ByteArray
  access : Int
  interfaces : List ByteArray
  fields : List MemberV
  methods : List MemberV
def TypeV.d (t : TypeV) : TD := ⟨t.name, t.super, t.access, t.interfaces, t.fields, t.methods⟩

instance memDec (s : ByteArray) (l : List ByteArray) : Decidable (s ∈ l) := @List.instDecidableMemOfLawfulBEq _ instBEqOfDecidableEq _ s l

/-- The place of the first type of a name. -/
def atO : List TD → ByteArray → Option Nat
  | [], _ => none
  | t :: D, s => if t.name = s then some 0 else (atO D s).map (· + 1)
def atI (D : List TD) (s : ByteArray) : Int := match atO D s with
  | some k => k
  | none => -1
def there (D : List TD) (s : ByteArray) : Prop := (atO D s).isSome = true
instance (D : List TD) (s : ByteArray) : Decidable (there D s) := inferInstanceAs (Decidable (_ = true))

theorem atO_some : ∀ {D : List TD} {s : ByteArray} {k : Nat}, atO D s = some k → ∃ t, D[k]? = some t ∧ t.name = s ∧ k < D.length
  | [], s, k, h => by simp [atO] at h
  | t :: D, s, k, h => by
    unfold atO at h
    split at h
    · rename_i he
      obtain rfl : 0 = k := by simpa using h
      exact ⟨t, rfl, he, by simp⟩
    · rw [Option.map_eq_some_iff] at h
      obtain ⟨j, hj, rfl⟩ := h
      obtain ⟨t', h1, h2, h3⟩ := atO_some hj
      exact ⟨t', by simpa using h1, h2, by simp; omega⟩
theorem atO_none : ∀ {D : List TD} {s : ByteArray}, atO D s = none → ∀ t ∈ D, t.name ≠ s
  | [], s, _, t, ht => by simp at ht
  | x :: D, s, h, t, ht => by
    unfold atO at h
    split at h
    · cases h
    · rename_i he
      rw [Option.map_eq_none_iff] at h
      rcases List.mem_cons.1 ht with rfl | ht
      · exact he
      · exact atO_none h t ht
theorem atO_first : ∀ {D : List TD} {s : ByteArray} {k : Nat} {t : TD}, D[k]? = some t → t.name = s → (∀ j t', j < k → D[j]? = some t' → t'.name ≠ s) → atO D s = some k
  | [], s, k, t, h, _, _ => by simp at h
  | x :: D, s, 0, t, h, hs, _ => by
    obtain rfl : x = t := by simpa using h
    simp [atO, hs]
  | x :: D, s, k + 1, t, h, hs, hf => by
    have hx := hf 0 x (by omega) rfl
    have := atO_first (D := D) (k := k) (by simpa using h) hs (fun j t' hj ht => hf (j + 1) t' (by omega) (by simpa using ht))
    simp [atO, hx, this]
theorem atO_no : ∀ {D : List TD} {s : ByteArray}, (∀ t ∈ D, t.name ≠ s) → atO D s = none
  | [], s, _ => rfl
  | x :: D, s, h => by
    have h1 := h x (by simp)
    simp [atO, h1, atO_no (D := D) (fun t ht => h t (by simp [ht]))]
theorem atI_some {D : List TD} {s : ByteArray} {k : Nat} (h : atO D s = some k) : atI D s = k := by simp [atI, h]
theorem atI_none {D : List TD} {s : ByteArray} (h : atO D s = none) : atI D s = -1 := by simp [atI, h]
theorem there_iff {D : List TD} {s : ByteArray} : there D s ↔ s ∈ D.map (·.name) := by
  unfold there
  constructor
  · intro h
    obtain ⟨k, hk⟩ := Option.isSome_iff_exists.1 h
    obtain ⟨t, h1, h2, _⟩ := atO_some hk
    exact List.mem_map.2 ⟨t, List.mem_of_getElem? h1, h2⟩
  · intro h
    obtain ⟨t, h1, h2⟩ := List.mem_map.1 h
    cases ho : atO D s with
    | none => exact absurd h2 (atO_none ho t h1)
    | some k => rfl

/-- A list without anything twice, of what stands in another one, is no longer than that. -/
theorem nodup_le {α : Type} [DecidableEq α] : ∀ {l m : List α}, l.Nodup → (∀ x ∈ l, x ∈ m) → l.length ≤ m.length
  | [], m, _, _ => by simp
  | a :: l, m, hn, hs => by
    have ha := hs a (by simp)
    have h1 := nodup_le (l := l) (m := m.erase a) (List.nodup_cons.1 hn).2 (fun x hx => (List.mem_erase_of_ne (by intro e; subst e; exact (List.nodup_cons.1 hn).1 hx)).2 (hs x (by simp [hx])))
    rw [List.length_erase_of_mem ha] at h1
    have := List.length_pos_of_mem ha
    simp
    omega
theorem names_le {D : List TD} {l : List ByteArray} (hn : l.Nodup) (ht : ∀ s ∈ l, there D s) : l.length ≤ D.length := by
  have := nodup_le hn (m := D.map (·.name)) fun s hs => there_iff.1 (ht s hs)
  simpa using this

/-- The chain: a name, its superclass, and so on. -/
def chainR (D : List TD) : Nat → ByteArray → List ByteArray → List ByteArray
  | 0, _, out => out
  | f + 1, s, out => match atO D s with
    | none => out
    | some k => if s ∈ out then out else chainR D f ((D[k]?.map (·.super)).getD s) (out ++ [s])
def chainL (D : List TD) (s : ByteArray) : List ByteArray := chainR D (D.length + 1) s []
theorem chainR_end {D : List TD} {f : Nat} {s : ByteArray} {out : List ByteArray} (h : atO D s = none ∨ s ∈ out) : chainR D f s out = out := by
  cases f with
  | zero => rfl
  | succ f =>
    unfold chainR
    cases ho : atO D s with
    | none => rfl
    | some k =>
      rcases h with h | h
      · rw [ho] at h; cases h
      · simp [h]
theorem chainR_step {D : List TD} {f : Nat} {s : ByteArray} {out : List ByteArray} {k : Nat} {t : TD} (h : atO D s = some k) (ht : D[k]? = some t) (hn : s ∉ out) : chainR D (f + 1) s out = chainR D f t.super (out ++ [s]) := by
  rw [chainR, h]
  simp [hn, ht]
/-- What holds of a list of names that a chain has come by. -/
structure Nms (D : List TD) (out : List ByteArray) : Prop where
  nd : out.Nodup
  th : ∀ s ∈ out, there D s
theorem Nms.nil (D : List TD) : Nms D [] := ⟨List.nodup_nil, by simp⟩
theorem Nms.snoc {D : List TD} {out : List ByteArray} (h : Nms D out) {s : ByteArray} (hs : there D s) (hn : s ∉ out) : Nms D (out ++ [s]) :=
  ⟨List.nodup_append.2 ⟨h.nd, (by simp), fun a ha b hb => by (obtain rfl : b = s := by simpa using hb); exact fun e => hn (e ▸ ha)⟩, fun x hx => by
    rcases List.mem_append.1 hx with hx | hx
    · exact h.th x hx
    · obtain rfl : x = s := by simpa using hx
      exact hs⟩
theorem Nms.le {D : List TD} {out : List ByteArray} (h : Nms D out) : out.length ≤ D.length := names_le h.nd h.th
theorem chainR_nms {D : List TD} : ∀ {f : Nat} {s : ByteArray} {out : List ByteArray}, Nms D out → Nms D (chainR D f s out)
  | 0, _, _, h => h
  | f + 1, s, out, h => by
    rw [chainR]
    cases ho : atO D s with
    | none => exact h
    | some k =>
      dsimp only
      split
      · exact h
      · rename_i hn
        exact chainR_nms (h.snoc (by unfold there; rw [ho]; rfl) hn)
theorem chainL_nms (D : List TD) (s : ByteArray) : Nms D (chainL D s) := chainR_nms (Nms.nil D)
theorem chainR_pre {D : List TD} : ∀ {f : Nat} {s : ByteArray} {out : List ByteArray}, out <+: chainR D f s out
  | 0, _, _ => List.prefix_refl _
  | f + 1, s, out => by
    rw [chainR]
    cases ho : atO D s with
    | none => exact List.prefix_refl _
    | some k =>
      dsimp only
      split
      · exact List.prefix_refl _
      · exact (List.prefix_append _ _).trans chainR_pre

/-- A type's interfaces. -/
def ifs (D : List TD) (s : ByteArray) : List ByteArray := match atO D s with
  | some k => (D[k]?.map (·.interfaces)).getD []
  | none => []
theorem ifs_at {D : List TD} {s : ByteArray} {k : Nat} {t : TD} (h : atO D s = some k) (ht : D[k]? = some t) : ifs D s = t.interfaces := by simp [ifs, h, ht]

/-- The going over the superinterfaces of a type: busy are those whose own going over is not at its end. -/
def ovr (D : List TD) : Nat → ByteArray → List ByteArray → List ByteArray → List ByteArray
  | 0, _, _, out => out
  | f + 1, s, busy, out => (ifs D s).foldl (fun out x => if ¬ there D x ∨ x ∈ busy ∨ x ∈ out then out else ovr D f x (busy ++ [x]) out ++ [x]) out
def stp (D : List TD) (f : Nat) (busy out : List ByteArray) (x : ByteArray) : List ByteArray := if ¬ there D x ∨ x ∈ busy ∨ x ∈ out then out else ovr D f x (busy ++ [x]) out ++ [x]
theorem ovr_succ (D : List TD) (f : Nat) (s : ByteArray) (busy out : List ByteArray) : ovr D (f + 1) s busy out = (ifs D s).foldl (stp D f busy) out := rfl
theorem ovr_none {D : List TD} {f : Nat} {s : ByteArray} {busy out : List ByteArray} (h : atO D s = none) : ovr D f s busy out = out := by
  cases f with
  | zero => rfl
  | succ f => rw [ovr_succ]; simp [ifs, h]

structure Good (D : List TD) (busy out : List ByteArray) : Prop where
  b : Nms D busy
  o : Nms D out
  dis : ∀ s ∈ busy, s ∉ out
theorem Good.push {D : List TD} {busy out : List ByteArray} (h : Good D busy out) {s : ByteArray} (ht : there D s) (hb : s ∉ busy) (ho : s ∉ out) : Good D (busy ++ [s]) out :=
  ⟨h.b.snoc ht hb, h.o, fun x hx => by
    rcases List.mem_append.1 hx with hx | hx
    · exact h.dis x hx
    · obtain rfl : x = s := by simpa using hx
      exact ho⟩
theorem Good.pop {D : List TD} {busy out : List ByteArray} {s : ByteArray} (h : Good D (busy ++ [s]) out) : Good D busy (out ++ [s]) := by
  have hn := List.nodup_append.1 h.b.nd
  refine ⟨⟨hn.1, fun x hx => h.b.th x (by simp [hx])⟩, h.o.snoc (h.b.th s (by simp)) (h.dis s (by simp)), fun x hx hx' => ?_⟩
  rcases List.mem_append.1 hx' with h1 | h1
  · exact h.dis x (by simp [hx]) h1
  · obtain rfl : x = s := by simpa using h1
    exact hn.2.2 x hx x (by simp) rfl
theorem Good.both {D : List TD} {busy out : List ByteArray} (h : Good D busy out) : busy.length + out.length ≤ D.length := by
  have := names_le (D := D) (l := busy ++ out) (List.nodup_append.2 ⟨h.b.nd, h.o.nd, fun a ha b hb e => h.dis a ha (e ▸ hb)⟩) (fun s hs => (List.mem_append.1 hs).elim (h.b.th s) (h.o.th s))
  simpa using this

theorem foldl_keep {α β : Type} {I : β → Prop} {g : β → α → β} (hg : ∀ b a, I b → I (g b a)) : ∀ (l : List α) (b : β), I b → I (l.foldl g b)
  | [], _, h => h
  | a :: l, b, h => foldl_keep hg l (g b a) (hg b a h)
theorem stp_good {D : List TD} {f : Nat} (hovr : ∀ {s : ByteArray} {busy out : List ByteArray}, Good D busy out → Good D busy (ovr D f s busy out)) {busy out : List ByteArray} (h : Good D busy out) (x : ByteArray) : Good D busy (stp D f busy out x) := by
  unfold stp
  split
  · exact h
  · rename_i hn
    have h1 : there D x := Decidable.of_not_not fun h => hn (.inl h)
    exact (hovr (h.push h1 (fun e => hn (.inr (.inl e))) (fun e => hn (.inr (.inr e))))).pop
theorem ovr_good {D : List TD} : ∀ {f : Nat} {s : ByteArray} {busy out : List ByteArray}, Good D busy out → Good D busy (ovr D f s busy out)
  | 0, _, _, _, h => h
  | f + 1, s, busy, out, h => by
    rw [ovr_succ]
    exact foldl_keep (I := fun o => Good D busy o) (fun o x ho => stp_good ovr_good ho x) _ _ h
theorem stp_pre {D : List TD} {f : Nat} (hovr : ∀ {s : ByteArray} {busy out : List ByteArray}, out <+: ovr D f s busy out) {busy out : List ByteArray} (x : ByteArray) : out <+: stp D f busy out x := by
  unfold stp
  split
  · exact List.prefix_refl _
  · exact hovr.trans (List.prefix_append _ _)
theorem ovr_pre {D : List TD} : ∀ {f : Nat} {s : ByteArray} {busy out : List ByteArray}, out <+: ovr D f s busy out
  | 0, _, _, _ => List.prefix_refl _
  | f + 1, s, busy, out => by
    rw [ovr_succ]
    exact foldl_keep (I := fun o => out <+: o) (fun o x ho => ho.trans (stp_pre ovr_pre x)) _ _ (List.prefix_refl _)

/-- The superinterfaces of a type, in the order of 5.5. -/
def aboveL (D : List TD) (s : ByteArray) : List ByteArray := ovr D D.length s [s] []
theorem aboveL_no {D : List TD} {s : ByteArray} (h : atO D s = none) : aboveL D s = [] := ovr_none h
theorem good_root {D : List TD} {s : ByteArray} (h : there D s) : Good D [s] [] :=
  ⟨⟨(by simp), fun x hx => by (obtain rfl : x = s := by simpa using hx); exact h⟩, Nms.nil D, by simp⟩
theorem aboveL_nms (D : List TD) (s : ByteArray) : Nms D (aboveL D s) := by
  cases h : atO D s with
  | none => rw [aboveL_no h]; exact Nms.nil D
  | some k => exact (ovr_good (good_root (by unfold there; rw [h]; rfl))).o

/-- A type that is gone over, and how far. -/
structure Fr where
  name : ByteArray
  at_ : Nat
  next : Nat
def busyOf (st : List Fr) : List ByteArray := (st.map (·.name)).reverse
/-- What will have been told when the frames, the last one first, are gone over. -/
def fin (D : List TD) : List Fr → List ByteArray → List ByteArray
  | [], out => out
  | [f], out => ((ifs D f.name).drop f.next).foldl (stp D (D.length - 1) [f.name]) out
  | f :: f' :: fs, out => fin D (f' :: fs) (((ifs D f.name).drop f.next).foldl (stp D (D.length - (fs.length + 2)) (busyOf (f :: f' :: fs))) out ++ [f.name])
def going (D : List TD) (f : Fr) (fs : List Fr) (out : List ByteArray) : List ByteArray := ((ifs D f.name).drop f.next).foldl (stp D (D.length - (fs.length + 1)) (busyOf (f :: fs))) out
theorem fin_one (D : List TD) (f : Fr) (out : List ByteArray) : fin D [f] out = going D f [] out := rfl
theorem fin_more (D : List TD) (f f' : Fr) (fs : List Fr) (out : List ByteArray) : fin D (f :: f' :: fs) out = fin D (f' :: fs) (going D f (f' :: fs) out ++ [f.name]) := rfl
theorem fin_congr {D : List TD} {f g : Fr} {fs : List Fr} {out out' : List ByteArray} (hn : f.name = g.name) (h : going D f fs out = going D g fs out') : fin D (f :: fs) out = fin D (g :: fs) out' := by
  cases fs with
  | nil => rw [fin_one, fin_one, h]
  | cons f' fs => rw [fin_more, fin_more, h, hn]
theorem going_skip {D : List TD} {f : Fr} {fs : List Fr} {out : List ByteArray} {x : ByteArray} (hx : (ifs D f.name)[f.next]? = some x) (hs : ¬ there D x ∨ x ∈ busyOf (f :: fs) ∨ x ∈ out) : fin D (f :: fs) out = fin D ({ f with next := f.next + 1 } :: fs) out := by
  refine fin_congr rfl ?_
  unfold going
  have hl := (List.getElem?_eq_some_iff.1 hx).1
  rw [List.drop_eq_getElem_cons hl, List.foldl_cons]
  have he : (ifs D f.name)[f.next] = x := (List.getElem?_eq_some_iff.1 hx).2
  rw [he]
  have : stp D (D.length - (fs.length + 1)) (busyOf (f :: fs)) out x = out := by unfold stp; rw [if_pos hs]
  rw [this]
  rfl
theorem going_push {D : List TD} {f : Fr} {fs : List Fr} {out : List ByteArray} {x : ByteArray} {k : Nat} (hx : (ifs D f.name)[f.next]? = some x) (h1 : there D x) (h2 : x ∉ busyOf (f :: fs)) (h3 : x ∉ out) (hl : fs.length + 2 ≤ D.length) :
    fin D (f :: fs) out = fin D (⟨x, k, 0⟩ :: { f with next := f.next + 1 } :: fs) out := by
  rw [fin_more]
  refine fin_congr rfl ?_
  have hb : busyOf (⟨x, k, 0⟩ :: { f with next := f.next + 1 } :: fs) = busyOf (f :: fs) ++ [x] := by simp [busyOf]
  have hL : D.length - (fs.length + 1) = (D.length - (fs.length + 2)) + 1 := by omega
  have hg : going D ⟨x, k, 0⟩ ({ f with next := f.next + 1 } :: fs) out = ovr D (D.length - (fs.length + 1)) x (busyOf (f :: fs) ++ [x]) out := by
    rw [hL, ovr_succ, going, hb, List.drop_zero]
    rfl
  rw [hg]
  unfold going
  have hl' := (List.getElem?_eq_some_iff.1 hx).1
  rw [List.drop_eq_getElem_cons hl', List.foldl_cons]
  have he : (ifs D f.name)[f.next] = x := (List.getElem?_eq_some_iff.1 hx).2
  rw [he]
  have : stp D (D.length - (fs.length + 1)) (busyOf (f :: fs)) out x = ovr D (D.length - (fs.length + 1)) x (busyOf (f :: fs) ++ [x]) out ++ [x] := by
    unfold stp
    rw [if_neg]
    rintro (h | h | h)
    · exact h h1
    · exact h2 h
    · exact h3 h
  rw [this]
  rfl
theorem going_done {D : List TD} {f : Fr} {fs : List Fr} {out : List ByteArray} (h : (ifs D f.name).length ≤ f.next) : going D f fs out = out := by
  unfold going
  rw [List.drop_of_length_le h]
  rfl
theorem fin_pop {D : List TD} {f f' : Fr} {fs : List Fr} {out : List ByteArray} (h : (ifs D f.name).length ≤ f.next) : fin D (f :: f' :: fs) out = fin D (f' :: fs) (out ++ [f.name]) := by rw [fin_more, going_done h]
theorem fin_end {D : List TD} {f : Fr} {out : List ByteArray} (h : (ifs D f.name).length ≤ f.next) : fin D [f] out = out := by rw [fin_one, going_done h]
theorem fin_start {D : List TD} {s : ByteArray} {k : Nat} (h : 0 < D.length) : fin D [⟨s, k, 0⟩] [] = aboveL D s := by
  unfold aboveL
  obtain ⟨n, hn⟩ : ∃ n, D.length = n + 1 := ⟨D.length - 1, by omega⟩
  rw [hn, ovr_succ, fin_one, going, hn]
  rfl
theorem fin_pre {D : List TD} : ∀ {st : List Fr} {out : List ByteArray}, out <+: fin D st out
  | [], _ => List.prefix_refl _
  | f :: fs, out => by
    have h1 : out <+: going D f fs out := foldl_keep (I := fun o => out <+: o) (fun o x ho => ho.trans (stp_pre ovr_pre x)) _ _ (List.prefix_refl _)
    cases fs with
    | nil => exact h1
    | cons f' fs => rw [fin_more]; exact (h1.trans (List.prefix_append _ _)).trans fin_pre

/-- The superinterfaces of a type and of those above it. -/
def allL (D : List TD) (s : ByteArray) : List ByteArray := (chainL D s).foldl (fun out c => (aboveL D c).foldl (fun out x => if x ∈ out then out else out ++ [x]) out) []
def addL (out : List ByteArray) (l : List ByteArray) : List ByteArray := l.foldl (fun out x => if x ∈ out then out else out ++ [x]) out
theorem allL_eq (D : List TD) (s : ByteArray) : allL D s = (chainL D s).foldl (fun out c => addL out (aboveL D c)) [] := rfl
theorem addL_nms {D : List TD} {out l : List ByteArray} (h : Nms D out) (hl : ∀ x ∈ l, there D x) : Nms D (addL out l) := by
  unfold addL
  induction l generalizing out with
  | nil => exact h
  | cons x l ih =>
    rw [List.foldl_cons]
    refine ih ?_ (fun y hy => hl y (by simp [hy]))
    split
    · exact h
    · rename_i hn
      exact h.snoc (hl x (by simp)) hn
theorem addL_snoc (out l : List ByteArray) (x : ByteArray) : addL out (l ++ [x]) = if x ∈ addL out l then addL out l else addL out l ++ [x] := by
  unfold addL
  rw [List.foldl_append]
  rfl
theorem addL_mem {out l : List ByteArray} {y : ByteArray} : y ∈ addL out l ↔ y ∈ out ∨ y ∈ l := by
  unfold addL
  induction l generalizing out with
  | nil => simp
  | cons x l ih =>
    rw [List.foldl_cons, ih]
    split
    · rename_i hx
      constructor
      · rintro (h | h)
        · exact .inl h
        · exact .inr (by simp [h])
      · rintro (h | h)
        · exact .inl h
        · rcases List.mem_cons.1 h with rfl | h
          · exact .inl hx
          · exact .inr h
    · simp only [List.mem_append, List.mem_singleton, List.mem_cons, List.not_mem_nil, or_false]
      constructor
      · rintro ((h | h) | h)
        · exact .inl h
        · exact .inr (.inl h)
        · exact .inr (.inr h)
      · rintro (h | h | h)
        · exact .inl (.inl h)
        · exact .inl (.inr h)
        · exact .inr h
theorem allL_nms (D : List TD) (s : ByteArray) : Nms D (allL D s) := by
  rw [allL_eq]
  exact foldl_keep (I := fun o => Nms D o) (fun o c ho => addL_nms ho (aboveL_nms D c).th) _ _ (Nms.nil D)
theorem allL_mem {D : List TD} {s y : ByteArray} : y ∈ allL D s ↔ ∃ c ∈ chainL D s, y ∈ aboveL D c := by
  rw [allL_eq]
  have : ∀ (cs out : List ByteArray), y ∈ cs.foldl (fun out c => addL out (aboveL D c)) out ↔ y ∈ out ∨ ∃ c ∈ cs, y ∈ aboveL D c := by
    intro cs
    induction cs with
    | nil => intro out; simp
    | cons c cs ih =>
      intro out
      rw [List.foldl_cons, ih, addL_mem]
      constructor
      · rintro ((h | h) | ⟨c', h1, h2⟩)
        · exact .inl h
        · exact .inr ⟨c, by simp, h⟩
        · exact .inr ⟨c', by simp [h1], h2⟩
      · rintro (h | ⟨c', h1, h2⟩)
        · exact .inl (.inl h)
        · rcases List.mem_cons.1 h1 with rfl | h1
          · exact .inl (.inr h2)
          · exact .inr ⟨c', h1, h2⟩
  rw [this]
  simp
/-- Is a type another one, or below it? -/
def subB (D : List TD) (a b : ByteArray) : Prop := b ∈ chainL D a ∨ b ∈ allL D a
instance (D : List TD) (a b : ByteArray) : Decidable (subB D a b) := inferInstanceAs (Decidable (_ ∨ _))
theorem chainL_no {D : List TD} {a : ByteArray} (h : ¬ there D a) : chainL D a = [] := by
  unfold there at h
  exact chainR_end (.inl (by simpa using h))
theorem subB_no {D : List TD} {a b : ByteArray} (h : ¬ there D a) : ¬ subB D a b := by
  unfold subB
  rw [allL_eq, chainL_no h]
  simp
end Go.Proofs.Ytcklmhbcjgiplaa
