/-
  A range over a function whose iterator keeps blocks of its own (a map, a row) that it turns between the rounds: the iterator's blocks are a set X that grows; what the caller holds lies outside X. No function of the program in sight.
-/
import Derived.Test.YtcklmhbcjgiplaaTouch
import Derived.RangeFuncFrom
import Derived.RangeFuncLeaves
import Derived.Shelf.Abstract
import Derived.Shelf.RegionOpen
import Derived.OwnWalkIn
import Derived.TacticsInMore
import Derived.LoopNIn
import Derived.LoopIn
namespace Go.Proofs.Ytcklmhbcjgiplaa
set_option linter.unusedVariables false
set_option linter.unusedSimpArgs false
open Go.RowKit Go

/-- A step of an iterator whose own blocks are X: it may turn them, and lay new ones, which may become its own. -/
structure Step1 (X : Nat → Prop) (W : World) (X' : Nat → Prop) (W' : World) : Prop where
  touch : Touch X W W'
  sub : ∀ k, X k → X' k
  new : ∀ k, X' k → X k ∨ (W.heap.size ≤ k ∧ k < W'.heap.size)

def AbidesX {α : Type} (J : List α → (Nat → Prop) → World → Prop) : Prop := ∀ s X W X' W', J s X W → Step1 X W X' W' → J s X' W'

/-- A round keeps what is the iterator's. -/
structure Apart (X : Nat → Prop) (W W' : World) : Prop where
  size : W.heap.size ≤ W'.heap.size
  same : ∀ k, X k → k < W.heap.size → W'.heap[k]? = W.heap[k]?

theorem Apart.refl (X : Nat → Prop) (W : World) : Apart X W W := ⟨Nat.le_refl _, fun _ _ _ => rfl⟩
theorem Apart.trans {X : Nat → Prop} {A B C : World} (h : Apart X A B) (k : Apart X B C) : Apart X A C :=
  ⟨Nat.le_trans h.size k.size, fun i hi hl => (k.same i hi (Nat.lt_of_lt_of_le hl h.size)).trans (h.same i hi hl)⟩
theorem Apart.of_touch {X S : Nat → Prop} {W W' : World} (h : Touch S W W') (hs : ∀ k, S k → ¬ X k) : Apart X W W' :=
  ⟨h.size, fun k hk hl => h.blocks k hl fun e => hs k e hk⟩
theorem Step1.refl (X : Nat → Prop) (W : World) : Step1 X W X W := ⟨Touch.refl _ _, fun _ => id, fun _ => .inl⟩
theorem Step1.trans {X X' X'' : Nat → Prop} {A B C : World} (h : Step1 X A X' B) (k : Step1 X' B X'' C) : Step1 X A X'' C :=
  ⟨h.touch.trans k.touch (fun b hb => (h.new b hb).imp id (·.1)), fun b hb => k.sub b (h.sub b hb), fun b hb => by
    rcases k.new b hb with h1 | ⟨h1, h2⟩
    · rcases h.new b h1 with h3 | ⟨h3, h4⟩
      · exact .inl h3
      · exact .inr ⟨h3, Nat.lt_of_lt_of_le h4 k.touch.size⟩
    · exact .inr ⟨Nat.le_trans h.touch.size h1, h2⟩⟩
theorem Step1.bound {X X' : Nat → Prop} {A B : World} (h : Step1 X A X' B) (hX : ∀ k, X k → k < A.heap.size) : ∀ k, X' k → k < B.heap.size := fun k hk => by
  rcases h.new k hk with h1 | ⟨_, h1⟩
  · exact Nat.lt_of_lt_of_le (hX k h1) h.touch.size
  · exact h1

/-- The contract of an iterator that keeps blocks of its own; at first these are X0. -/
def SeqX {α : Type} (F : Fence) (n : Nat) (P : Program) (g : Nat) (lb : Array Value) (enc : α → Value) (S Sp : List α → Prop) (N B : Nat) (X0 : Nat → Prop) (W : World) : Prop :=
  ∀ (l : Nat) (J Jx : List α → (Nat → Prop) → World → Prop), AbidesX J → AbidesX Jx →
    (∀ pre X x W1, J pre X W1 → (∀ k, X k → k < W1.heap.size) → pre.length < N → Sp (pre ++ [x]) → YieldAt F (n - 1) P l #[enc x] W1 fun e W' =>
      (e = .returned (.bool true) ∧ J (pre ++ [x]) X W' ∧ Apart X W1 W' ∧ Below B W1 W') ∨ (e = .returned (.bool false) ∧ Jx (pre ++ [x]) X W')) →
    J [] X0 W →
    CallsIn F n P g (#[.func (.yield l) #[] #[]] ++ lb) W fun e W' => (∃ v, e = .returned v) ∧ ((∃ xs X, S xs ∧ J xs X W') ∨ (∃ pre X, Sp pre ∧ Jx pre X W'))

/-- How the body of a round may be left. -/
def ownPostX {α : Type} (B : Nat) (I : List α → (Nat → Prop) → World → Prop) (Ix : Code → List α → (Nat → Prop) → World → Prop) (xs : List α) (X : Nat → Prop) (W : World) : Exit → Act → World → Prop
  | .normal, _, W' => Apart X W W' ∧ Below B W W' ∧ I xs X W'
  | .ret, _, W' => Apart X W W' ∧ Ix .ret xs X W'
  | .exit id, _, W' => Apart X W W' ∧ Ix (.exit id) xs X W'
  | .goto t, _, W' => Apart X W W' ∧ Ix (.goto t) xs X W'
  | .panic _, _, _ => False
  | .outgrown, _, _ => False

/-- X and the two blocks that the statement lays for itself. -/
def withBook (w : World) (X : Nat → Prop) (k : Nat) : Prop := X k ∨ k = w.heap.size ∨ k = w.heap.size + 1

theorem step1_book {w W W' : World} {X X' : Nat → Prop} (h : Step1 X W X' W') : Step1 (withBook w X) W (withBook w X') W' :=
  ⟨h.touch.mono fun _ hb => .inl hb, fun _ hk => hk.imp (h.sub _) id, fun k hk => by
    rcases hk with hk | hk
    · exact (h.new k hk).imp .inl id
    · exact .inl (.inr hk)⟩

theorem touch_putObj {X : Nat → Prop} (W : World) {l : Nat} (o : Obj) (hl : X l) : Touch X W (W.putObj l o) :=
  ⟨rfl, rfl, rfl, by simp, fun k _ hn => World.putObj_heap_other fun e => hn (e ▸ hl)⟩
theorem step1_putObj {X : Nat → Prop} (W : World) {l : Nat} (o : Obj) (hl : X l) : Step1 X W X (W.putObj l o) := ⟨touch_putObj W o hl, fun _ => id, fun _ => .inl⟩

variable {F : Fence} {n : Nat} {P : Program}

/-- The statement 'for x := range seq { .. }' over such an iterator. -/
theorem wpIn_rangeFunc_X {α : Type} {g : Operand} {ps : Array Tmp} {assign body : Code} {Q : Exit → Act → World → Prop} {a : Act} {w : World}
    (hro : F.round = none) (h1 : 1 ≤ n) {gf : Nat} {lb : Array Value} (hg : a.eval g = .func (.func gf) #[] lb) (hFg : F.fn gf) (eg : ∀ args w, (callFunc gf args).run P w = .ok (.enter gf args) w)
    {enc : α → Value} {S Sp : List α → Prop} {N B : Nat} {X0 : Nat → Prop} (hseq : ∀ o o' : Obj, SeqX F (n - 1) P gf lb enc S Sp N B X0 ((w.alloc o).alloc o')) (hX0 : ∀ k, X0 k → k < w.heap.size) (hB : B ≤ w.heap.size) (hps : ps.size = 1)
    (I : List α → (Nat → Prop) → World → Prop) (Ix : Code → List α → (Nat → Prop) → World → Prop) (hI : AbidesX I) (hIx : ∀ c, AbidesX (Ix c)) (h0 : I [] X0 w) (a₁ : α → Act)
    (hassign : ∀ (l : Nat) (x : α) (W : World) (K : Act → World → Prop), K (a₁ x) W →
      assign.wpIn (F.inRound l) (n - 1 - 1) P (Exit.then K (fun _ _ _ => False)) { tmps := (ps.zip #[enc x]).foldl (fun t (p, v) => t.setIfInBounds p v) a.tmps, defers := [] } W)
    (hbody : ∀ (l : Nat) (pre : List α) (X : Nat → Prop) (x : α) (W : World), I pre X W → (∀ k, X k → k < W.heap.size) → pre.length < N → Sp (pre ++ [x]) → body.wpIn (F.inRound l) (n - 1 - 1) P (ownPostX B I Ix (pre ++ [x]) X W) (a₁ x) W)
    (hdone : ∀ (D : Nat) (xs : List α) (X : Nat → Prop) (W : World), D = w.heap.size → S xs → I xs X W → W.heap[D]? = some (.deferred (some [])) → Q .normal { a with defers := { target := .collected D, args := #[] } :: a.defers } W)
    (hstop : ∀ (D : Nat) (c : Code) (pre : List α) (X : Nat → Prop) (W : World), D = w.heap.size → Sp pre → Ix c pre X W → W.heap[D]? = some (.deferred (some [])) → c.wpIn F n P Q { a with defers := { target := .collected D, args := #[] } :: a.defers } W) :
    (Code.rangeFunc g ps assign body).wpIn F n P Q a w := by
  refine wpIn_rangeFunc ?_
  intro fn hfn
  rw [hro]
  obtain ⟨rec, hrec⟩ : ∃ rec : LoopState → Option Code → Loop, rec = fun st pe => { state := st, pending := pe, fn, tmps := a.tmps, params := ps, assign, body, defers := w.heap.size } := ⟨_, rfl⟩
  obtain ⟨W1, hW1⟩ : ∃ W1, (w.alloc (.deferred (some []))).alloc (.loop (rec .ready none)) = W1 := ⟨_, rfl⟩
  have hL1 : W1.heap[w.heap.size + 1]? = some (.loop (rec .ready none)) := by
    rw [← hW1]; have := World.alloc_heap_new (w.alloc (.deferred (some []))) (.loop (rec .ready none)); rwa [World.size_alloc] at this
  have hK1 : W1.heap[w.heap.size]? = some (.deferred (some [])) := by
    rw [← hW1]; exact (Below.heap_alloc _ _ _ (by simp)).trans (World.alloc_heap_new w _)
  have hI1 : I [] (withBook w X0) W1 := by
    refine hI _ _ _ _ _ h0 ⟨?_, fun _ => .inl, fun k hk => ?_⟩
    · rw [← hW1]; exact ((Touch.refl _ w).alloc _).alloc _
    · rcases hk with hk | rfl | rfl
      · exact .inl hk
      · exact .inr ⟨Nat.le_refl _, by rw [← hW1]; simp only [World.size_alloc]; omega⟩
      · exact .inr ⟨Nat.le_succ _, by rw [← hW1]; simp only [World.size_alloc]; omega⟩
  refine ⟨w.heap.size + 1, [{ target := .collected w.heap.size, args := #[] }], W1, { target := .fn (.func gf) lb, args := #[.func (.yield (w.heap.size + 1)) #[] #[]] }, W1, gf,
    #[.func (.yield (w.heap.size + 1)) #[] #[]] ++ lb, W1, ?_, ?_, ?_, ?_, fun _ => h1, ?_⟩
  · rw [← hW1, hrec]; exact run_enterLoop_outer _ _ _ _ _
  · simp only [resolve, hg]
    simp [go_sem]
  · intro f' hf'; simp [Target.leads] at hf'; subst hf'; exact hFg
  · simp [invoke, go_sem, eg]
  · have hnl : ∀ {X X' : Nat → Prop} {A C : World} {k : Nat} {o : Obj}, Step1 X A X' C → A.heap[k]? = some o → ¬ X k → C.heap[k]? = some o ∧ ¬ X' k := by
      intro X X' A C k o hs hk hn
      have hlt := (Array.getElem?_eq_some_iff.1 hk).1
      refine ⟨hs.touch.block hk hn, fun e => ?_⟩
      rcases hs.new k e with h2 | ⟨h2, _⟩
      · exact hn h2
      · omega
    refine (hW1 ▸ hseq (.deferred (some [])) (.loop (rec .ready none)) : SeqX F (n - 1) P gf lb enc S Sp N B X0 W1) (w.heap.size + 1)
      (fun pre X W => I pre (withBook w X) W ∧ (W.heap[w.heap.size + 1]? = some (.loop (rec .ready none)) ∧ ¬ X (w.heap.size + 1)) ∧ (W.heap[w.heap.size]? = some (.deferred (some [])) ∧ ¬ X w.heap.size))
      (fun pre X W => ∃ c, Ix c pre (withBook w X) W ∧ W.heap[w.heap.size + 1]? = some (.loop (rec .done (some c))) ∧ ¬ X (w.heap.size + 1) ∧ W.heap[w.heap.size]? = some (.deferred (some [])) ∧ ¬ X w.heap.size)
      (fun s X A X' C hs st => ⟨hI s _ _ _ _ hs.1 (step1_book st), hnl st hs.2.1.1 hs.2.1.2, hnl st hs.2.2.1 hs.2.2.2⟩)
      (fun s X A X' C hs st => by
        obtain ⟨c, hc, hl, hnl', hk, hnk⟩ := hs
        have r1 := hnl st hl hnl'
        have r2 := hnl st hk hnk
        exact ⟨c, hIx c s _ _ _ _ hc (step1_book st), r1.1, r1.2, r2.1, r2.2⟩)
      ?_ ⟨hI1, ⟨hL1, fun e => by have := hX0 _ e; omega⟩, ⟨hK1, fun e => by have := hX0 _ e; omega⟩⟩ |>.mono ?_
    · rintro pre X x W ⟨hi, ⟨hl, hnl1⟩, ⟨hk, hnk⟩⟩ hXb hlen hSpx
      have hlt : w.heap.size + 1 < W.heap.size := (Array.getElem?_eq_some_iff.1 hl).1
      have hy := run_yield (P := P) (args := #[enc x]) hl (by rw [hrec]; simp [hps])
      rw [hrec] at hy
      refine ⟨fn, _, assign, body, hy, roundIn_of_wpIn hfn (hassign _ x W _ ⟨_, run_beginRound hl (by rw [hrec]), ?_⟩)⟩
      have hb : ∀ k, withBook w X k → k < W.heap.size := by
        rintro k (hk' | rfl | rfl)
        · exact hXb k hk'
        · omega
        · omega
      have hl2 : (W.putObj (w.heap.size + 1) (.loop { rec .ready none with state := .busy })).heap[w.heap.size + 1]? = some (.loop { rec .ready none with state := .busy }) := World.putObj_heap_same hlt
      have hk2 : (W.putObj (w.heap.size + 1) (.loop { rec .ready none with state := .busy })).heap[w.heap.size]? = some (.deferred (some [])) := (World.putObj_heap_other (by omega)).trans hk
      have hbl : withBook w X (w.heap.size + 1) := .inr (.inr rfl)
      refine wpIn_mono (hbody _ pre _ x _ (hI _ _ _ _ _ hi (step1_putObj W _ hbl)) (by simpa using hb) hlen hSpx) ?_
      have fin : ∀ (jump : Option Code) (W3 : World), Apart (withBook w X) (W.putObj (w.heap.size + 1) (.loop { rec .ready none with state := .busy })) W3 →
          (Instr.endRound (w.heap.size + 1) jump).run P W3 = .ok (.bool jump.isNone) (W3.putObj (w.heap.size + 1) (.loop (rec (if jump.isNone then .ready else .done) jump))) ∧
          (W3.putObj (w.heap.size + 1) (.loop (rec (if jump.isNone then .ready else .done) jump))).heap[w.heap.size + 1]? = some (.loop (rec (if jump.isNone then .ready else .done) jump)) ∧
          (W3.putObj (w.heap.size + 1) (.loop (rec (if jump.isNone then .ready else .done) jump))).heap[w.heap.size]? = some (.deferred (some [])) := fun jump W3 hk3 => by
        have hl3 := (hk3.same _ hbl (by simp; omega)).trans hl2
        have := run_endRound (P := P) jump hl3
        rw [hrec] at this ⊢
        exact ⟨this, World.putObj_heap_same (Array.getElem?_eq_some_iff.1 hl3).1, (World.putObj_heap_other (by omega)).trans ((hk3.same _ (.inr (.inl rfl)) (by simp; omega)).trans hk2)⟩
      have hap : ∀ {W3 : World} (o : Obj), Apart (withBook w X) (W.putObj (w.heap.size + 1) (.loop { rec .ready none with state := .busy })) W3 → Apart X W (W3.putObj (w.heap.size + 1) o) := fun {W3} o h => by
        refine ⟨by have := h.size; simp at this ⊢; exact this, fun k hk' hlk => ?_⟩
        have hne : k ≠ w.heap.size + 1 := fun e => hnl1 (e ▸ hk')
        rw [World.putObj_heap_other hne, h.same k (.inl hk') (by simpa using hlk), World.putObj_heap_other hne]
      have hbe : ∀ {W3 : World} (o : Obj), Below B (W.putObj (w.heap.size + 1) (.loop { rec .ready none with state := .busy })) W3 → Below B W (W3.putObj (w.heap.size + 1) o) := fun {W3} o h =>
        ⟨h.os, h.tape, h.output, by have := h.size; simp at this ⊢; exact this, fun k hk' => by
          have hne : k ≠ w.heap.size + 1 := by omega
          rw [World.putObj_heap_other hne, h.block k hk', World.putObj_heap_other hne]⟩
      rintro e a3 W3 hp
      cases e with
      | normal =>
        obtain ⟨hk3, hkp3, hi3⟩ := hp
        obtain ⟨hr, hl4, hk4⟩ := fin none W3 hk3
        exact ⟨_, _, hr, .inl ⟨rfl, ⟨hI _ _ _ _ _ hi3 (step1_putObj W3 _ hbl), ⟨hl4, hnl1⟩, ⟨hk4, hnk⟩⟩, hap _ hk3, hbe _ hkp3⟩⟩
      | ret =>
        obtain ⟨hk3, hi3⟩ := hp
        obtain ⟨hr, hl4, hk4⟩ := fin (some .ret) W3 hk3
        exact ⟨_, _, hr, .inr ⟨rfl, .ret, hIx _ _ _ _ _ _ hi3 (step1_putObj W3 _ hbl), hl4, hnl1, hk4, hnk⟩⟩
      | exit id =>
        obtain ⟨hk3, hi3⟩ := hp
        obtain ⟨hr, hl4, hk4⟩ := fin (some (.exit id)) W3 hk3
        exact ⟨_, _, hr, .inr ⟨rfl, .exit id, hIx _ _ _ _ _ _ hi3 (step1_putObj W3 _ hbl), hl4, hnl1, hk4, hnk⟩⟩
      | goto t =>
        obtain ⟨hk3, hi3⟩ := hp
        obtain ⟨hr, hl4, hk4⟩ := fin (some (.goto t)) W3 hk3
        exact ⟨_, _, hr, .inr ⟨rfl, .goto t, hIx _ _ _ _ _ _ hi3 (step1_putObj W3 _ hbl), hl4, hnl1, hk4, hnk⟩⟩
      | panic ch => exact hp.elim
      | outgrown => exact hp.elim
    · rintro e W2 ⟨⟨v, rfl⟩, (⟨xs, X, hS, hi, ⟨hl, _⟩, ⟨hk, _⟩⟩ | ⟨pre, X, hSp, c, hi, hl, _, hk, _⟩)⟩
      · exact ⟨none, _, by have := run_endLoop (P := P) hl (by rw [hrec]; simp); rw [hrec] at this; exact this, hdone _ xs _ _ rfl hS (hI _ _ _ _ _ hi (step1_putObj W2 _ (.inr (.inr rfl)))) ((World.putObj_heap_other (by omega)).trans hk)⟩
      · exact ⟨some c, _, by have := run_endLoop (P := P) hl (by rw [hrec]; simp); rw [hrec] at this; exact this, hstop _ c pre _ _ rfl hSp (hIx c _ _ _ _ _ hi (step1_putObj W2 _ (.inr (.inr rfl)))) ((World.putObj_heap_other (by omega)).trans hk)⟩

/-- At the function's end: the blocks of the rounds' deferred calls, one for each range that was gone through, are shut. -/
theorem leaves_collected {fn : Func} {tmps : Array Value} {R : Ending → World → Prop} (Inv : World → Prop) : ∀ (Ds : List Nat) (W : World), Ds.Pairwise (· ≠ ·) → (∀ D ∈ Ds, W.heap[D]? = some (.deferred (some []))) → Inv W →
    (∀ (D : Nat) (W : World), D ∈ Ds → Inv W → W.heap[D]? = some (.deferred (some [])) → Inv (W.putObj D (.deferred none))) →
    (∀ W', Inv W' → ∃ v, (results fn tmps).run P W' = .ok v W' ∧ R (.returned v) W') → LeavesInM F n P fn tmps R (Ds.map fun D => { target := .collected D, args := #[] }) .returning W := by
  intro Ds
  induction Ds with
  | nil =>
    intro W _ _ hi _ hr
    obtain ⟨v, h1, h2⟩ := hr W hi
    exact ⟨v, h1, h2⟩
  | cons D Ds ih =>
    intro W hp hd hi hs hr
    have hD := hd D (by simp)
    refine ⟨by simp, .inl ⟨D, _, rfl, run_takeDeferred hD, ?_⟩⟩
    refine ih _ (List.pairwise_cons.1 hp).2 (fun D' hD' => ?_) (hs D W (by simp) hi hD) (fun D' W' h1 => hs D' W' (by simp [h1])) hr
    exact (World.putObj_heap_other fun e => (List.pairwise_cons.1 hp).1 D' hD' e.symm).trans (hd D' (by simp [hD']))
end Go.Proofs.Ytcklmhbcjgiplaa
