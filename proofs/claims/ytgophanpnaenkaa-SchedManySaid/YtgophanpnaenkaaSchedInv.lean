/-
  What holds of the three tables of the law SchedPlays from call to call: no walk.
-/
import Derived.Test.YtgophanpnaenkaaSchedLaw
namespace Go.Proofs.Ytgophanpnaenkaa
open Go.RowKit

theorem foot_apart {T E B : Nat} {w : World} {p : Value} {l : List Th} {g : Nat} {v : Value} {T' E' B' : Nat} {p' : Value} {l' : List Th} {g' : Nat} {v' : Value}
    (h : IsTab T E B w p l g v) (h' : IsTab T' E' B' w p' l' g' v') (hT : T ≠ T') (h1 : T ≠ E') (h2 : E ≠ T') (h3 : E ≠ E') : ∀ b, foot g v b → ¬ foot g' v' b := by
  intro b hb hb'
  rcases hb with rfl | hb
  · rcases hb' with rfl | hb'
    · exact Blk.ne_ h.blk h'.blk hT rfl
    · exact own_ne h'.own h.blk (Ne.symm h1) _ hb' rfl
  · rcases hb' with rfl | hb'
    · exact own_ne h.own h'.blk h2 _ hb rfl
    · rcases h.own.2 with ⟨rfl, _⟩ | ⟨r, _, cur, rfl, _, hh, _⟩
      · cases hb
      · have : r = b := by simpa [Value.ownBlock] using hb
        subst this
        exact own_ne (t := E) (g := r) (cs := cur) h'.own hh (Ne.symm h3) _ hb' rfl

theorem blk_apart {T E B : Nat} {w : World} {p : Value} {l : List Th} {g : Nat} {v : Value} {b T' : Nat} {cs : Array Value} (h : IsTab T E B w p l g v) (hb : Blk w b T' cs) (hT : T ≠ T') (hE : E ≠ T') : ¬ foot g v b := by
  intro hf
  rcases hf with rfl | hf
  · exact Blk.ne_ h.blk hb hT rfl
  · exact own_ne h.own hb hE _ hf rfl

structure Play (T1 E1 T2 E2 B : Nat) (w wr : World) (ps po pr : Value) (gs go gr : Nat) (ls lr : List Th) (vs vr : Value) : Prop where
  s : IsTab T1 E1 B wr ps ls gs vs
  o : IsTab T1 E1 B wr po [] go (.slice none 0 0)
  r : IsTab T2 E2 B wr pr lr gr vr
  ne : gs ≠ go
  below : Below B w wr
  size : B ≤ wr.heap.size

section
variable {T1 E1 T2 E2 B : Nat} {w wr w' : World} {ps po pr : Value} {gs go gr : Nat} {ls lr ls' lr' : List Th} {vs vr vs' vr' : Value}
theorem Play.still (h : Play T1 E1 T2 E2 B w wr ps po pr gs go gr ls lr vs vr) (ht : Touch (fun _ => False) wr w') : Play T1 E1 T2 E2 B w w' ps po pr gs go gr ls lr vs vr :=
  ⟨h.s.still ht, h.o.still ht, h.r.still ht, h.ne, Below.trans h.below (ht.below (fun _ => False.elim) h.size), Nat.le_trans h.size ht.size⟩
theorem Play.kept (h : Play T1 E1 T2 E2 B w wr ps po pr gs go gr ls lr vs vr) (ht : Kept wr w') : Play T1 E1 T2 E2 B w w' ps po pr gs go gr ls lr vs vr := h.still (Touch.of_kept ht)
theorem Play.o_apart (h : Play T1 E1 T2 E2 B w wr ps po pr gs go gr ls lr vs vr) (hTE : T1 ≠ E1) : ∀ b, foot go (.slice none 0 0) b → ¬ foot gs vs b := by
  intro b hb hb'
  rcases hb with rfl | hb
  · rcases hb' with h1 | hb'
    · exact h.ne h1.symm
    · exact own_ne h.s.own h.o.blk (Ne.symm hTE) _ hb' rfl
  · cases hb
theorem Play.s_to (h : Play T1 E1 T2 E2 B w wr ps po pr gs go gr ls lr vs vr) (hTE : T1 ≠ E1) (hT : T2 ≠ T1) (h1 : T2 ≠ E1) (h2 : E2 ≠ T1) (h3 : E2 ≠ E1) (hs : IsTab T1 E1 B w' ps ls' gs vs') (ht : Touch (foot gs vs) wr w') :
    Play T1 E1 T2 E2 B w w' ps po pr gs go gr ls' lr vs' vr :=
  ⟨hs, h.o.apart ht (h.o_apart hTE), h.r.apart ht (foot_apart h.r h.s hT h1 h2 h3), h.ne, Below.trans h.below (h.s.below ht h.size), Nat.le_trans h.size ht.size⟩
theorem Play.r_to (h : Play T1 E1 T2 E2 B w wr ps po pr gs go gr ls lr vs vr) (hT : T2 ≠ T1) (h1 : T2 ≠ E1) (h2 : E2 ≠ T1) (h3 : E2 ≠ E1) (hs : IsTab T2 E2 B w' pr lr' gr vr') (ht : Touch (foot gr vr) wr w') :
    Play T1 E1 T2 E2 B w w' ps po pr gs go gr ls lr' vs vr' :=
  ⟨h.s.apart ht (foot_apart h.s h.r (Ne.symm hT) (Ne.symm h2) (Ne.symm h1) (Ne.symm h3)), h.o.apart ht (foot_apart h.o h.r (Ne.symm hT) (Ne.symm h2) (Ne.symm h1) (Ne.symm h3)), hs, h.ne, Below.trans h.below (h.r.below ht h.size), Nat.le_trans h.size ht.size⟩
end

/-- What holds of the threads of every table. -/
def Fine (l : List Th) : Prop := l.length ≤ 16 ∧ ∀ x ∈ l, x.st = 0 → x.tx.toList = []
theorem empty_toList : (⟨#[]⟩ : ByteArray).toList = [] := by simp
theorem Fine.nil : Fine [] := ⟨by simp, by simp⟩
theorem Fine.push {l : List Th} (h : Fine l) (hl : l.length < 16) : Fine (l ++ [⟨0, ⟨#[]⟩⟩]) := by
  refine ⟨by simp; omega, fun x hx => ?_⟩
  rcases List.mem_append.1 hx with hx | hx
  · exact h.2 x hx
  · simp at hx; subst hx; intro _; exact empty_toList
theorem Fine.set_ {l : List Th} (h : Fine l) (t : Nat) (to : Th) (hto : to.st = 0 → to.tx.toList = []) : Fine (l.set t to) := by
  refine ⟨by simpa using h.1, fun x hx => ?_⟩
  rcases List.mem_or_eq_of_mem_set hx with hx | rfl
  · exact h.2 x hx
  · exact hto
theorem Fine.turn {l : List Th} (h : Fine l) (t fr : Int) (to : Th) (hto : to.st = 0 → to.tx.toList = []) : Fine (turnL l t fr to) := by
  unfold turnL
  split
  · exact h.set_ _ _ hto
  · exact h
theorem turn_same {l : List Th} (t fr : Int) (to : Th) (h : to.st ≠ 1) : turnE l t fr to = turnRE l t fr ∧ turnL l t fr to = turnRL l t fr to := by
  have e : turnE l t fr to = turnRE l t fr := by
    unfold turnE turnRE
    by_cases h0 : 0 ≤ t ∧ t < l.length
    · rw [if_pos h0, if_pos h0]; simp [h]
    · rw [if_neg h0, if_neg h0]
  exact ⟨e, by simp only [turnL, turnRL, e]⟩
theorem finTo_st (s : ByteArray) : (finTo s).st ≠ 1 ∧ ((finTo s).st = 0 → (finTo s).tx.toList = []) := by
  unfold finTo
  split <;> simp
theorem filterMap_same {α β : Type} {f g : α → Option β} : ∀ {l : List α}, (∀ x ∈ l, f x = g x) → l.filterMap f = l.filterMap g
  | [], _ => rfl
  | x :: l, h => by
    rw [List.filterMap_cons, List.filterMap_cons, h x (by simp), filterMap_same fun y hy => h y (by simp [hy])]
theorem ixs_fine {l : List Th} (h : Fine l) : ixs rdP l = ixs rdR l := by
  unfold ixs
  apply filterMap_same
  intro y hy
  have hm : y.1 ∈ l := by
    have := List.mem_zipIdx hy
    rw [this.2.2]
    exact List.getElem_mem _
  have : rdP y.1 = rdR y.1 := by
    unfold rdP rdR
    by_cases h0 : y.1.st = 0
    · simp [h0, h.2 _ hm h0]
    · simp [h0]
  rw [this]

theorem sched_Len0 (B : Nat) (w : World) (p : Value) (g : Nat) (v : Value) (h : PTab B w p [] g v) :
    Calls Try.prog 50 #[p] w fun e w' => e = .returned (.int .i64 0) ∧ w = w' := sched_Len B w p [] g v h

end Go.Proofs.Ytgophanpnaenkaa
