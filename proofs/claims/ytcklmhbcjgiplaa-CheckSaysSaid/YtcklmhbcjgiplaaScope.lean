/-
  A scope in which the run jumps forward to one label: what stands behind the label is walked at each jump. No function of the program in sight.
-/
import Derived.ScopeJumps
import Derived.WalkMore
namespace Go.Proofs.Ytcklmhbcjgiplaa
set_option linter.unusedVariables false
set_option linter.unusedSimpArgs false

/-- As Q; by a goto to label l: what stands behind the label; by any other goto: no way out. -/
def fwd (P : Program) (l : Nat) (rest : Code) (Q : Exit → Act → World → Prop) : Exit → Act → World → Prop
  | .goto l', a, w => l' = l ∧ rest.wp P (Exit.noGoto Q) a w
  | e, a, w => Q e a w

section
variable {P : Program} {l : Nat} {rest : Code} {Q : Exit → Act → World → Prop} {a : Act} {w : World}
@[go_sem] theorem fwd_normal : fwd P l rest Q .normal a w = Q .normal a w := rfl
@[go_sem] theorem fwd_exit (id : Nat) : fwd P l rest Q (.exit id) a w = Q (.exit id) a w := rfl
@[go_sem] theorem fwd_ret : fwd P l rest Q .ret a w = Q .ret a w := rfl
@[go_sem] theorem fwd_panic (ch : List PanicEntry) : fwd P l rest Q (.panic ch) a w = Q (.panic ch) a w := rfl

theorem wp_scope_fwd {c : Code} (l : Nat) (hf : findLabel c l = some rest) (first : c.wp P (fwd P l rest Q) a w) : (Code.scope c).wp P Q a w := by
  refine wp_scope_jumps l (fun a w => rest.wp P (Exit.noGoto Q) a w) (fun _ _ => 0) hf (wp_mono first ?_) fun a w h => wp_mono h ?_
  · intro e a w h
    cases e <;> exact h
  · intro e a w h
    cases e <;> first | exact h | exact h.elim
end

/-- As Q; by a goto to label l: J l. -/
def jumps (J : Nat → Act → World → Prop) (Q : Exit → Act → World → Prop) : Exit → Act → World → Prop
  | .goto l, a, w => J l a w
  | e, a, w => Q e a w

section
variable {P : Program} {J : Nat → Act → World → Prop} {Q : Exit → Act → World → Prop} {a : Act} {w : World}
@[go_sem] theorem jumps_normal : jumps J Q .normal a w = Q .normal a w := rfl
@[go_sem] theorem jumps_exit (id : Nat) : jumps J Q (.exit id) a w = Q (.exit id) a w := rfl
@[go_sem] theorem jumps_ret : jumps J Q .ret a w = Q .ret a w := rfl
@[go_sem] theorem jumps_panic (ch : List PanicEntry) : jumps J Q (.panic ch) a w = Q (.panic ch) a w := rfl

/-- A scope in which the run jumps to any of its labels, forth and back: what holds at each jump, and a measure that every pass lowers. -/
theorem wp_scope_rounds {c : Code} (rest : Nat → Code) (J : Nat → Act → World → Prop) (μ : Nat → Act → World → Nat) (hf : ∀ l a w, J l a w → findLabel c l = some (rest l))
    (first : c.wp P (jumps J Q) a w)
    (pass : ∀ l a w, J l a w → (rest l).wp P (jumps (fun l' a' w' => J l' a' w' ∧ μ l' a' w' < μ l a w) Q) a w) : (Code.scope c).wp P Q a w := by
  intro b k cs
  have hg : ∀ l a w, J l a w → gotoIn l (.inScope c :: k) = some (.code (rest l) :: .inScope c :: k) := fun l a w h => by simp [gotoIn, hf l a w h]
  have key : ∀ n l a w, μ l a w = n → J l a w → ∃ e a' w', Q e a' w' ∧ Arrives P (lone (b.at a (.code (rest l) :: .inScope c :: k)) cs w) b k cs e a' w' := by
    intro n
    induction n using Nat.strongRecOn with
    | _ n ih =>
      intro l a w hn hJ
      obtain ⟨e, a₁, w₁, hq, harr⟩ := pass l a w hJ b (.inScope c :: k) cs
      cases e with
      | normal => exact ⟨.normal, a₁, w₁, hq, Steps.trans harr (.one step_inScope)⟩
      | exit id => exact ⟨.exit id, a₁, w₁, hq, fun k' hk => harr k' (by simp [exitTo, hk])⟩
      | goto l' =>
        obtain ⟨hJ', hlt⟩ := hq
        obtain ⟨e₂, a₂, w₂, hq₂, harr₂⟩ := ih _ (by omega) l' a₁ w₁ rfl hJ'
        exact ⟨e₂, a₂, w₂, hq₂, .of_steps (harr _ (hg l' a₁ w₁ hJ')) harr₂⟩
      | ret => exact ⟨_, a₁, w₁, hq, harr⟩
      | panic ch => exact ⟨_, a₁, w₁, hq, harr⟩
      | outgrown => exact ⟨_, a₁, w₁, hq, harr⟩
  obtain ⟨e, a₁, w₁, hq, harr⟩ := first b (.inScope c :: k) cs
  cases e with
  | normal => exact ⟨.normal, a₁, w₁, hq, .head step_scope (Steps.trans harr (.one step_inScope))⟩
  | exit id => exact ⟨.exit id, a₁, w₁, hq, fun k' hk => .head step_scope (harr k' (by simp [exitTo, hk]))⟩
  | goto l =>
    obtain ⟨e₂, a₂, w₂, hq₂, harr₂⟩ := key _ l a₁ w₁ rfl hq
    exact ⟨e₂, a₂, w₂, hq₂, .of_steps (.head step_scope (harr _ (hg l a₁ w₁ hq))) harr₂⟩
  | ret => exact ⟨_, a₁, w₁, hq, .of_steps (.one step_scope) harr⟩
  | panic ch => exact ⟨_, a₁, w₁, hq, .of_steps (.one step_scope) harr⟩
  | outgrown => exact ⟨_, a₁, w₁, hq, .of_steps (.one step_scope) harr⟩

/-- Two labels: 0, 1. -/
def jump2 (J0 J1 : Act → World → Prop) (Q : Exit → Act → World → Prop) : Exit → Act → World → Prop
  | .goto 0, a, w => J0 a w
  | .goto 1, a, w => J1 a w
  | .goto _, _, _ => False
  | e, a, w => Q e a w
@[go_sem] theorem jump2_normal {J0 J1 : Act → World → Prop} : jump2 J0 J1 Q .normal a w = Q .normal a w := rfl
@[go_sem] theorem jump2_exit {J0 J1 : Act → World → Prop} (id : Nat) : jump2 J0 J1 Q (.exit id) a w = Q (.exit id) a w := rfl
@[go_sem] theorem jump2_ret {J0 J1 : Act → World → Prop} : jump2 J0 J1 Q .ret a w = Q .ret a w := rfl
@[go_sem] theorem jump2_panic {J0 J1 : Act → World → Prop} (ch : List PanicEntry) : jump2 J0 J1 Q (.panic ch) a w = Q (.panic ch) a w := rfl

theorem wp_scope_two {c rest0 rest1 : Code} (J0 J1 : Act → World → Prop) (μ0 μ1 : Act → World → Nat) (hf0 : findLabel c 0 = some rest0) (hf1 : findLabel c 1 = some rest1)
    (first : c.wp P (jump2 J0 J1 Q) a w)
    (pass0 : ∀ a w, J0 a w → rest0.wp P (jump2 (fun a' w' => J0 a' w' ∧ μ0 a' w' < μ0 a w) (fun a' w' => J1 a' w' ∧ μ1 a' w' < μ0 a w) Q) a w)
    (pass1 : ∀ a w, J1 a w → rest1.wp P (jump2 (fun a' w' => J0 a' w' ∧ μ0 a' w' < μ1 a w) (fun a' w' => J1 a' w' ∧ μ1 a' w' < μ1 a w) Q) a w) : (Code.scope c).wp P Q a w := by
  refine wp_scope_rounds (fun l => if l = 0 then rest0 else rest1) (fun l a w => (l = 0 ∧ J0 a w) ∨ (l = 1 ∧ J1 a w)) (fun l a w => if l = 0 then μ0 a w else μ1 a w) ?_ (wp_mono first ?_) ?_
  · rintro l a w (⟨rfl, _⟩ | ⟨rfl, _⟩)
    · exact hf0
    · exact hf1
  · intro e a w h
    cases e with
    | goto l =>
      match l with
      | 0 => exact .inl ⟨rfl, h⟩
      | 1 => exact .inr ⟨rfl, h⟩
      | _ + 2 => exact h.elim
    | _ => exact h
  · rintro l a w (⟨rfl, h⟩ | ⟨rfl, h⟩)
    · refine wp_mono (pass0 a w h) ?_
      intro e a' w' h
      cases e with
      | goto l =>
        match l with
        | 0 => exact ⟨.inl ⟨rfl, h.1⟩, h.2⟩
        | 1 => exact ⟨.inr ⟨rfl, h.1⟩, h.2⟩
        | _ + 2 => exact h.elim
      | _ => exact h
    · refine wp_mono (pass1 a w h) ?_
      intro e a' w' h
      cases e with
      | goto l =>
        match l with
        | 0 => exact ⟨.inl ⟨rfl, h.1⟩, h.2⟩
        | 1 => exact ⟨.inr ⟨rfl, h.1⟩, h.2⟩
        | _ + 2 => exact h.elim
      | _ => exact h
end
end Go.Proofs.Ytcklmhbcjgiplaa
