/-
  A scope in which the run jumps forward to one label: what stands behind the label is walked at each jump. No function of the program in sight.
-/
import Derived.ScopeJumps
import Derived.WalkMore
namespace Go.Proofs.Ytgophanpnaenkaa

/-- As Q; by a goto to label l: what stands behind the label; by any other goto: no way out. -/
def fwd (P : Program) (l : Nat) (rest : Code) (Q : Exit → Act → World → Prop) : Exit → Act → World → Prop
  | .goto l', a, w => l' = l ∧ rest.wp P (Exit.noGoto Q) a w
  | e, a, w => Q e a w

section
variable {P : Program} {l : Nat} {rest : Code} {Q : Exit → Act → World → Prop} {a : Act} {w : World}
@[go_sem] theorem fwd_normal : fwd P l rest Q .normal a w = Q .normal a w := rfl
@[go_sem] theorem fwd_exit (id : Nat) : fwd P l rest Q (.exit id) a w = Q (.exit id) a w := rfl
@[go_sem] theorem fwd_ret : fwd P l rest Q .ret a w = Q .ret a w := rfl
@[go_sem] theorem fwd_panic (ch : List PanicEntry) : fwd P l rest Q (.panic ch) a w = Q (.panic ch) a w := rfl

theorem wp_scope_fwd {c : Code} (l : Nat) (hf : findLabel c l = some rest) (first : c.wp P (fwd P l rest Q) a w) : (Code.scope c).wp P Q a w := by
  refine wp_scope_jumps l (fun a w => rest.wp P (Exit.noGoto Q) a w) (fun _ _ => 0) hf (wp_mono first ?_) fun a w h => wp_mono h ?_
  · intro e a w h
    cases e <;> exact h
  · intro e a w h
    cases e <;> first | exact h | exact h.elim
end
end Go.Proofs.Ytgophanpnaenkaa
