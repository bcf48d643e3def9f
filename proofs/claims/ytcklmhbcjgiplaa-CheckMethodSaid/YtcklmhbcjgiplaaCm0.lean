/-
  Plain facts for CheckTraps and CheckNamed.
-/
import Derived.Test.YtcklmhbcjgiplaaCl0
import Derived.Test.YtcklmhbcjgiplaaApp
namespace Go.Proofs.Ytcklmhbcjgiplaa
set_option linter.unusedVariables false
set_option linter.unusedSimpArgs false
open Go.RowKit
set_option maxRecDepth 100000

/-- A literal's row, as it is laid. -/
theorem Rd.many (w : World) (cs : List Value) (e : TypeId) {n sz : Nat} (hs : cs.length = n * sz) (hn : n ≤ 9223372036854775807) : Rd (w.alloc (.cells cs.toArray e)) sz (.slice (some ⟨w.heap.size, 0, none⟩) n n) n cs :=
  Rd.mk_ hs (Nat.le_refl _) hn fun j u hu => by
    rw [Nat.zero_add, cell_of_row _ _ _ cs.toArray e (0, 0) (heap_alloc_new w _)]
    simpa using hu
theorem Rd.lit {W : World} {b n sz : Nat} {e : TypeId} {cs : List Value} (hb : Blk W b e cs.toArray) (hs : cs.length = n * sz) (hn : n ≤ 9223372036854775807) : Rd W sz (.slice (some ⟨b, 0, none⟩) n n) n cs :=
  Rd.mk_ hs (Nat.le_refl _) hn fun j u hu => by
    rw [Nat.zero_add, hb.cell]
    simpa using hu
theorem Blk.new' {w : World} {k : Nat} (t : TypeId) (cs : Array Value) (hk : k = w.heap.size) : Blk (w.alloc (.cells cs t)) k t cs := by
  subst hk
  exact Blk.new w t cs
theorem own_away {w : World} {base : Nat} {e t : TypeId} {sz n g : Nat} {v : Value} {xs : List Value} {cs : Array Value} (ho : w.ownsRow base e sz v n xs) (hb : Blk w g t cs) (hne : e ≠ t) (j : Nat) (u : Value) : (w.setCell ⟨g, j, none⟩ u).ownsRow base e sz v n xs :=
  Touch.own (S := fun b => b = g) ((Touch.refl (fun b => b = g) w).setCell (p := ⟨g, j, none⟩) (.inl rfl) u) ho fun k hk e => own_ne ho hb hne k hk e
/-- 'append(s, x, y..)': the literal's row has been laid into a new block. -/
theorem wpl_lit {P : Program} {w : World} {t e : TypeId} {z : Value} {size bytes : Nat} (E : ElemTy P t e z size bytes) {ops : Array Oper} {rest : List Oper} {o : Oper} {a : Act} {Q : Exit → Act → World → Prop} (hgd : o.guard = none) (s x : Operand)
    (ho : o.op = .call { callee := .builtin .append, args := #[s, x], argTypes := #[t, t] })
    (base : Nat) (v : Value) (n : Nat) (xs : List Value) (hs : a.eval s = v) (hown : w.ownsRow base e size v n xs)
    (m : Nat) (cs : List Value) (e' : TypeId) (hx : a.eval x = .slice (some ⟨w.heap.size, 0, none⟩) m m) (hl : cs.length = m * size) (h1 : ∀ u ∈ cs, u.oneCell' = true)
    (hbytes : (n + m) * bytes ≤ 140737488355328) (hsmall : n + m ≤ 9223372036854775807) (hbase : base ≤ w.heap.size)
    (h : ∀ a1 c1 w', w'.ownsRow base e size (.slice a1 (n + m) c1) (n + m) (xs ++ cs) → Touch (fun b => v.ownBlock = some b) w w' → wpList P ops Q rest (a.put o.dst (.slice a1 (n + m) c1)) w') : wpList P ops Q (o :: rest) a (w.alloc (.cells cs.toArray e')) :=
  wpl_appR _ E hgd s x ho base v n xs hs (hown.alloc _) _ m cs hx (Rd.many w cs e' hl (by omega)) h1 hbytes hsmall (by simp; omega) _ rfl fun a1 c1 w' h2 h3 _ =>
    h a1 c1 w' h2 (((Touch.refl _ w).alloc _).trans (Touch.of_grown h3 fun k hk => hk) fun _ hb => .inl hb)
def trapPool : List ConstC := smallK.pool ++ [⟨1, ⟨#[109]⟩, 0, 0, 0⟩, ⟨1, ⟨#[40, 41, 86]⟩, 0, 0, 0⟩, ⟨1, ⟨#[67, 111, 100, 101]⟩, 0, 0, 0⟩]
theorem trapPool_text : ∀ k ∈ trapPool, k.text.size ≤ maxLen := by
  intro k hk
  have h : k.text.size ≤ 16 := by
    simp only [trapPool, smallK, List.mem_cons, List.mem_append, List.not_mem_nil, or_false] at hk
    rcases hk with (rfl | rfl | rfl | rfl) | rfl | rfl | rfl <;> decide
  exact Nat.le_trans h (by unfold maxLen; omega)
def trapM (fr til at_ ty : Int) : MethC := { access := 8, name := 5, desc := 6, has := true, stack := 0, locals := 0, code := [0, 0, 0, 177], traps := [⟨fr, til, at_, ty⟩] }
def trapK (fr til at_ ty : Int) : ClassC := ⟨0, 52, trapPool, 33, 2, 4, [], [], [trapM fr til at_ ty]⟩
theorem trapPool_at (n : Int) : (getC trapPool n 7).isSome = decide (n = 2 ∨ n = 4) := by
  by_cases h : 1 ≤ n ∧ n ≤ 7
  · rcases (show n = 1 ∨ n = 2 ∨ n = 3 ∨ n = 4 ∨ n = 5 ∨ n = 6 ∨ n = 7 by omega) with rfl | rfl | rfl | rfl | rfl | rfl | rfl <;> decide +kernel
  · unfold getC
    rw [if_neg (by rw [show trapPool.length = 7 from rfl]; exact h), show decide (n = 2 ∨ n = 4) = false by simp; omega]
    rfl
def badPlace (fr til at_ : Int) : Bool := decide (fr < 0) || decide (til ≤ fr) || decide (4 < til) || decide (at_ < 0) || decide (3 < at_)
theorem trap_check (fr til at_ ty : Int) : checkE (trapK fr til at_ ty) = if badPlace fr til at_ = true then 25 else if (ty != 0 && ty != 2 && ty != 4) = true then 20 else 0 := by
  have m0 : muchB (trapK fr til at_ ty) = false := (show muchB (trapK 0 0 0 0) = false by decide +kernel)
  have p0 : poolE trapPool trapPool = 0 := by decide +kernel
  have h0 : headE (trapK fr til at_ ty) = 0 := (show headE (trapK 0 0 0 0) = 0 by decide +kernel)
  have c0 : codeF (trapM fr til at_ ty) 0 = badPlace fr til at_ := by
    unfold codeF
    rw [if_neg (show ¬ (trapM fr til at_ ty).has = hasF (trapM fr til at_ ty).access 1024 from (show ¬ true = hasF 8 1024 by decide +kernel)),
      if_neg (show ¬ (trapM fr til at_ ty).has = false from (show ¬ true = false by decide)),
      if_neg (show ¬ ((trapM fr til at_ ty).code.length = 0 ∨ (trapM fr til at_ ty).stack < 0 ∨ 64 < (trapM fr til at_ ty).stack ∨ (trapM fr til at_ ty).locals < 0 ∨ 64 < (trapM fr til at_ ty).locals ∨ (trapM fr til at_ ty).locals < ((0 : Nat) : Int) + (if hasF (trapM fr til at_ ty).access 8 = true then 0 else 1)) from (show ¬ ((trapM 0 0 0 0).code.length = 0 ∨ (trapM 0 0 0 0).stack < 0 ∨ 64 < (trapM 0 0 0 0).stack ∨ (trapM 0 0 0 0).locals < 0 ∨ 64 < (trapM 0 0 0 0).locals ∨ (trapM 0 0 0 0).locals < ((0 : Nat) : Int) + (if hasF (trapM 0 0 0 0).access 8 = true then 0 else 1)) by decide +kernel))]
    show (decide (fr < 0) || decide (til ≤ fr) || decide (((4 : Nat) : Int) < til) || decide (at_ < 0) || decide (((4 : Nat) : Int) ≤ at_) || false) = _
    unfold badPlace
    rw [Bool.or_false, show decide (((4 : Nat) : Int) ≤ at_) = decide (3 < at_) by rw [decide_eq_decide]; omega, show decide (((4 : Nat) : Int) < til) = decide (4 < til) by rw [decide_eq_decide]; omega]
  have t0 : trapF trapPool (trapM fr til at_ ty) = (ty != 0 && ty != 2 && ty != 4) := by
    show (true && ty != 0 && !(getC trapPool ty 7).isSome || false) = _
    rw [trapPool_at]
    by_cases h2 : ty = 2
    · rw [h2]; decide
    · by_cases h4 : ty = 4
      · rw [h4]; decide
      · rw [show (ty != 2) = true by simpa using h2, show (ty != 4) = true by simpa using h4]
        simp [h2, h4]
  have e0 : methE trapPool 33 [] (trapM fr til at_ ty) = if badPlace fr til at_ = true then 25 else if (ty != 0 && ty != 2 && ty != 4) = true then 20 else 0 := by
    unfold methE
    rw [if_neg (show ¬ ((textC trapPool (trapM fr til at_ ty).name).2 && (textC trapPool (trapM fr til at_ ty).desc).2) = false from (show ¬ ((textC trapPool 5).2 && (textC trapPool 6).2) = false by decide +kernel)),
      if_neg (show ¬ metS (textC trapPool (trapM fr til at_ ty).name).1 = false from (show ¬ metS (textC trapPool 5).1 = false by decide +kernel)),
      if_neg (show ¬ isK (textC trapPool (trapM fr til at_ ty).desc).1 = false from (show ¬ isK (textC trapPool 6).1 = false by decide +kernel)),
      if_neg (show ¬ methF 33 (trapM fr til at_ ty).access (textC trapPool (trapM fr til at_ ty).name).1 = true from (show ¬ methF 33 8 (textC trapPool 5).1 = true by decide +kernel)),
      if_neg (show ¬ (isS (textC trapPool (trapM fr til at_ ty).name).1 iniL && !(retK (textC trapPool (trapM fr til at_ ty).desc).1 == [86]) || isS (textC trapPool (trapM fr til at_ ty).name).1 cliL && !isS (textC trapPool (trapM fr til at_ ty).desc).1 [40, 41, 86]) = true from (show ¬ (isS (textC trapPool 5).1 iniL && !(retK (textC trapPool 6).1 == [86]) || isS (textC trapPool 5).1 cliL && !isS (textC trapPool 6).1 [40, 41, 86]) = true by decide +kernel)),
      if_neg (by simp)]
    rw [show (argK (textC trapPool (trapM fr til at_ ty).desc).1).length = 0 from (show (argK (textC trapPool 6).1).length = 0 by decide +kernel), c0, t0]
  unfold checkE
  rw [m0, if_neg (by decide), if_neg (show ¬ ((trapK fr til at_ ty).major < 45 ∨ 52 < (trapK fr til at_ ty).major) from (show ¬ ((52 : Int) < 45 ∨ (52 : Int) < 52) by decide)), if_neg (show ¬ poolE (trapK fr til at_ ty).pool (trapK fr til at_ ty).pool ≠ 0 from fun h => h p0), h0, if_neg (by decide), if_neg (show ¬ fieldsE (trapK fr til at_ ty).pool (trapK fr til at_ ty).access [] (trapK fr til at_ ty).fields ≠ 0 from fun h => h rfl)]
  show (if methE trapPool 33 [] (trapM fr til at_ ty) = 0 then 0 else methE trapPool 33 [] (trapM fr til at_ ty)) = _
  rw [e0]
  split <;> simp_all

/-- The constants of CheckNamed, the last one as it is handed in. -/
def namedPool (tag a b : Int) : List ConstC := smallK.pool ++ [⟨1, ⟨#[109]⟩, 0, 0, 0⟩, ⟨1, ⟨#[73]⟩, 0, 0, 0⟩, ⟨1, ⟨#[40, 41, 86]⟩, 0, 0, 0⟩, ⟨12, ⟨#[]⟩, 0, 5, 6⟩, ⟨12, ⟨#[]⟩, 0, 5, 7⟩, ⟨3, ⟨#[]⟩, 0, 0, 0⟩] ++ [⟨tag, ⟨#[]⟩, 0, a, b⟩]
theorem namedPool_text (tag a b : Int) : ∀ k ∈ namedPool tag a b, k.text.size ≤ maxLen := by
  intro k hk
  have h : k.text.size ≤ 16 := by
    simp only [namedPool, smallK, List.mem_cons, List.mem_append, List.not_mem_nil, or_false] at hk
    rcases hk with ((rfl | rfl | rfl | rfl) | rfl | rfl | rfl | rfl | rfl | rfl) | rfl
    all_goals exact of_decide_eq_true rfl
  exact Nat.le_trans h (by unfold maxLen; omega)
end Go.Proofs.Ytcklmhbcjgiplaa
