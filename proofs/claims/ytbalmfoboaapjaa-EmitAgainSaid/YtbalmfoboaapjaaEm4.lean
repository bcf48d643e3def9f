/-
  A class that was read is, written, no longer than what it was read of: plain.
-/
import Derived.Test.YtbalmfoboaapjaaEm3
namespace Go.Proofs.Ytbalmfoboaapjaa
open Go.RowKit
set_option maxRecDepth 100000

section
variable {α β : Type}
theorem Out.inv {x : Out α} {f : α → PS → Out β} {y : β} {t : PS} (h : x.bind f = .ok y t) : ∃ a s, x = .ok a s ∧ f a s = .ok y t := by
  cases x with
  | ok a s => exact ⟨a, s, rfl, h⟩
  | bad p e => cases h
end
section
variable {L : List UInt8}
theorem bytes_ate {n : Int} {s t : PS} {l : List UInt8} (h : bytesP L n s = .ok l t) (hs : s.at_ ≤ L.length) : t.at_ = s.at_ + n.toNat ∧ t.at_ ≤ L.length ∧ l.length = n.toNat := by
  unfold bytesP at h
  split at h
  · cases h
  split at h
  · cases h
  cases h
  refine ⟨rfl, ?_, ?_⟩
  · dsimp only; omega
  · rw [List.length_take, List.length_drop]; omega
theorem num_ate {n : Int} {s t : PS} {v : Int} (h : numP L n s = .ok v t) (hs : s.at_ ≤ L.length) : t.at_ = s.at_ + n.toNat ∧ t.at_ ≤ L.length := by
  obtain ⟨l, u, h1, h2⟩ := Out.inv h
  cases h2
  have := bytes_ate h1 hs
  exact ⟨this.1, this.2.1⟩
theorem count_ate {m : Int} {s t : PS} {v : Int} (h : countP L m s = .ok v t) (hs : s.at_ ≤ L.length) : t.at_ = s.at_ + 2 ∧ t.at_ ≤ L.length := by
  obtain ⟨n, u, h1, h2⟩ := Out.inv h
  split at h2
  · cases h2
  · cases h2
    exact num_ate h1 hs
theorem many_ate {α : Type} {f : PS → Out α} {m : α → Nat} (hf : ∀ s t x, s.at_ ≤ L.length → f s = .ok x t → t.at_ ≤ L.length ∧ s.at_ + m x ≤ t.at_) : ∀ (k : Nat) (s t : PS) (l : List α), s.at_ ≤ L.length → manyP f k s = .ok l t → t.at_ ≤ L.length ∧ s.at_ + (l.map m).sum ≤ t.at_
  | 0, s, t, l, hs, h => by cases h; exact ⟨hs, by simp⟩
  | k + 1, s, t, l, hs, h => by
    obtain ⟨x, s1, h1, h2⟩ := Out.inv h
    obtain ⟨r, s2, h3, h4⟩ := Out.inv h2
    cases h4
    have q1 := hf s s1 x hs h1
    have q2 := many_ate hf k s1 _ r q1.1 h3
    refine ⟨q2.1, ?_⟩
    simp only [List.map_cons, List.sum_cons]
    omega
theorem sum_flat {α : Type} (enc : α → List UInt8) : ∀ l : List α, (l.flatMap enc).length = (l.map fun x => (enc x).length).sum
  | [] => rfl
  | x :: l => by rw [List.flatMap_cons, List.length_append, sum_flat enc l]; rfl
theorem constB_two {t a b : Int} (h : t = 9 ∨ t = 10 ∨ t = 11 ∨ t = 12) : (constB ⟨t, ⟨#[]⟩, 0, a, b⟩).length = 5 := by
  unfold constB
  rw [if_neg (by dsimp only; omega), if_neg (by dsimp only; omega), if_neg (by dsimp only; omega)]
  simp [twoB, beB_length]
theorem const_ate {s t : PS} {x : ConstC} (hs : s.at_ ≤ L.length) (h : constP L s = .ok x t) : t.at_ ≤ L.length ∧ s.at_ + (constB x).length ≤ t.at_ ∧ x.text.size ≤ L.length := by
  obtain ⟨g, s1, h1, h2⟩ := Out.inv h
  have q1 := num_ate h1 hs
  split at h2
  · obtain ⟨n, s2, h3, h4⟩ := Out.inv h2
    obtain ⟨l, s3, h5, h6⟩ := Out.inv h4
    cases h6
    have q2 := num_ate h3 q1.2
    have q3 := bytes_ate h5 q2.2
    have hl : (⟨l.toArray⟩ : ByteArray).size = l.length := by simp [ByteArray.size]
    refine ⟨q3.2.1, ?_, ?_⟩
    · simp only [constB, if_true, List.length_append, beB_length]
      have := q1.1; have := q2.1; have := q3.1; have := q3.2.2
      simp only [show (1 : Int).toNat = 1 from rfl, show (2 : Int).toNat = 2 from rfl] at *
      omega
    · rw [hl]
      have := q3.1; have := q3.2.2; have := q3.2.1
      omega
  split at h2
  · obtain ⟨n, s2, h3, h4⟩ := Out.inv h2
    cases h4
    have q2 := num_ate h3 q1.2
    refine ⟨q2.2, ?_, Nat.zero_le _⟩
    have := q1.1; have := q2.1
    simp only [show (1 : Int).toNat = 1 from rfl, show (4 : Int).toNat = 4 from rfl] at *
    simp [constB, beB_length]
    omega
  split at h2
  · obtain ⟨n, s2, h3, h4⟩ := Out.inv h2
    cases h4
    have q2 := num_ate h3 q1.2
    refine ⟨q2.2, ?_, Nat.zero_le _⟩
    have := q1.1; have := q2.1
    simp only [show (1 : Int).toNat = 1 from rfl, show (2 : Int).toNat = 2 from rfl] at *
    simp [constB, beB_length]
    omega
  split at h2
  · rename_i hk
    obtain ⟨a, s2, h3, h4⟩ := Out.inv h2
    obtain ⟨b, s3, h5, h6⟩ := Out.inv h4
    cases h6
    have q2 := num_ate h3 q1.2
    have q3 := num_ate h5 q2.2
    refine ⟨q3.2, ?_, Nat.zero_le _⟩
    have := q1.1; have := q2.1; have := q3.1
    simp only [show (1 : Int).toNat = 1 from rfl, show (2 : Int).toNat = 2 from rfl] at *
    rw [constB_two hk]
    omega
  · cases h2
theorem name_ate {pool : List ConstC} {s t : PS} {x : ByteArray} (h : nameP L pool s = .ok x t) (hs : s.at_ ≤ L.length) : t.at_ = s.at_ + 2 ∧ t.at_ ≤ L.length := by
  obtain ⟨n, s1, h1, h2⟩ := Out.inv h
  have q1 := num_ate h1 hs
  split at h2
  · split at h2
    · cases h2; exact q1
    · cases h2
  · cases h2
theorem attr_ate {pool : List ConstC} {σ : Type} {want : ByteArray} {tell : σ → Int → Int → PS → Out σ} {m : σ → Nat}
    (ht : ∀ x p long s y t, s.at_ ≤ L.length → tell x p long s = .ok y t → t.at_ ≤ L.length ∧ s.at_ + m y ≤ t.at_ + m x + 6) : ∀ (k : Nat) (seen : Bool) (x : σ) (s t : PS) (y : σ), s.at_ ≤ L.length → attrP L pool want tell k seen x s = .ok y t → t.at_ ≤ L.length ∧ s.at_ + m y ≤ t.at_ + m x
  | 0, seen, x, s, t, y, hs, h => by cases h; exact ⟨hs, by omega⟩
  | k + 1, seen, x, s, t, y, hs, h => by
    obtain ⟨nm, s1, h1, h2⟩ := Out.inv h
    have q1 := name_ate h1 hs
    split at h2
    · split at h2
      · cases h2
      · obtain ⟨lo, s2, h3, h4⟩ := Out.inv h2
        obtain ⟨z, s3, h5, h6⟩ := Out.inv h4
        have q2 := num_ate h3 q1.2
        have q3 := ht _ _ _ _ _ _ q2.2 h5
        have q4 := attr_ate ht k true z s3 t y q3.1 h6
        refine ⟨q4.1, ?_⟩
        have := q1.1; have := q2.1; have := q3.2; have := q4.2
        simp only [show (4 : Int).toNat = 4 from rfl] at *
        omega
    · obtain ⟨lo, s2, h3, h4⟩ := Out.inv h2
      obtain ⟨z, s3, h5, h6⟩ := Out.inv h4
      have q2 := num_ate h3 q1.2
      have q3 := bytes_ate h5 q2.2
      have q4 := attr_ate ht k seen x s3 t y q3.2.1 h6
      refine ⟨q4.1, ?_⟩
      have := q1.1; have := q2.1; have := q3.1; have := q4.2
      omega
theorem attrs_ate {pool : List ConstC} {σ : Type} {want : ByteArray} {tell : σ → Int → Int → PS → Out σ} {m : σ → Nat}
    (ht : ∀ x p long s y t, s.at_ ≤ L.length → tell x p long s = .ok y t → t.at_ ≤ L.length ∧ s.at_ + m y ≤ t.at_ + m x + 6) {x y : σ} {s t : PS} (hs : s.at_ ≤ L.length) (h : attrsP L pool want tell x s = .ok y t) : t.at_ ≤ L.length ∧ s.at_ + 2 + m y ≤ t.at_ + m x := by
  obtain ⟨n, s1, h1, h2⟩ := Out.inv h
  have q1 := num_ate h1 hs
  have q2 := attr_ate ht _ _ _ _ _ _ q1.2 h2
  refine ⟨q2.1, ?_⟩
  have := q1.1; have := q2.2
  simp only [show (2 : Int).toNat = 2 from rfl] at *
  omega
theorem skip_ate {pool : List ConstC} {s t : PS} {y : Unit} (hs : s.at_ ≤ L.length) (h : skipP L pool s = .ok y t) : t.at_ ≤ L.length ∧ s.at_ + 2 ≤ t.at_ := by
  have := attrs_ate (m := fun _ => 0) (fun x p long s y t hs h => by cases h; exact ⟨hs, by omega⟩) hs h
  exact ⟨this.1, by omega⟩
theorem fieldB_long (v : Int) (f : FieldC) : (fieldB v f).length = 8 + (if f.value = 0 then 0 else 8) := by
  unfold fieldB
  split <;> simp [twoB, beB_length]
theorem field_ate {pool : List ConstC} (v : Int) {s t : PS} {x : FieldC} (hs : s.at_ ≤ L.length) (h : fieldP L pool s = .ok x t) : t.at_ ≤ L.length ∧ s.at_ + (fieldB v x).length ≤ t.at_ := by
  obtain ⟨a, s1, h1, h2⟩ := Out.inv h
  obtain ⟨n, s2, h3, h4⟩ := Out.inv h2
  obtain ⟨d, s3, h5, h6⟩ := Out.inv h4
  obtain ⟨u, s4, h7, h8⟩ := Out.inv h6
  cases h8
  have q1 := num_ate h1 hs
  have q2 := num_ate h3 q1.2
  have q3 := num_ate h5 q2.2
  have q4 := attrs_ate (m := fun u : Int => if u = 0 then 0 else 8) (fun x p long s y t hs h => by
    split at h
    · cases h
    · have q := num_ate h hs
      refine ⟨q.2, ?_⟩
      have := q.1
      simp only [show (2 : Int).toNat = 2 from rfl] at *
      split <;> split <;> omega) q3.2 h7
  refine ⟨q4.1, ?_⟩
  rw [fieldB_long]
  have := q1.1; have := q2.1; have := q3.1; have := q4.2
  simp only [show (2 : Int).toNat = 2 from rfl, if_true] at *
  omega
theorem trap_ate {s t : PS} {x : TrapC} (hs : s.at_ ≤ L.length) (h : trapP L s = .ok x t) : t.at_ ≤ L.length ∧ s.at_ + 8 ≤ t.at_ := by
  obtain ⟨a, s1, h1, h2⟩ := Out.inv h
  obtain ⟨n, s2, h3, h4⟩ := Out.inv h2
  obtain ⟨d, s3, h5, h6⟩ := Out.inv h4
  obtain ⟨u, s4, h7, h8⟩ := Out.inv h6
  cases h8
  have q1 := num_ate h1 hs
  have q2 := num_ate h3 q1.2
  have q3 := num_ate h5 q2.2
  have q4 := num_ate h7 q3.2
  refine ⟨q4.2, ?_⟩
  have := q1.1; have := q2.1; have := q3.1; have := q4.1
  simp only [show (2 : Int).toNat = 2 from rfl] at *
  omega
theorem sum_const {α : Type} (k : Nat) : ∀ l : List α, (l.map fun _ => k).sum = k * l.length
  | [] => rfl
  | x :: l => by simp only [List.map_cons, List.sum_cons, sum_const k l, List.length_cons, Nat.mul_add]; omega
theorem methB_long (v : Int) (m : MethC) : (methB v m).length = 8 + (if m.has = true then 18 + m.code.length + 8 * m.traps.length else 0) := by
  unfold methB
  split
  · unfold codeB
    simp only [List.length_append, beB_length, twoB, List.flatMap_cons, List.flatMap_nil, List.length_nil, sum_flat trapB, trapB]
    rw [sum_const 8]
    omega
  · simp [twoB, beB_length]
def mM (m : MethC) : Nat := (if m.has = true then 18 + m.code.length else 0) + 8 * m.traps.length
theorem code_ate {pool : List ConstC} {m y : MethC} {p long : Int} {s t : PS} (hs : s.at_ ≤ L.length) (h : codeP L pool m p long s = .ok y t) : t.at_ ≤ L.length ∧ s.at_ + mM y ≤ t.at_ + mM m + 6 := by
  obtain ⟨st, s1, h1, h⟩ := Out.inv h
  have q1 := num_ate h1 hs
  obtain ⟨lo, s2, h2, h⟩ := Out.inv h
  have q2 := num_ate h2 q1.2
  obtain ⟨n, s3, h3, h⟩ := Out.inv h
  have q3 := num_ate h3 q2.2
  split at h
  · cases h
  obtain ⟨code, s4, h4, h⟩ := Out.inv h
  have q4 := bytes_ate h4 q3.2
  obtain ⟨k, s5, h5, h⟩ := Out.inv h
  have q5 := count_ate h5 q4.2.1
  obtain ⟨tr, s6, h6, h⟩ := Out.inv h
  have q6 := many_ate (m := fun _ => 8) (fun s t x hs h => trap_ate hs h) _ _ _ _ q5.2 h6
  obtain ⟨u, s7, h7, h⟩ := Out.inv h
  have q7 := skip_ate q6.1 h7
  split at h
  · cases h
  cases h
  refine ⟨q7.1, ?_⟩
  have e1 := q1.1; have e2 := q2.1; have e3 := q3.1; have e4 := q4.1; have e5 := q5.1; have e6 := q6.2; have e7 := q7.2; have e8 := q4.2.2
  rw [sum_const 8] at e6
  simp only [show (2 : Int).toNat = 2 from rfl, show (4 : Int).toNat = 4 from rfl] at *
  simp only [mM, if_true, List.length_append]
  split <;> omega
theorem meth_ate {pool : List ConstC} (v : Int) {s t : PS} {x : MethC} (hs : s.at_ ≤ L.length) (h : methP L pool s = .ok x t) : t.at_ ≤ L.length ∧ s.at_ + (methB v x).length ≤ t.at_ := by
  obtain ⟨a, s1, h1, h⟩ := Out.inv h
  obtain ⟨n, s2, h2, h⟩ := Out.inv h
  obtain ⟨d, s3, h3, h⟩ := Out.inv h
  have q1 := num_ate h1 hs
  have q2 := num_ate h2 q1.2
  have q3 := num_ate h3 q2.2
  have q4 := attrs_ate (m := mM) (fun x p long s y t hs h => code_ate hs h) q3.2 h
  refine ⟨q4.1, ?_⟩
  rw [methB_long]
  have e1 := q1.1; have e2 := q2.1; have e3 := q3.1; have e4 := q4.2
  simp only [show (2 : Int).toNat = 2 from rfl] at *
  simp only [mM, List.length_nil] at e4
  split
  · rename_i hx
    rw [if_pos hx] at e4
    simp at e4
    omega
  · simp at e4
    omega
theorem mem_many {α : Type} {f : PS → Out α} {p : α → Prop} (hf : ∀ s t x, s.at_ ≤ L.length → f s = .ok x t → t.at_ ≤ L.length ∧ p x) : ∀ (k : Nat) (s t : PS) (l : List α), s.at_ ≤ L.length → manyP f k s = .ok l t → ∀ x ∈ l, p x
  | 0, s, t, l, hs, h => by cases h; simp
  | k + 1, s, t, l, hs, h => by
    obtain ⟨x, s1, h1, h2⟩ := Out.inv h
    obtain ⟨r, s2, h3, h4⟩ := Out.inv h2
    cases h4
    have q1 := hf s s1 x hs h1
    intro y hy
    rcases List.mem_cons.1 hy with rfl | hy
    · exact q1.2
    · exact mem_many hf k s1 _ r q1.1 h3 y hy
theorem class_ate {c : ClassC} {s t : PS} (hs : s.at_ ≤ L.length) (h : classP L s = .ok c t) : s.at_ + (classB c).length ≤ L.length ∧ ∀ k ∈ c.pool, k.text.size ≤ L.length := by
  obtain ⟨mg, s1, h1, h⟩ := Out.inv h
  have q1 := num_ate h1 hs
  split at h
  · cases h
  obtain ⟨mi, s2, h2, h⟩ := Out.inv h
  have q2 := num_ate h2 q1.2
  obtain ⟨ma, s3, h3, h⟩ := Out.inv h
  have q3 := num_ate h3 q2.2
  obtain ⟨n, s4, h4, h⟩ := Out.inv h
  have q4 := count_ate h4 q3.2
  split at h
  · cases h
  obtain ⟨pool, s5, h5, h⟩ := Out.inv h
  have q5 := many_ate (m := fun x => (constB x).length) (fun s t x hs h => ⟨(const_ate hs h).1, (const_ate hs h).2.1⟩) _ _ _ _ q4.2 h5
  have qt := mem_many (p := fun x : ConstC => x.text.size ≤ L.length) (fun s t x hs h => ⟨(const_ate hs h).1, (const_ate hs h).2.2⟩) _ _ _ _ q4.2 h5
  obtain ⟨acc, s6, h6, h⟩ := Out.inv h
  have q6 := num_ate h6 q5.1
  obtain ⟨th, s7, h7, h⟩ := Out.inv h
  have q7 := num_ate h7 q6.2
  obtain ⟨su, s8, h8, h⟩ := Out.inv h
  have q8 := num_ate h8 q7.2
  obtain ⟨ni, s9, h9, h⟩ := Out.inv h
  have q9 := count_ate h9 q8.2
  obtain ⟨is, s10, h10, h⟩ := Out.inv h
  have q10 := many_ate (m := fun _ : Int => 2) (fun s t x hs h => ⟨(num_ate h hs).2, by have e := (num_ate h hs).1; simp only [show (2 : Int).toNat = 2 from rfl] at e; omega⟩) _ _ _ _ q9.2 h10
  obtain ⟨nf, s11, h11, h⟩ := Out.inv h
  have q11 := count_ate h11 q10.1
  obtain ⟨fs, s12, h12, h⟩ := Out.inv h
  have q12 := many_ate (m := fun x => (fieldB (namedC pool valueS) x).length) (fun s t x hs h => field_ate _ hs h) _ _ _ _ q11.2 h12
  obtain ⟨nm, s13, h13, h⟩ := Out.inv h
  have q13 := count_ate h13 q12.1
  obtain ⟨ms, s14, h14, h⟩ := Out.inv h
  have q14 := many_ate (m := fun x => (methB (namedC pool codeS) x).length) (fun s t x hs h => meth_ate _ hs h) _ _ _ _ q13.2 h14
  obtain ⟨u, s15, h15, h⟩ := Out.inv h
  have q15 := skip_ate q14.1 h15
  split at h
  · cases h
  cases h
  refine ⟨?_, qt⟩
  have e1 := q1.1; have e2 := q2.1; have e3 := q3.1; have e4 := q4.1; have e5 := q5.2; have e6 := q6.1; have e7 := q7.1; have e8 := q8.1; have e9 := q9.1
  have e10 := q10.2; have e11 := q11.1; have e12 := q12.2; have e13 := q13.1; have e14 := q14.2; have e15 := q15.2; have e16 := q15.1
  rw [sum_const 2] at e10
  simp only [show (2 : Int).toNat = 2 from rfl, show (4 : Int).toNat = 4 from rfl] at *
  have hi : (twoB is).length = 2 * is.length := by unfold twoB; rw [sum_flat]; simp only [beB_length]; exact sum_const 2 is
  unfold classB
  simp only [List.length_append, beB_length, sum_flat constB, sum_flat (fieldB (namedC pool valueS)), sum_flat (methB (namedC pool codeS)), hi]
  simp only [twoB, List.flatMap_cons, List.flatMap_nil, List.length_append, beB_length, List.length_nil]
  omega
end
/-- A reading whose errors are none of number 0. -/
def Sure {α : Type} (x : Out α) : Prop := ∀ p e, x = .bad p e → e ≠ 0
section
variable {α β : Type} {L : List UInt8}
theorem Sure.bind {x : Out α} {f : α → PS → Out β} (hx : Sure x) (hf : ∀ a s, Sure (f a s)) : Sure (x.bind f) := by
  intro p e h
  cases x with
  | ok a s => exact hf a s p e h
  | bad p' e' => cases h; exact hx _ _ rfl
theorem Sure.ok (a : α) (s : PS) : Sure (.ok a s) := fun p e h => by cases h
theorem Sure.bad {p e : Int} (h : e ≠ 0) : Sure (.bad p e : Out α) := fun p' e' q => by cases q; exact h
theorem Sure.ite {c : Prop} [Decidable c] {x y : Out α} (hx : Sure x) (hy : Sure y) : Sure (if c then x else y) := by split <;> assumption
theorem sure_bytes (n : Int) (s : PS) : Sure (bytesP L n s) := Sure.ite (Sure.bad (by decide)) (Sure.ite (Sure.bad (by decide)) (Sure.ok _ _))
theorem sure_num (n : Int) (s : PS) : Sure (numP L n s) := (sure_bytes n s).bind fun _ _ => Sure.ok _ _
theorem sure_count (m : Int) (s : PS) : Sure (countP L m s) := (sure_num 2 s).bind fun _ _ => Sure.ite (Sure.bad (by decide)) (Sure.ok _ _)
theorem sure_many {f : PS → Out α} (hf : ∀ s, Sure (f s)) : ∀ (k : Nat) (s : PS), Sure (manyP f k s)
  | 0, s => Sure.ok _ _
  | k + 1, s => (hf s).bind fun _ s1 => (sure_many hf k s1).bind fun _ _ => Sure.ok _ _
theorem sure_const (s : PS) : Sure (constP L s) := (sure_num 1 s).bind fun _ _ => Sure.ite ((sure_num _ _).bind fun _ _ => (sure_bytes _ _).bind fun _ _ => Sure.ok _ _) (Sure.ite ((sure_num _ _).bind fun _ _ => Sure.ok _ _) (Sure.ite ((sure_num _ _).bind fun _ _ => Sure.ok _ _) (Sure.ite ((sure_num _ _).bind fun _ _ => (sure_num _ _).bind fun _ _ => Sure.ok _ _) (Sure.bad (by decide)))))
theorem sure_name (pool : List ConstC) (s : PS) : Sure (nameP L pool s) := (sure_num 2 s).bind fun n t => by
  split
  · exact Sure.ite (Sure.ok _ _) (Sure.bad (by decide))
  · exact Sure.bad (by decide)
theorem sure_attr {pool : List ConstC} {want : ByteArray} {tell : α → Int → Int → PS → Out α} (ht : ∀ x p long s, Sure (tell x p long s)) : ∀ (k : Nat) (seen : Bool) (x : α) (s : PS), Sure (attrP L pool want tell k seen x s)
  | 0, seen, x, s => Sure.ok _ _
  | k + 1, seen, x, s => (sure_name pool s).bind fun _ s1 => Sure.ite (Sure.ite (Sure.bad (by decide)) ((sure_num _ _).bind fun _ _ => (ht _ _ _ _).bind fun _ s3 => sure_attr ht k true _ s3)) ((sure_num _ _).bind fun _ _ => (sure_bytes _ _).bind fun _ s3 => sure_attr ht k seen _ s3)
theorem sure_attrs {pool : List ConstC} {want : ByteArray} {tell : α → Int → Int → PS → Out α} (ht : ∀ x p long s, Sure (tell x p long s)) (x : α) (s : PS) : Sure (attrsP L pool want tell x s) := (sure_num _ _).bind fun _ _ => sure_attr ht _ _ _ _
theorem sure_skip (pool : List ConstC) (s : PS) : Sure (skipP L pool s) := sure_attrs (fun _ _ _ _ => Sure.ok _ _) _ _
theorem sure_field (pool : List ConstC) (s : PS) : Sure (fieldP L pool s) := (sure_num _ _).bind fun _ _ => (sure_num _ _).bind fun _ _ => (sure_num _ _).bind fun _ _ => (sure_attrs (fun _ _ _ _ => Sure.ite (Sure.bad (by decide)) (sure_num _ _)) _ _).bind fun _ _ => Sure.ok _ _
theorem sure_trap (s : PS) : Sure (trapP L s) := (sure_num _ _).bind fun _ _ => (sure_num _ _).bind fun _ _ => (sure_num _ _).bind fun _ _ => (sure_num _ _).bind fun _ _ => Sure.ok _ _
theorem sure_code (pool : List ConstC) (m : MethC) (p long : Int) (s : PS) : Sure (codeP L pool m p long s) := (sure_num _ _).bind fun _ _ => (sure_num _ _).bind fun _ _ => (sure_num _ _).bind fun _ _ => Sure.ite (Sure.bad (by decide)) ((sure_bytes _ _).bind fun _ _ => (sure_count _ _).bind fun _ _ => (sure_many sure_trap _ _).bind fun _ _ => (sure_skip _ _).bind fun _ _ => Sure.ite (Sure.bad (by decide)) (Sure.ok _ _))
theorem sure_meth (pool : List ConstC) (s : PS) : Sure (methP L pool s) := (sure_num _ _).bind fun _ _ => (sure_num _ _).bind fun _ _ => (sure_num _ _).bind fun _ _ => sure_attrs (fun _ _ _ _ => sure_code _ _ _ _ _) _ _
theorem sure_class (s : PS) : Sure (classP L s) := (sure_num _ _).bind fun _ _ => Sure.ite (Sure.bad (by decide)) ((sure_num _ _).bind fun _ _ => (sure_num _ _).bind fun _ _ => (sure_count _ _).bind fun _ _ => Sure.ite (Sure.bad (by decide)) ((sure_many sure_const _ _).bind fun _ _ => (sure_num _ _).bind fun _ _ => (sure_num _ _).bind fun _ _ => (sure_num _ _).bind fun _ _ => (sure_count _ _).bind fun _ _ => (sure_many (sure_num _) _ _).bind fun _ _ => (sure_count _ _).bind fun _ _ => (sure_many (sure_field _) _ _).bind fun _ _ => (sure_count _ _).bind fun _ _ => (sure_many (sure_meth _) _ _).bind fun _ _ => (sure_skip _ _).bind fun _ _ => Sure.ite (Sure.bad (by decide)) (Sure.ok _ _)))
theorem read_short {c : ClassC} {p : Int} (h : readP L = (c, p, 0)) : (classB c).length ≤ L.length ∧ ∀ k ∈ c.pool, k.text.size ≤ L.length := by
  unfold readP at h
  split at h
  · cases h
  split at h
  · rename_i d t hd
    cases h
    have := class_ate (by simp) hd
    exact ⟨by simpa using this.1, this.2⟩
  · rename_i p' e' hd
    cases h
    exact absurd rfl (sure_class _ _ _ hd)
end
end Go.Proofs.Ytbalmfoboaapjaa
