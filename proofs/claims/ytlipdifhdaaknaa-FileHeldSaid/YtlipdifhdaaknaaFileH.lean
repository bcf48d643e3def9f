/-
  Bytes missing at the end, bytes more: plain, without a program in sight.
-/
import Derived.Test.YtlipdifhdaaknaaFileG
namespace Go.Proofs.Ytlipdifhdaaknaa
open Go.RowKit
set_option maxRecDepth 100000

/-- A reading that is told by the bytes it goes over alone: more behind them turns nothing; where some are missing it ends with ErrEnd at a place that is there. -/
def Nice {α : Type} (f : List UInt8 → PS → Out α) : Prop := ∀ (L M : List UInt8) (s : PS), s.at_ ≤ L.length →
  (∀ a s', f L s = .ok a s' → f (L ++ M) s = .ok a s' ∧ s'.at_ ≤ L.length) ∧
  (∀ a s', f (L ++ M) s = .ok a s' → (f L s = .ok a s' ∧ s'.at_ ≤ L.length) ∨ ∃ p : Nat, f L s = .bad p 10 ∧ p ≤ L.length) ∧
  (∀ p e, f L s = .bad p e → e ≠ 0)
section
variable {α β : Type} {f : List UInt8 → PS → Out α} {g : α → List UInt8 → PS → Out β}
theorem Nice.ok (a : α) : Nice (fun _ s => .ok a s) := fun L M s hs => ⟨fun b s' h => by cases h; exact ⟨rfl, hs⟩, fun b s' h => by cases h; exact .inl ⟨rfl, hs⟩, fun p e h => by cases h⟩
theorem Nice.okS (a : α) (m : PS → PS) (hm : ∀ s, (m s).at_ = s.at_) : Nice (fun _ s => .ok a (m s)) := fun L M s hs => ⟨fun b s' h => by cases h; exact ⟨rfl, by rw [hm]; exact hs⟩, fun b s' h => by cases h; exact .inl ⟨rfl, by rw [hm]; exact hs⟩, fun p e h => by cases h⟩
theorem Nice.bad (p : PS → Int) (e : Int) (he : e ≠ 0 := by decide) : Nice (fun _ s => (.bad (p s) e : Out α)) := fun L M s hs => ⟨fun b s' h => (by cases h), fun b s' h => (by cases h), fun p' e' h => by cases h; exact he⟩
theorem Nice.bind (hf : Nice f) (hg : ∀ a, Nice (g a)) : Nice (fun L s => (f L s).bind fun a s' => g a L s') := by
  intro L M s hs
  obtain ⟨h1, h2, h3⟩ := hf L M s hs
  refine ⟨?_, ?_, ?_⟩
  · intro b s' h
    dsimp only at h
    cases hL : f L s with
    | bad p e => rw [hL] at h; cases h
    | ok a s1 =>
      rw [hL] at h
      obtain ⟨e1, e2⟩ := h1 a s1 hL
      obtain ⟨k1, _, _⟩ := hg a L M s1 e2
      dsimp only
      rw [e1]
      exact k1 b s' h
  · intro b s' h
    dsimp only at h
    cases hL : f (L ++ M) s with
    | bad p e => rw [hL] at h; cases h
    | ok a s1 =>
      rw [hL] at h
      dsimp only
      rcases h2 a s1 hL with ⟨e1, e2⟩ | ⟨p, e1, e2⟩
      · obtain ⟨_, k2, _⟩ := hg a L M s1 e2
        rw [e1]
        exact k2 b s' h
      · rw [e1]
        exact .inr ⟨p, rfl, e2⟩
  · intro p e h
    dsimp only at h
    cases hL : f L s with
    | bad p' e' =>
      rw [hL] at h
      injection h with e1 e2
      subst e1
      subst e2
      exact h3 _ _ hL
    | ok a s1 =>
      rw [hL] at h
      exact (hg a L M s1 (h1 a s1 hL).2).2.2 p e h
theorem Nice.ite (c : PS → Prop) [∀ s, Decidable (c s)] {f' : List UInt8 → PS → Out α} (hf : Nice f) (hf' : Nice f') : Nice (fun L s => if c s then f L s else f' L s) := by
  intro L M s hs
  dsimp only
  by_cases hc : c s
  · simp only [if_pos hc]
    exact hf L M s hs
  · simp only [if_neg hc]
    exact hf' L M s hs
theorem Nice.pre (m : PS → PS) (hm : ∀ s, (m s).at_ = s.at_) (hf : Nice f) : Nice (fun L s => f L (m s)) := fun L M s hs => hf L M (m s) (by rw [hm]; exact hs)
/-- What hangs on where one began. -/
theorem Nice.at {f : PS → List UInt8 → PS → Out α} (hf : ∀ s0, Nice (f s0)) : Nice (fun L s => f s L s) := fun L M s hs => hf s L M s hs
end
theorem nice_bytes (n : Int) : Nice (fun L s => bytesP L n s) := by
  intro L M s hs
  unfold bytesP
  refine ⟨?_, ?_, ?_⟩
  · intro a s' h
    dsimp only at h ⊢
    by_cases h1 : (L.length : Int) - s.at_ < n
    · rw [if_pos h1] at h; cases h
    · rw [if_neg h1] at h
      by_cases h2 : s.most - s.at_ < n
      · rw [if_pos h2] at h; cases h
      · rw [if_neg h2] at h
        rw [if_neg (by rw [List.length_append]; omega), if_neg h2]
        injection h with ha hs'
        subst ha
        subst hs'
        refine ⟨?_, ?_⟩
        · rw [List.drop_append_of_le_length hs, List.take_append_of_le_length (by rw [List.length_drop]; omega)]
        · show s.at_ + n.toNat ≤ L.length
          omega
  · intro a s' h
    dsimp only at h ⊢
    by_cases h0 : ((L ++ M).length : Int) - s.at_ < n
    · rw [if_pos h0] at h; cases h
    rw [if_neg h0] at h
    by_cases h2 : s.most - s.at_ < n
    · rw [if_pos h2] at h; cases h
    rw [if_neg h2] at h
    injection h with ha hs'
    subst ha
    subst hs'
    by_cases h1 : (L.length : Int) - s.at_ < n
    · rw [if_pos h1]
      exact .inr ⟨s.at_, rfl, hs⟩
    · rw [if_neg h1, if_neg h2]
      refine .inl ⟨?_, ?_⟩
      · rw [List.drop_append_of_le_length hs, List.take_append_of_le_length (by rw [List.length_drop]; omega)]
      · show s.at_ + n.toNat ≤ L.length
        omega
  · intro p e h
    dsimp only at h
    by_cases h1 : (L.length : Int) - s.at_ < n
    · rw [if_pos h1] at h
      cases h
      decide
    · rw [if_neg h1] at h
      by_cases h2 : s.most - s.at_ < n
      · rw [if_pos h2] at h
        cases h
        decide
      · rw [if_neg h2] at h
        cases h
theorem nice_num (n : Int) : Nice (fun L s => numP L n s) := (nice_bytes n).bind fun l => Nice.ok _
theorem nice_count (m : Int) : Nice (fun L s => countP L m s) := by
  refine Nice.at (f := fun s0 L s => (numP L 2 s).bind fun n t => if m < n then .bad s0.at_ 2 else .ok n t) fun s0 => (nice_num 2).bind fun n => ?_
  exact Nice.ite (fun _ => m < n) (Nice.bad (fun _ => s0.at_) 2) (Nice.ok n)
theorem nice_many {α : Type} {f : List UInt8 → PS → Out α} (hf : Nice f) : ∀ k, Nice (fun L s => manyP (f L) k s)
  | 0 => Nice.ok []
  | k + 1 => hf.bind fun x => (nice_many hf k).bind fun l => Nice.ok _
theorem nice_const : Nice constP := by
  refine Nice.at (f := fun s0 L s => (numP L 1 s).bind fun t s1 => _) fun s0 => (nice_num 1).bind fun t => ?_
  refine Nice.ite (fun _ => t = 1) ((nice_num 2).bind fun n => (nice_bytes n).bind fun l => Nice.ok _) ?_
  refine Nice.ite (fun _ => t = 3) ((nice_num 4).bind fun n => Nice.ok _) ?_
  refine Nice.ite (fun _ => t = 7) ((nice_num 2).bind fun n => Nice.ok _) ?_
  exact Nice.ite (fun _ => t = 9 ∨ t = 10 ∨ t = 11 ∨ t = 12) ((nice_num 2).bind fun n => (nice_num 2).bind fun m => Nice.ok _) (Nice.bad (fun _ => s0.at_) 13)
theorem nice_name (pool : List ConstC) : Nice (fun L s => nameP L pool s) := by
  refine Nice.at (f := fun s0 L s => (numP L 2 s).bind fun n t => match (if 1 ≤ n then pool[n.toNat - 1]? else none) with
  | some c => if c.tag = 1 then .ok c.text t else .bad s0.at_ 20
  | none => .bad s0.at_ 20) fun s0 => (nice_num 2).bind fun n => ?_
  cases hc : (if 1 ≤ n then pool[n.toNat - 1]? else none) with
  | none => exact Nice.bad (fun _ => s0.at_) 20
  | some c => exact Nice.ite (fun _ => c.tag = 1) (Nice.ok _) (Nice.bad (fun _ => s0.at_) 20)
theorem nice_attr (pool : List ConstC) {σ : Type} (want : ByteArray) {tell : List UInt8 → σ → Int → Int → PS → Out σ} (ht : ∀ x p l, Nice (fun L s => tell L x p l s)) : ∀ (k : Nat) (seen : Bool) (x : σ), Nice (fun L s => attrP L pool want (tell L) k seen x s)
  | 0, _, x => Nice.ok x
  | k + 1, seen, x => by
    refine Nice.at (f := fun s0 L s => (nameP L pool s).bind fun nm s1 =>
      if nm = want ∧ want.size ≠ 0 then
        (if seen = true then .bad s0.at_ 24 else (numP L 4 s1).bind fun long s2 => (tell L x s0.at_ long s2).bind fun y s3 => attrP L pool want (tell L) k true y s3)
      else (numP L 4 s1).bind fun long s2 => (bytesP L long s2).bind fun _ s3 => attrP L pool want (tell L) k seen x s3) fun s0 => (nice_name pool).bind fun nm => ?_
    refine Nice.ite (fun _ => nm = want ∧ want.size ≠ 0) ?_ ((nice_num 4).bind fun l => (nice_bytes l).bind fun _ => nice_attr pool want ht k seen x)
    exact Nice.ite (fun _ => seen = true) (Nice.bad (fun _ => s0.at_) 24) ((nice_num 4).bind fun l => (ht x s0.at_ l).bind fun y => nice_attr pool want ht k true y)
theorem nice_attrs (pool : List ConstC) {σ : Type} (want : ByteArray) {tell : List UInt8 → σ → Int → Int → PS → Out σ} (ht : ∀ x p l, Nice (fun L s => tell L x p l s)) (x : σ) : Nice (fun L s => attrsP L pool want (tell L) x s) :=
  (nice_num 2).bind fun n => nice_attr pool want ht n.toNat false x
theorem nice_skip (pool : List ConstC) : Nice (fun L s => skipP L pool s) := nice_attrs pool _ (tell := fun _ x _ _ t => .ok x t) (fun x _ _ => Nice.ok x) ()
theorem nice_field (pool : List ConstC) : Nice (fun L s => fieldP L pool s) :=
  (nice_num 2).bind fun a => (nice_num 2).bind fun n => (nice_num 2).bind fun d =>
    (nice_attrs pool valueS (tell := fun L _ p long t => if long ≠ 2 then .bad p 26 else numP L 2 t) (fun _ p l => Nice.ite (fun _ => l ≠ 2) (Nice.bad (fun _ => p) 26) (nice_num 2)) 0).bind fun v => Nice.ok _
theorem nice_trap : Nice trapP := (nice_num 2).bind fun a => (nice_num 2).bind fun b => (nice_num 2).bind fun c => (nice_num 2).bind fun d => Nice.ok _
theorem nice_code (pool : List ConstC) (m : MethC) (p long : Int) : Nice (fun L s => codeP L pool m p long s) := by
  refine Nice.at (f := fun s0 L s => (numP L 2 { s with most := s0.at_ + long, named := p }).bind _) fun s0 => ?_
  refine Nice.bind (f := fun L s => numP L 2 { s with most := s0.at_ + long, named := p }) (Nice.pre (fun s => { s with most := s0.at_ + long, named := p }) (fun _ => rfl) (nice_num 2)) fun st => (nice_num 2).bind fun lo => ?_
  refine Nice.at (f := fun s2 L s => (numP L 4 s).bind fun n s3 => if 4096 < n then .bad s2.at_ 2 else
    (bytesP L n s3).bind fun code s4 => (countP L 64 s4).bind fun k s5 => (manyP (trapP L) k.toNat s5).bind fun traps s6 =>
    (skipP L pool s6).bind fun _ s7 => if (s7.at_ : Int) ≠ s7.most then .bad p 25 else
    .ok { m with has := true, stack := st, locals := lo, code := code, traps := m.traps ++ traps } { s7 with most := far }) fun s2 => (nice_num 4).bind fun n => ?_
  refine Nice.ite (fun _ => 4096 < n) (Nice.bad (fun _ => s2.at_) 2) ((nice_bytes n).bind fun code => (nice_count 64).bind fun k => (nice_many nice_trap k.toNat).bind fun traps => (nice_skip pool).bind fun _ => ?_)
  exact Nice.ite (fun s7 => (s7.at_ : Int) ≠ s7.most) (Nice.bad (fun _ => p) 25) (Nice.okS _ (fun s7 => { s7 with most := far }) fun _ => rfl)
theorem nice_meth (pool : List ConstC) : Nice (fun L s => methP L pool s) :=
  (nice_num 2).bind fun a => (nice_num 2).bind fun n => (nice_num 2).bind fun d => nice_attrs pool codeS (tell := fun L => codeP L pool) (fun m p l => nice_code pool m p l) _
/-- What class does but for its last look. -/
def preP2 (mi ma : Int) (pool : List ConstC) (L : List UInt8) (s5 : PS) : Out ClassC := (numP L 2 s5).bind fun acc s6 => (numP L 2 s6).bind fun th s7 => (numP L 2 s7).bind fun su s8 =>
  (countP L 64 s8).bind fun ni s9 => (manyP (numP L 2) ni.toNat s9).bind fun is s10 =>
  (countP L 64 s10).bind fun nf s11 => (manyP (fieldP L pool) nf.toNat s11).bind fun fs s12 =>
  (countP L 64 s12).bind fun nm s13 => (manyP (methP L pool) nm.toNat s13).bind fun ms s14 =>
  (skipP L pool s14).bind fun _ s15 => .ok ⟨mi, ma, pool, acc, th, su, is, fs, ms⟩ s15
def preP1 (mi ma : Int) (L : List UInt8) (s3 : PS) : Out ClassC := (countP L 1025 s3).bind fun n s4 => if n = 0 then .bad s3.at_ 20 else (manyP (constP L) (n.toNat - 1) s4).bind fun pool s5 => preP2 mi ma pool L s5
def preP (L : List UInt8) (s : PS) : Out ClassC := (numP L 4 s).bind fun magic s1 => if magic ≠ 3405691582 then .bad 0 11 else
  (numP L 2 s1).bind fun mi s2 => (numP L 2 s2).bind fun ma s3 => preP1 mi ma L s3
theorem Out.ite_bind {α β : Type} (c : Prop) [Decidable c] (x y : Out α) (f : α → PS → Out β) : (if c then x else y).bind f = if c then x.bind f else y.bind f := by split <;> rfl
theorem classP_pre (L : List UInt8) (s : PS) : classP L s = (preP L s).bind fun c s15 => if s15.at_ < L.length then .bad s15.at_ 14 else .ok c s15 := by
  unfold classP preP preP1 preP2
  simp only [Out.bind_assoc, Out.bind_ok, Out.ite_bind, Out.bind_bad]
theorem nice_pre2 (mi ma : Int) (pool : List ConstC) : Nice (preP2 mi ma pool) :=
  (nice_num 2).bind fun acc => (nice_num 2).bind fun th => (nice_num 2).bind fun su => (nice_count 64).bind fun ni => (nice_many (nice_num 2) _).bind fun is =>
    (nice_count 64).bind fun nf => (nice_many (nice_field pool) _).bind fun fs => (nice_count 64).bind fun nm => (nice_many (nice_meth pool) _).bind fun ms => (nice_skip pool).bind fun _ => Nice.ok _
theorem nice_pre1 (mi ma : Int) : Nice (preP1 mi ma) := by
  refine Nice.at (f := fun s3 L s => (countP L 1025 s).bind fun n s4 => if n = 0 then .bad s3.at_ 20 else (manyP (constP L) (n.toNat - 1) s4).bind fun pool s5 => preP2 mi ma pool L s5) fun s3 => (nice_count 1025).bind fun n => ?_
  exact Nice.ite (fun _ => n = 0) (Nice.bad (fun _ => s3.at_) 20) ((nice_many nice_const _).bind fun pool => nice_pre2 mi ma pool)
theorem nice_pre : Nice preP :=
  (nice_num 4).bind fun magic => Nice.ite (fun _ => magic ≠ 3405691582) (Nice.bad (fun _ => 0) 11) ((nice_num 2).bind fun mi => (nice_num 2).bind fun ma => nice_pre1 mi ma)
/-- What is read without an error: read to the last byte. -/
theorem read_ok {L : List UInt8} (h : (readP L).2.2 = 0) : L.length ≤ 65536 ∧ ∃ c s, preP L ⟨0, far, 0⟩ = .ok c s ∧ s.at_ = L.length ∧ readP L = (c, 0, 0) := by
  unfold readP at h ⊢
  by_cases hl : 65536 < L.length
  · rw [if_pos hl] at h; cases h
  rw [if_neg hl] at h ⊢
  refine ⟨by omega, ?_⟩
  rw [classP_pre] at h ⊢
  obtain ⟨n1, _, n3⟩ := nice_pre L [] ⟨0, far, 0⟩ (Nat.zero_le _)
  cases hp : preP L ⟨0, far, 0⟩ with
  | bad p e =>
    rw [hp, Out.bind_bad] at h
    exact absurd h (n3 _ _ hp)
  | ok c s =>
    rw [hp, Out.bind_ok] at h
    have hs := (n1 _ _ hp).2
    by_cases hlt : s.at_ < L.length
    · rw [if_pos hlt] at h; cases h
    · refine ⟨c, s, rfl, by omega, ?_⟩
      rw [Out.bind_ok, if_neg hlt]
/-- Some bytes at the end are missing. -/
theorem read_cut {L : List UInt8} (h : (readP L).2.2 = 0) {k : Nat} (hk : k < L.length) : ∃ p : Nat, readP (L.take k) = (zeroC, (p : Int), 10) ∧ p ≤ k := by
  obtain ⟨hl, c, s, hp, hs, _⟩ := read_ok h
  have hkl : (L.take k).length = k := by rw [List.length_take]; omega
  obtain ⟨_, n2, _⟩ := nice_pre (L.take k) (L.drop k) ⟨0, far, 0⟩ (Nat.zero_le _)
  rw [List.take_append_drop] at n2
  rcases n2 c s hp with ⟨_, e2⟩ | ⟨p, e1, e2⟩
  · omega
  · refine ⟨p, ?_, by omega⟩
    unfold readP
    rw [if_neg (by omega), classP_pre, e1, Out.bind_bad]
/-- Bytes more. -/
theorem read_more {L M : List UInt8} (h : (readP L).2.2 = 0) (hM : M ≠ []) (hl : (L ++ M).length ≤ 65536) : readP (L ++ M) = (zeroC, (L.length : Int), 14) := by
  obtain ⟨_, c, s, hp, hs, _⟩ := read_ok h
  obtain ⟨n1, _, _⟩ := nice_pre L M ⟨0, far, 0⟩ (Nat.zero_le _)
  have hM0 : 0 < M.length := List.length_pos_iff.2 hM
  unfold readP
  rw [if_neg (by omega), classP_pre, (n1 c s hp).1, Out.bind_ok, if_pos (by rw [List.length_append]; omega), hs]
end Go.Proofs.Ytlipdifhdaaknaa
