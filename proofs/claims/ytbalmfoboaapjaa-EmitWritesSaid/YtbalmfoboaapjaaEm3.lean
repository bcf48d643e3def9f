/-
  What is written is read as itself: the class: plain. Classes that are both written, and unlike, have unlike bytes.
-/
import Derived.Test.YtbalmfoboaapjaaEm2
namespace Go.Proofs.Ytbalmfoboaapjaa
set_option linter.unusedVariables false
set_option linter.unusedSimpArgs false
open Go.RowKit
set_option maxRecDepth 100000

section
variable (L : List UInt8)
def clsJ4 (mi ma : Int) (pl : List ConstC) (acc th su : Int) (is : List Int) (fs : List FieldC) (s12 : PS) : Out ClassC :=
  (countP L 64 s12).bind fun nm s13 => (manyP (methP L pl) nm.toNat s13).bind fun ms s14 => (skipP L pl s14).bind fun _ s15 => .ok ⟨mi, ma, pl, acc, th, su, is, fs, ms⟩ s15
def clsJ3 (mi ma : Int) (pl : List ConstC) (acc th su : Int) (is : List Int) (s10 : PS) : Out ClassC :=
  (countP L 64 s10).bind fun nf s11 => (manyP (fieldP L pl) nf.toNat s11).bind fun fs s12 => clsJ4 L mi ma pl acc th su is fs s12
def clsJ2 (mi ma : Int) (pl : List ConstC) (acc th su : Int) (s8 : PS) : Out ClassC :=
  (countP L 64 s8).bind fun ni s9 => (manyP (numP L 2) ni.toNat s9).bind fun is s10 => clsJ3 L mi ma pl acc th su is s10
def clsJ1 (mi ma : Int) (pl : List ConstC) (s5 : PS) : Out ClassC := (numP L 2 s5).bind fun acc s6 => (numP L 2 s6).bind fun th s7 => (numP L 2 s7).bind fun su s8 => clsJ2 L mi ma pl acc th su s8
def clsJ0 (s : PS) : Out ClassC := (numP L 4 s).bind fun magic s1 => if magic ≠ 3405691582 then .bad 0 11 else
  (numP L 2 s1).bind fun mi s2 => (numP L 2 s2).bind fun ma s3 => (countP L 1025 s3).bind fun n s4 => if n = 0 then .bad s3.at_ 20 else (manyP (constP L) (n.toNat - 1) s4).bind fun pool s5 => clsJ1 L mi ma pool s5
theorem classP_J (s : PS) : classP L s = (clsJ0 L s).bind fun c t => if t.at_ < L.length then .bad t.at_ 14 else .ok c t := by
  unfold classP clsJ0
  rw [Out.bind_assoc]
  congr 1; funext magic s1
  split
  · rfl
  rw [Out.bind_assoc]
  congr 1; funext mi s2
  rw [Out.bind_assoc]
  congr 1; funext ma s3
  rw [Out.bind_assoc]
  congr 1; funext n s4
  split
  · rfl
  unfold clsJ1 clsJ2 clsJ3 clsJ4
  simp only [Out.bind_assoc, Out.bind_ok]
end
theorem flat_eats (l : List Int) : twoB l = l.flatMap (fun x => beB 2 x) := rfl
/-- A class that may be written. -/
structure FitC (c : ClassC) : Prop where
  long : ¬ longC c
  kind : ∀ k ∈ c.pool, kindC k.tag
  args : argsC c
  lack : ¬ lackC c
theorem fit_of {c : ClassC} (h : refusedC c = 0) : FitC c := by
  unfold refusedC at h
  split at h
  · cases h
  rename_i h1
  split at h
  · cases h
  rename_i h2
  split at h
  · cases h
  rename_i h3
  split at h
  · cases h
  rename_i h4
  refine ⟨h1, fun k hk => ?_, Classical.not_not.1 h3, h4⟩
  by_cases hh : kindC k.tag
  · exact hh
  · exact absurd ⟨k, hk, hh⟩ h2
theorem eats_class {c : ClassC} (h : FitC c) : EatsF clsJ0 (classB c) c := by
  obtain ⟨mi, ma, pool, acc, th, su, is, fs, ms⟩ := c
  obtain ⟨hl, hk, ⟨a1, a2, a3, a4, a5, a6, a7, a8, a9⟩, hx⟩ := h
  unfold longC at hl
  unfold lackC at hx
  dsimp only at *
  have l1 : pool.length ≤ 1024 := by omega
  have l2 : is.length ≤ 64 := by omega
  have l3 : fs.length ≤ 64 := by omega
  have l4 : ms.length ≤ 64 := by omega
  have l5 : ∀ m ∈ ms, m.traps.length ≤ 64 ∧ m.code.length ≤ 4096 := fun m hm => by
    constructor
    · rcases Nat.lt_or_ge 64 m.traps.length with hh | hh
      · exact absurd (.inr (.inr (.inr (.inr ⟨m, hm, .inl hh⟩)))) hl
      · exact hh
    · rcases Nat.lt_or_ge 4096 m.code.length with hh | hh
      · exact absurd (.inr (.inr (.inr (.inr ⟨m, hm, .inr hh⟩)))) hl
      · exact hh
  have hmeth := eatsF_many (f := fun L s => methP L pool s) (methB (namedC pool codeS)) id ms fun m hm => eatsF_meth (a9 m hm) (l5 m hm).2 (l5 m hm).1 (fun hh e => hx (.inr ⟨⟨m, hm, hh⟩, e⟩)) (by omega)
  have hfield := eats_many (f := fun L s => fieldP L pool s) (fieldB (namedC pool valueS)) id fs fun f hf => eats_field (a8 f hf) (fun hh e => hx (.inl ⟨⟨f, hf, hh⟩, e⟩)) (by omega)
  have hface := eats_many (f := fun L s => numP L 2 s) (fun x => beB 2 x) id is fun i hi => eats_two (a6 i hi)
  have hconst := eats_many (f := constP) constB id pool fun k hkk => eats_const (hk k hkk) (a7 k hkk)
  rw [List.map_id] at hmeth hfield hface hconst
  have e4 : EatsF (fun L s => clsJ4 L mi ma pool acc th su is fs s) (beB 2 (ms.length : Int) ++ (ms.flatMap (methB (namedC pool codeS)) ++ beB 2 0)) ⟨mi, ma, pool, acc, th, su, is, fs, ms⟩ := by
    unfold clsJ4
    exact (eats_count (v := (ms.length : Int)) (most := 64) (by omega) (by omega) (by omega)).toF.bind (β := ClassC) (g := fun nm L s13 => (manyP (methP L pool) nm.toNat s13).bind fun ms s14 => (skipP L pool s14).bind fun _ s15 => .ok ⟨mi, ma, pool, acc, th, su, is, fs, ms⟩ s15)
      (hmeth.bind (β := ClassC) (g := fun ms L s14 => (skipP L pool s14).bind fun _ s15 => .ok ⟨mi, ma, pool, acc, th, su, is, fs, ms⟩ s15) ((eats_skip pool).toF.map fun _ => (⟨mi, ma, pool, acc, th, su, is, fs, ms⟩ : ClassC)))
  have e3 : EatsF (fun L s => clsJ3 L mi ma pool acc th su is s) (beB 2 (fs.length : Int) ++ (fs.flatMap (fieldB (namedC pool valueS)) ++ (beB 2 (ms.length : Int) ++ (ms.flatMap (methB (namedC pool codeS)) ++ beB 2 0)))) ⟨mi, ma, pool, acc, th, su, is, fs, ms⟩ := by
    unfold clsJ3
    exact (eats_count (v := (fs.length : Int)) (most := 64) (by omega) (by omega) (by omega)).toF.bind (g := fun nf L s11 => (manyP (fieldP L pool) nf.toNat s11).bind fun fs s12 => clsJ4 L mi ma pool acc th su is fs s12)
      (hfield.toF.bind (g := fun fs L s12 => clsJ4 L mi ma pool acc th su is fs s12) e4)
  have e2 : EatsF (fun L s => clsJ2 L mi ma pool acc th su s) (beB 2 (is.length : Int) ++ (is.flatMap (fun x => beB 2 x) ++ (beB 2 (fs.length : Int) ++ (fs.flatMap (fieldB (namedC pool valueS)) ++ (beB 2 (ms.length : Int) ++ (ms.flatMap (methB (namedC pool codeS)) ++ beB 2 0)))))) ⟨mi, ma, pool, acc, th, su, is, fs, ms⟩ := by
    unfold clsJ2
    exact (eats_count (v := (is.length : Int)) (most := 64) (by omega) (by omega) (by omega)).toF.bind (g := fun ni L s9 => (manyP (numP L 2) ni.toNat s9).bind fun is s10 => clsJ3 L mi ma pool acc th su is s10)
      (hface.toF.bind (g := fun is L s10 => clsJ3 L mi ma pool acc th su is s10) e3)
  have e1 : EatsF (fun L s => clsJ1 L mi ma pool s) (beB 2 acc ++ (beB 2 th ++ (beB 2 su ++ (beB 2 (is.length : Int) ++ (is.flatMap (fun x => beB 2 x) ++ (beB 2 (fs.length : Int) ++ (fs.flatMap (fieldB (namedC pool valueS)) ++ (beB 2 (ms.length : Int) ++ (ms.flatMap (methB (namedC pool codeS)) ++ beB 2 0))))))))) ⟨mi, ma, pool, acc, th, su, is, fs, ms⟩ := by
    unfold clsJ1
    exact (eats_two a3).toF.bind (g := fun acc L s6 => (numP L 2 s6).bind fun th s7 => (numP L 2 s7).bind fun su s8 => clsJ2 L mi ma pool acc th su s8)
      ((eats_two a4).toF.bind (g := fun th L s7 => (numP L 2 s7).bind fun su s8 => clsJ2 L mi ma pool acc th su s8) ((eats_two a5).toF.bind (g := fun su L s8 => clsJ2 L mi ma pool acc th su s8) e2))
  have e0 : EatsF (fun L s3 => (countP L 1025 s3).bind fun n s4 => if n = 0 then .bad s3.at_ 20 else (manyP (constP L) (n.toNat - 1) s4).bind fun pool s5 => clsJ1 L mi ma pool s5) (beB 2 ((pool.length : Int) + 1) ++ (pool.flatMap constB ++ (beB 2 acc ++ (beB 2 th ++ (beB 2 su ++ (beB 2 (is.length : Int) ++ (is.flatMap (fun x => beB 2 x) ++ (beB 2 (fs.length : Int) ++ (fs.flatMap (fieldB (namedC pool valueS)) ++ (beB 2 (ms.length : Int) ++ (ms.flatMap (methB (namedC pool codeS)) ++ beB 2 0))))))))))) ⟨mi, ma, pool, acc, th, su, is, fs, ms⟩ := by
    refine EatsF.bindS (f := fun L s => countP L 1025 s) (g := fun s3 n L s4 => if n = 0 then .bad s3.at_ 20 else (manyP (constP L) (n.toNat - 1) s4).bind fun pool s5 => clsJ1 L mi ma pool s5) (eats_count (v := (pool.length : Int) + 1) (most := 1025) (by omega) (by omega) (by omega)).toF fun s0 => ?_
    have hne : ¬ (pool.length : Int) + 1 = 0 := by omega
    have hnn : ((pool.length : Int) + 1).toNat - 1 = pool.length := by omega
    simp only [if_neg hne, hnn]
    exact hconst.toF.bind (g := fun pool L s5 => clsJ1 L mi ma pool s5) e1
  unfold classB
  simp only [twoB_cons, twoB_nil, List.append_nil, List.append_assoc]
  rw [flat_eats is]
  refine (eats_four (v := 3405691582) (by decide) (by decide)).toF.bind (g := fun magic L s1 => if magic ≠ 3405691582 then .bad 0 11 else (numP L 2 s1).bind fun mi s2 => (numP L 2 s2).bind fun ma s3 => (countP L 1025 s3).bind fun n s4 => if n = 0 then .bad s3.at_ 20 else (manyP (constP L) (n.toNat - 1) s4).bind fun pool s5 => clsJ1 L mi ma pool s5) ?_
  have hm : ¬ (3405691582 : Int) ≠ 3405691582 := fun e => e rfl
  simp only [if_neg hm]
  exact (eats_two a1).toF.bind (g := fun mi L s2 => (numP L 2 s2).bind fun ma s3 => (countP L 1025 s3).bind fun n s4 => if n = 0 then .bad s3.at_ 20 else (manyP (constP L) (n.toNat - 1) s4).bind fun pool s5 => clsJ1 L mi ma pool s5)
    ((eats_two a2).toF.bind (g := fun ma L s3 => (countP L 1025 s3).bind fun n s4 => if n = 0 then .bad s3.at_ 20 else (manyP (constP L) (n.toNat - 1) s4).bind fun pool s5 => clsJ1 L mi ma pool s5) e0)
/-- What is written is read as itself. -/
theorem read_back {c : ClassC} (h : FitC c) (hl : (classB c).length ≤ 65536) : readP (classB c) = (c, 0, 0) := by
  unfold readP
  rw [if_neg (by omega), classP_J]
  obtain ⟨nm, e⟩ := eats_class h [] [] 0 (by unfold far; simp only [List.length_nil]; omega)
  simp only [List.nil_append, List.append_nil, List.length_nil, Nat.zero_add] at e
  rw [show (⟨0, far, 0⟩ : PS) = ⟨0, far, (0 : Int)⟩ from rfl, e, Out.bind_ok, if_neg (by simp)]
theorem write_ok {c : ClassC} (h : (writeC c).2 = 0) : FitC c ∧ (classB c).length ≤ 65536 ∧ writeC c = (classB c, 0) := by
  unfold writeC at h ⊢
  split at h
  · rename_i h0; exact absurd h h0
  rename_i h0
  rw [if_neg h0]
  split at h
  · cases h
  rename_i h1
  rw [if_neg h1]
  exact ⟨fit_of (Classical.not_not.1 h0), by omega, rfl⟩
/-- Unlike classes have unlike bytes. -/
theorem write_inj {c d : ClassC} (hc : (writeC c).2 = 0) (hd : (writeC d).2 = 0) : (writeC c).1 = (writeC d).1 ↔ c = d := by
  obtain ⟨f1, l1, e1⟩ := write_ok hc
  obtain ⟨f2, l2, e2⟩ := write_ok hd
  rw [e1, e2]
  refine ⟨fun h => ?_, fun h => by rw [h]⟩
  have h1 := read_back f1 l1
  have h2 := read_back f2 l2
  have h : classB c = classB d := h
  rw [h, h2] at h1
  injection h1 with h1 _
  exact h1.symm
end Go.Proofs.Ytbalmfoboaapjaa
