/-
  What is written is read as itself: fields, methods, the class: plain.
-/
import Derived.Test.YtbalmfoboaapjaaEm1
namespace Go.Proofs.Ytbalmfoboaapjaa
set_option linter.unusedVariables false
set_option linter.unusedSimpArgs false
open Go.RowKit
set_option maxRecDepth 100000

theorem eats_skip (pool : List ConstC) : Eats (fun L s => skipP L pool s) (beB 2 0) () := eats_attr0 pool ⟨#[]⟩ (fun _ x _ _ t => .ok x t) ()
theorem eats_field {pool : List ConstC} {f : FieldC} (hf : fairF f) (hv : f.value ≠ 0 → namedC pool valueS ≠ 0) (hl : pool.length ≤ 65535) : Eats (fun L s => fieldP L pool s) (fieldB (namedC pool valueS) f) f := by
  obtain ⟨a, n, d, v⟩ := f
  obtain ⟨ha, hn, hd, hvv⟩ := hf
  dsimp only at *
  have hat : Eats (fun L s => attrsP L pool valueS (fun _ p long t => if long ≠ 2 then .bad p 26 else numP L 2 t) 0 s) (if v = 0 then beB 2 0 else twoB [1, (namedC pool valueS : Int)] ++ beB 4 2 ++ beB 2 v) v := by
    by_cases h0 : v = 0
    · subst h0
      rw [if_pos rfl]
      exact eats_attr0 pool valueS (fun L _ p long t => if long ≠ 2 then .bad p 26 else numP L 2 t) 0
    · rw [if_neg h0]
      obtain ⟨k, hk⟩ : ∃ k, namedC pool valueS = k + 1 := ⟨namedC pool valueS - 1, by have := hv h0; omega⟩
      refine eats_attr1 (tell := fun L _ p long t => if long ≠ 2 then .bad p 26 else numP L 2 t) hk hl (by decide) (by decide) (by decide) fun p => ?_
      have := eats_two hvv
      simpa using this
  unfold fieldB
  simp only [twoB_cons, twoB_nil, List.append_nil, List.append_assoc] at hat ⊢
  exact (eats_two ha).bind (β := FieldC) (g := fun a L s1 => (numP L 2 s1).bind fun n s2 => (numP L 2 s2).bind fun d s3 => (attrsP L pool valueS (fun _ p long t => if long ≠ 2 then .bad p 26 else numP L 2 t) 0 s3).bind fun v s4 => .ok ⟨a, n, d, v⟩ s4)
    ((eats_two hn).bind (β := FieldC) (g := fun n L s2 => (numP L 2 s2).bind fun d s3 => (attrsP L pool valueS (fun _ p long t => if long ≠ 2 then .bad p 26 else numP L 2 t) 0 s3).bind fun v s4 => .ok ⟨a, n, d, v⟩ s4)
      ((eats_two hd).bind (β := FieldC) (g := fun d L s3 => (attrsP L pool valueS (fun _ p long t => if long ≠ 2 then .bad p 26 else numP L 2 t) 0 s3).bind fun v s4 => .ok ⟨a, n, d, v⟩ s4) (hat.map fun v => (⟨a, n, d, v⟩ : FieldC))))
theorem eats_trap {t : TrapC} (ht : fairT t) : Eats (fun L s => trapP L s) (trapB t) t := by
  obtain ⟨a, b, c, d⟩ := t
  obtain ⟨ha, hb, hc, hd⟩ := ht
  unfold trapB
  simp only [twoB_cons, twoB_nil, List.append_nil]
  exact (eats_two ha).bind (β := TrapC) (g := fun a L s1 => (numP L 2 s1).bind fun b s2 => (numP L 2 s2).bind fun c s3 => (numP L 2 s3).bind fun d s4 => .ok ⟨a, b, c, d⟩ s4)
    ((eats_two hb).bind (β := TrapC) (g := fun b L s2 => (numP L 2 s2).bind fun c s3 => (numP L 2 s3).bind fun d s4 => .ok ⟨a, b, c, d⟩ s4)
      ((eats_two hc).bind (β := TrapC) (g := fun c L s3 => (numP L 2 s3).bind fun d s4 => .ok ⟨a, b, c, d⟩ s4) ((eats_two hd).map fun d => (⟨a, b, c, d⟩ : TrapC))))
/-- What a Code holds. -/
def codeI (pool : List ConstC) (L : List UInt8) (s : PS) : Out (Int × Int × List UInt8 × List TrapC) :=
  (numP L 2 s).bind fun st s1 => (numP L 2 s1).bind fun lo s2 => (numP L 4 s2).bind fun n s3 => if 4096 < n then .bad s2.at_ 2 else
  (bytesP L n s3).bind fun code s4 => (countP L 64 s4).bind fun k s5 => (manyP (trapP L) k.toNat s5).bind fun traps s6 => (skipP L pool s6).bind fun _ s7 => .ok (st, lo, code, traps) s7
theorem codeP_I (pool : List ConstC) (L : List UInt8) (m : MethC) (p long : Int) (s : PS) : codeP L pool m p long s = (codeI pool L { s with most := s.at_ + long, named := p }).bind fun r s7 => if (s7.at_ : Int) ≠ s7.most then .bad p 25 else
    .ok { m with has := true, stack := r.1, locals := r.2.1, code := r.2.2.1, traps := m.traps ++ r.2.2.2 } { s7 with most := far } := by
  unfold codeP codeI
  rw [Out.bind_assoc]
  congr 1; funext st s1
  rw [Out.bind_assoc]
  congr 1; funext lo s2
  rw [Out.bind_assoc]
  congr 1; funext n s3
  split
  · rfl
  rw [Out.bind_assoc]
  congr 1; funext code s4
  rw [Out.bind_assoc]
  congr 1; funext k s5
  rw [Out.bind_assoc]
  congr 1; funext traps s6
  rw [Out.bind_assoc]
  rfl
theorem eats_codeI (pool : List ConstC) {m : MethC} (h1 : twoC m.stack) (h2 : twoC m.locals) (h3 : m.code.length ≤ 4096) (h4 : m.traps.length ≤ 64) (h5 : ∀ t ∈ m.traps, fairT t) : Eats (codeI pool) (codeB m) (m.stack, m.locals, m.code, m.traps) := by
  obtain ⟨a, n, d, has, st, lo, code, traps⟩ := m
  dsimp only at *
  unfold codeB
  dsimp only
  simp only [twoB_cons, twoB_nil, List.append_nil, List.append_assoc]
  have hm := eats_many (f := fun L s => trapP L s) trapB id traps fun t ht => eats_trap (h5 t ht)
  rw [List.map_id] at hm
  have hc := (eats_count (v := (traps.length : Int)) (most := 64) (by omega) (by omega) (by omega)).bind (g := fun k L s5 => (manyP (trapP L) k.toNat s5).bind fun traps s6 => (skipP L pool s6).bind fun _ s7 => .ok (st, lo, code, traps) s7)
    (Y := traps.flatMap trapB ++ beB 2 0) (y := (st, lo, code, traps)) (hm.bind (g := fun traps L s6 => (skipP L pool s6).bind fun _ s7 => .ok (st, lo, code, traps) s7) ((eats_skip pool).map fun _ => (st, lo, code, traps)))
  have hb := (eats_bytes code code.length rfl).bind (g := fun code L s4 => (countP L 64 s4).bind fun k s5 => (manyP (trapP L) k.toNat s5).bind fun traps s6 => (skipP L pool s6).bind fun _ s7 => .ok (st, lo, code, traps) s7) hc
  have hn : Eats (fun L s2 => (numP L 4 s2).bind fun n s3 => if 4096 < n then .bad s2.at_ 2 else (bytesP L n s3).bind fun code s4 => (countP L 64 s4).bind fun k s5 => (manyP (trapP L) k.toNat s5).bind fun traps s6 => (skipP L pool s6).bind fun _ s7 => .ok (st, lo, code, traps) s7)
      (beB 4 (code.length : Int) ++ (code ++ (beB 2 (traps.length : Int) ++ (traps.flatMap trapB ++ beB 2 0)))) (st, lo, code, traps) := by
    refine Eats.bindS (f := fun L s => numP L 4 s) (g := fun s2 n L s3 => if 4096 < n then .bad s2.at_ 2 else (bytesP L n s3).bind fun code s4 => (countP L 64 s4).bind fun k s5 => (manyP (trapP L) k.toNat s5).bind fun traps s6 => (skipP L pool s6).bind fun _ s7 => .ok (st, lo, code, traps) s7)
      (eats_four (v := (code.length : Int)) (by omega) (by omega)) fun s0 => ?_
    have e : ¬ (4096 : Int) < (code.length : Int) := by omega
    simp only [if_neg e]
    exact hb
  exact (eats_two h1).bind (g := fun st L s1 => (numP L 2 s1).bind fun lo s2 => (numP L 4 s2).bind fun n s3 => if 4096 < n then .bad s2.at_ 2 else (bytesP L n s3).bind fun code s4 => (countP L 64 s4).bind fun k s5 => (manyP (trapP L) k.toNat s5).bind fun traps s6 => (skipP L pool s6).bind fun _ s7 => .ok (st, lo, code, traps) s7)
    ((eats_two h2).bind (g := fun lo L s2 => (numP L 4 s2).bind fun n s3 => if 4096 < n then .bad s2.at_ 2 else (bytesP L n s3).bind fun code s4 => (countP L 64 s4).bind fun k s5 => (manyP (trapP L) k.toNat s5).bind fun traps s6 => (skipP L pool s6).bind fun _ s7 => .ok (st, lo, code, traps) s7) hn)
theorem flat_len {α : Type} (enc : α → List UInt8) (k : Nat) (h : ∀ x, (enc x).length = k) (l : List α) : (l.flatMap enc).length = k * l.length := by
  induction l with
  | nil => simp
  | cons x l ih => simp only [List.flatMap_cons, List.length_append, h, ih, List.length_cons, Nat.mul_add]; omega
theorem twoB_len (l : List Int) : (twoB l).length = 2 * l.length := flat_len _ 2 (fun x => beB_length 2 x) l
theorem codeB_len (m : MethC) : ((codeB m).length : Int) = 12 + m.code.length + 8 * m.traps.length := by
  unfold codeB
  simp only [List.length_append, beB_length, twoB_len, flat_len trapB 8 (fun t => by unfold trapB; rw [twoB_len]; rfl), List.length_cons, List.length_nil]
  omega
theorem eatsF_meth {pool : List ConstC} {m : MethC} (hm : fairM m) (h3 : m.code.length ≤ 4096) (h4 : m.traps.length ≤ 64) (hv : m.has = true → namedC pool codeS ≠ 0) (hl : pool.length ≤ 65535) : EatsF (fun L s => methP L pool s) (methB (namedC pool codeS) m) m := by
  obtain ⟨ha, hn, hd, hst, hlo, ht, hno⟩ := hm
  have hat : EatsF (fun L s => attrsP L pool codeS (codeP L pool) ⟨m.access, m.name, m.desc, false, 0, 0, [], []⟩ s) (if m.has = true then twoB [1, (namedC pool codeS : Int)] ++ beB 4 (12 + m.code.length + 8 * m.traps.length) ++ codeB m else beB 2 0) m := by
    by_cases hh : m.has = true
    · rw [if_pos hh]
      obtain ⟨k, hk⟩ : ∃ k, namedC pool codeS = k + 1 := ⟨namedC pool codeS - 1, by have := hv hh; omega⟩
      rw [← codeB_len]
      have hcl := codeB_len m
      refine eatsF_attr1 (tell := fun L => codeP L pool) hk hl (by decide) (by omega) (by omega) fun p => ?_
      intro A B named hfar
      have hI := eats_codeI pool hst hlo h3 h4 ht A B ((A.length : Int) + (codeB m).length) p (Int.le_refl _)
      refine ⟨p, ?_⟩
      dsimp only
      rw [codeP_I]
      dsimp only
      rw [hI, Out.bind_ok, if_neg (by simp)]
      congr 1
      obtain ⟨a, n, d, has, st, lo, code, traps⟩ := m
      dsimp only at hh
      subst hh
      rfl
    · rw [if_neg hh]
      have h0 := hno (by simpa using hh)
      have := (eats_attr0 pool codeS (fun L => codeP L pool) ⟨m.access, m.name, m.desc, false, 0, 0, [], []⟩).toF
      have e : (⟨m.access, m.name, m.desc, false, 0, 0, [], []⟩ : MethC) = m := by
        obtain ⟨a, n, d, has, st, lo, code, traps⟩ := m
        obtain ⟨e1, e2, e3, e4⟩ := h0
        dsimp only at *
        subst e1
        subst e2
        rw [List.eq_nil_of_length_eq_zero e3, List.eq_nil_of_length_eq_zero e4]
        simp at hh
        rw [hh]
      rw [e] at this ⊢
      exact this
  unfold methB
  simp only [twoB_cons, twoB_nil, List.append_nil, List.append_assoc] at hat ⊢
  exact (eats_two ha).toF.bind (g := fun a L s1 => (numP L 2 s1).bind fun n s2 => (numP L 2 s2).bind fun d s3 => attrsP L pool codeS (codeP L pool) ⟨a, n, d, false, 0, 0, [], []⟩ s3)
    ((eats_two hn).toF.bind (g := fun n L s2 => (numP L 2 s2).bind fun d s3 => attrsP L pool codeS (codeP L pool) ⟨m.access, n, d, false, 0, 0, [], []⟩ s3)
      ((eats_two hd).toF.bind (g := fun d L s3 => attrsP L pool codeS (codeP L pool) ⟨m.access, m.name, d, false, 0, 0, [], []⟩ s3) hat))
end Go.Proofs.Ytbalmfoboaapjaa
