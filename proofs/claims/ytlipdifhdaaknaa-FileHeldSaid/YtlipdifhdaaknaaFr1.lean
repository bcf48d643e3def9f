/-
  The document's own reader of class files does what the parser does: plain.
-/
import Derived.Test.YtlipdifhdaaknaaFr0
namespace Go.Proofs.Ytlipdifhdaaknaa
open Go.RowKit
set_option maxRecDepth 100000

theorem Out.bind_eq_ok {α β : Type} {o : Out α} {f : α → PS → Out β} {b : β} {t : PS} (h : o.bind f = .ok b t) : ∃ a s, o = .ok a s ∧ f a s = .ok b t := by
  cases o with
  | ok a s => exact ⟨a, s, rfl, h⟩
  | bad p k => cases h
theorem Beside.upd {α β : Type} {o : Out α} {c : α → ClassC} {r : β × QS} {g : α → β} (h : Beside o c r g) (f : β → ClassC) : Beside o (fun a => f (g a)) ((), { r.2 with c := f r.1 }) (fun _ => ()) :=
  ⟨fun a s' e => by rw [h.ok a s' e]; rfl, fun p k e => (h.bad p k e).with_ rfl rfl⟩
theorem Beside.cast {α β : Type} {o : Out α} {c c' : α → ClassC} {r : β × QS} {g g' : α → β} (h : Beside o c r g) (hc : ∀ a, c a = c' a) (hg : ∀ a, g a = g' a) : Beside o c' r g' :=
  ⟨fun a s' e => by rw [h.ok a s' e, hc, hg], h.bad⟩
section
variable (L : List UInt8)
theorem skipL_bad {p k : Int} {q : QS} (h : Bad p k q) (n : Nat) : skipLQ L n q = q := by
  cases n with
  | zero => rfl
  | succ n => unfold skipLQ; rw [if_pos h.ne_]
theorem skip_bad {p k : Int} {q : QS} (h : Bad p k q) : skipQ L q = q := by
  unfold skipQ
  rw [num_bad L h]
  exact skipL_bad L h _
theorem skipL_ok (c : ClassC) : ∀ (k : Nat) (s : PS) (seen : Bool), Beside (attrP L c.pool ⟨#[]⟩ (fun (x : Unit) _ _ t => .ok x t) k seen () s) (fun _ => c) ((), skipLQ L k (okQ c s)) (fun _ => ())
  | 0, s, seen => beside_ok rfl rfl
  | k + 1, s, seen => by
    unfold attrP skipLQ
    rw [if_neg (by simp [okQ])]
    refine (name_ok L c s).bind (F := fun _ q => ((), skipLQ L k (passQ L q))) ?_ ?_
    · intro nm s1 _
      rw [if_neg (fun e => e.2 rfl)]
      have h := (pass_ok (α := Unit) (f := fun _ t => .ok () t) L c s1).bind (F := fun _ q => ((), skipLQ L k q)) (fun _ s3 _ => skipL_ok c k s3 seen) (fun p k' q b h => by rw [skipL_bad L h]; exact h)
      simpa only [Out.bind_assoc, Out.bind_ok] using h
    · intro p k' q b h
      rw [pass_bad L h, skipL_bad L h]
      exact h
theorem skip_ok (c : ClassC) (s : PS) : Beside (skipP L c.pool s) (fun _ => c) ((), skipQ L (okQ c s)) (fun _ => ()) := by
  unfold skipP attrsP skipQ
  exact (beside_num L 2 c s).bind (F := fun n q => ((), skipLQ L n.toNat q)) (fun n s1 _ => skipL_ok L c n.toNat s1 false) fun p k q b h => by rw [skipL_bad L h]; exact h

theorem constR_bad {p k : Int} {q : QS} (h : Bad p k q) (p' : Int) (t : Int) : Bad p k (constRQ L p' t q).2 := by
  unfold constRQ
  rw [num_bad L h, num_bad L h, bytes_bad L h, fail_bad h]
  dsimp only
  rw [num_bad L h]
  split
  · exact h
  · split
    · exact h
    · split
      · exact h
      · split
        · exact h
        · exact h
theorem const_bad {p k : Int} {q : QS} (h : Bad p k q) : Bad p k (constQ L q) := by
  unfold constQ
  rw [num_bad L h]
  exact (constR_bad L h q.at_ 0).with_ rfl rfl
theorem const_ok (c : ClassC) (s : PS) : Beside (constP L s) (fun x => { c with pool := c.pool ++ [x] }) ((), constQ L (okQ c s)) (fun _ => ()) := by
  refine Beside.upd (c := fun _ => c) (g := id) (r := constRQ L (okQ c s).at_ (numQ L 1 (okQ c s)).1 (numQ L 1 (okQ c s)).2) ?_ (fun x => { c with pool := c.pool ++ [x] })
  refine (beside_num L 1 c s).bind (F := fun t q => constRQ L (okQ c s).at_ t q) ?_ (fun p k q b h => constR_bad L h _ _)
  intro t s1 _
  unfold constRQ
  dsimp only [id]
  by_cases h1 : t = 1
  · rw [if_pos h1, if_pos h1]
    exact (beside_num L 2 c s1).bind (F := fun n q => ((⟨1, ⟨(bytesQ L n q).1.toArray⟩, 0, 0, 0⟩ : ConstC), (bytesQ L n q).2)) (fun n s2 _ => (beside_bytes L n c s2).bind (F := fun l q => ((⟨1, ⟨l.toArray⟩, 0, 0, 0⟩ : ConstC), q)) (fun l s3 _ => beside_ok rfl rfl) (fun p k q b h => h)) (fun p k q b h => by rw [bytes_bad L h]; exact h)
  rw [if_neg h1, if_neg h1]
  by_cases h2 : t = 3
  · rw [if_pos h2, if_pos h2]
    exact (beside_num L 4 c s1).bind (F := fun n q => ((⟨3, ⟨#[]⟩, wrapW n, 0, 0⟩ : ConstC), q)) (fun n s2 _ => beside_ok rfl rfl) (fun p k q b h => h)
  rw [if_neg h2, if_neg h2]
  by_cases h3 : t = 7
  · rw [if_pos h3, if_pos h3]
    exact (beside_num L 2 c s1).bind (F := fun n q => ((⟨7, ⟨#[]⟩, 0, n, 0⟩ : ConstC), q)) (fun n s2 _ => beside_ok rfl rfl) (fun p k q b h => h)
  rw [if_neg h3, if_neg h3]
  by_cases h4 : t = 9 ∨ t = 10 ∨ t = 11 ∨ t = 12
  · rw [if_pos h4, if_pos h4]
    exact (beside_num L 2 c s1).bind (F := fun a q => ((⟨t, ⟨#[]⟩, 0, a, (numQ L 2 q).1⟩ : ConstC), (numQ L 2 q).2)) (fun a s2 _ => (beside_num L 2 c s2).bind (F := fun b q => ((⟨t, ⟨#[]⟩, 0, a, b⟩ : ConstC), q)) (fun b s3 _ => beside_ok rfl rfl) (fun p k q b h => h)) (fun p k q b h => by rw [num_bad L h]; exact h)
  rw [if_neg h4, if_neg h4]
  exact beside_bad (fail_ok c s1 _ _ (by decide))

theorem val_bad {p k : Int} {q : QS} (h : Bad p k q) (p' : Int) (had : Bool) : valQ L p' had q = (0, q) := by
  unfold valQ
  rw [fail_bad h, ite_self, num_bad L h]
  dsimp only
  rw [if_neg (fun e => h.ne_ e.1), num_bad L h]
theorem val_ok (c : ClassC) (s : PS) (p : Int) : Beside ((numP L 4 s).bind fun long t => if long ≠ 2 then .bad p 26 else numP L 2 t) (fun _ => c) (valQ L p false (okQ c s)) id := by
  refine (beside_num L 4 c s).bind (F := fun long q => numQ L 2 (if q.e = 0 ∧ long ≠ 2 then failQ q p 26 else q)) ?_ ?_
  · intro long t _
    dsimp only [id]
    by_cases h : long ≠ 2
    · rw [if_pos h, if_pos ⟨rfl, h⟩]
      have := fail_ok c t p 26 (by decide)
      rw [num_bad L this]
      exact beside_bad this
    · rw [if_neg h, if_neg (fun e => h e.2)]
      exact beside_num L 2 c t
  · intro p' k q b h
    rw [if_neg (fun e => h.ne_ e.1), num_bad L h]
    exact h
theorem fieldL_bad {p k : Int} {q : QS} (h : Bad p k q) (n : Nat) (had : Bool) (v : Int) : fieldLQ L n had v q = (v, q) := by
  cases n with
  | zero => rfl
  | succ n => unfold fieldLQ; rw [if_pos h.ne_]
theorem fieldL_ok (c : ClassC) : ∀ (k : Nat) (had : Bool) (v : Int) (s : PS), Beside (attrP L c.pool valueS (fun _ p long t => if long ≠ 2 then .bad p 26 else numP L 2 t) k had v s) (fun _ => c) (fieldLQ L k had v (okQ c s)) id
  | 0, had, v, s => beside_ok rfl rfl
  | k + 1, had, v, s => by
    unfold attrP fieldLQ
    rw [if_neg (by simp [okQ])]
    refine (name_ok L c s).bind (F := fun nm q => if q.e = 0 ∧ nm = valueS then fieldLQ L k true (valQ L (okQ c s).at_ had q).1 (valQ L (okQ c s).at_ had q).2 else fieldLQ L k had v (passQ L q)) ?_ ?_
    · intro nm s1 _
      dsimp only [id]
      by_cases hn : nm = valueS
      · have hq : (okQ c s1).e = 0 ∧ nm = valueS := ⟨rfl, hn⟩
        rw [if_pos ⟨hn, by decide⟩, if_pos hq]
        cases had with
        | true =>
          rw [if_pos rfl]
          have hb : Bad s.at_ 24 (failQ (okQ c s1) (okQ c s).at_ 24) := fail_ok c s1 _ _ (by decide)
          have hv : valQ L (okQ c s).at_ true (okQ c s1) = (0, failQ (okQ c s1) (okQ c s).at_ 24) := by
            have := val_bad L hb (okQ c s).at_ false
            unfold valQ at this ⊢
            simpa using this
          rw [hv, fieldL_bad L hb]
          exact beside_bad hb
        | false =>
          rw [if_neg (by simp)]
          have h := (val_ok L c s1 s.at_).bind (F := fun y q => fieldLQ L k true y q) (fun y s3 _ => fieldL_ok c k true y s3) (fun p k' q b h => by rw [fieldL_bad L h]; exact h)
          rw [Out.bind_assoc] at h
          exact h
      · have hq : ¬ ((okQ c s1).e = 0 ∧ nm = valueS) := fun e => hn e.2
        rw [if_neg (fun e => hn e.1), if_neg hq]
        have h := (pass_ok (α := Unit) (f := fun _ t => .ok () t) L c s1).bind (F := fun _ q => fieldLQ L k had v q) (fun _ s3 _ => fieldL_ok c k had v s3) (fun p k' q b h => by rw [fieldL_bad L h]; exact h)
        simpa only [Out.bind_assoc, Out.bind_ok] using h
    · intro p k' q b h
      rw [if_neg (fun e => h.ne_ e.1), pass_bad L h, fieldL_bad L h]
      exact h
def fieldRQ (q : QS) : FieldC × QS :=
  let a := numQ L 2 q
  let n := numQ L 2 a.2
  let d := numQ L 2 n.2
  let k := numQ L 2 d.2
  let r := fieldLQ L k.1.toNat false 0 k.2
  (⟨a.1, n.1, d.1, r.1⟩, r.2)
theorem field_bad {p k : Int} {q : QS} (h : Bad p k q) : Bad p k (fieldQ L q) := by
  unfold fieldQ
  simp only [num_bad L h, fieldL_bad L h]
  exact h.with_ rfl rfl
theorem field_ok (c : ClassC) (s : PS) : Beside (fieldP L c.pool s) (fun x => { c with fields := c.fields ++ [x] }) ((), fieldQ L (okQ c s)) (fun _ => ()) := by
  refine Beside.upd (c := fun _ => c) (g := id) (r := fieldRQ L (okQ c s)) ?_ (fun x => { c with fields := c.fields ++ [x] })
  refine (beside_num L 2 c s).bind (F := fun a q =>
    let n := numQ L 2 q
    let d := numQ L 2 n.2
    let k := numQ L 2 d.2
    let r := fieldLQ L k.1.toNat false 0 k.2
    ((⟨a, n.1, d.1, r.1⟩ : FieldC), r.2)) ?_ (fun p k q b h => by simp only [num_bad L h, fieldL_bad L h]; exact h)
  intro a s1 _
  refine (beside_num L 2 c s1).bind (F := fun n q =>
    let d := numQ L 2 q
    let k := numQ L 2 d.2
    let r := fieldLQ L k.1.toNat false 0 k.2
    ((⟨a, n, d.1, r.1⟩ : FieldC), r.2)) ?_ (fun p k q b h => by simp only [num_bad L h, fieldL_bad L h]; exact h)
  intro n s2 _
  refine (beside_num L 2 c s2).bind (F := fun d q =>
    let k := numQ L 2 q
    let r := fieldLQ L k.1.toNat false 0 k.2
    ((⟨a, n, d, r.1⟩ : FieldC), r.2)) ?_ (fun p k q b h => by simp only [num_bad L h, fieldL_bad L h]; exact h)
  intro d s3 _
  refine Beside.bind (r := fieldLQ L (numQ L 2 (okQ c s3)).1.toNat false 0 (numQ L 2 (okQ c s3)).2) (c := fun _ => c) (g := id) ?_ (F := fun v q => ((⟨a, n, d, v⟩ : FieldC), q)) (fun v s4 _ => beside_ok rfl rfl) (fun p k q b h => h)
  exact (beside_num L 2 c s3).bind (F := fun k q => fieldLQ L k.toNat false 0 q) (fun k s4 _ => fieldL_ok L c k.toNat false 0 s4) (fun p k q b h => by rw [fieldL_bad L h]; exact h)

theorem traps_bad {p k : Int} {q : QS} (h : Bad p k q) (n : Nat) : trapsQ L n q = ([], q) := by
  cases n with
  | zero => rfl
  | succ n => unfold trapsQ; rw [if_pos h.ne_]
theorem traps_ok (c : ClassC) : ∀ (n : Nat) (s : PS), Beside (manyP (trapP L) n s) (fun _ => c) (trapsQ L n (okQ c s)) id
  | 0, s => beside_ok rfl rfl
  | n + 1, s => by
    unfold manyP trapsQ
    rw [if_neg (by simp [okQ])]
    unfold trapP
    simp only [Out.bind_assoc, Out.bind_ok]
    refine (beside_num L 2 c s).bind (F := fun a q =>
      let b := numQ L 2 q
      let c := numQ L 2 b.2
      let d := numQ L 2 c.2
      ((⟨a, b.1, c.1, d.1⟩ : TrapC) :: (trapsQ L n d.2).1, (trapsQ L n d.2).2)) ?_ (fun p k q b h => by simp only [num_bad L h, traps_bad L h]; exact h)
    intro a s1 _
    refine (beside_num L 2 c s1).bind (F := fun b q =>
      let c := numQ L 2 q
      let d := numQ L 2 c.2
      ((⟨a, b, c.1, d.1⟩ : TrapC) :: (trapsQ L n d.2).1, (trapsQ L n d.2).2)) ?_ (fun p k q b h => by simp only [num_bad L h, traps_bad L h]; exact h)
    intro b s2 _
    refine (beside_num L 2 c s2).bind (F := fun c q =>
      let d := numQ L 2 q
      ((⟨a, b, c, d.1⟩ : TrapC) :: (trapsQ L n d.2).1, (trapsQ L n d.2).2)) ?_ (fun p k q b h => by simp only [num_bad L h, traps_bad L h]; exact h)
    intro c' s3 _
    refine (beside_num L 2 c s3).bind (F := fun d q => ((⟨a, b, c', d⟩ : TrapC) :: (trapsQ L n q).1, (trapsQ L n q).2)) ?_ (fun p k q b h => by simp only [traps_bad L h]; exact h)
    intro d s4 _
    exact (traps_ok c n s4).bind (c' := fun _ => c) (g' := id) (F := fun l q => ((⟨a, b, c', d⟩ : TrapC) :: l, q)) (fun l s5 _ => beside_ok rfl rfl) (fun p k q b h => h)

/-- What code does behind its bytes. -/
def codeQ4 (m : MethC) (p st lo : Int) (code : List UInt8) (q : QS) : MethC × QS :=
  let k := countQ L 64 q
  let tr := trapsQ L k.1.toNat k.2
  let q3 := skipQ L tr.2
  ({ m with has := true, stack := st, locals := lo, code := code, traps := m.traps ++ tr.1 }, { (if (q3.at_ : Int) ≠ q3.most then failQ q3 p 25 else q3) with most := far })
def codeQ3 (m : MethC) (p st lo : Int) (start : Nat) (n : Int) (q : QS) : MethC × QS :=
  let b := bytesQ L n (if 4096 < n then failQ q start 2 else q)
  codeQ4 L m p st lo b.1 b.2
def codeQ2 (m : MethC) (p st lo : Int) (q : QS) : MethC × QS := codeQ3 L m p st lo q.at_ (numQ L 4 q).1 (numQ L 4 q).2
def codeQ1 (m : MethC) (p st : Int) (q : QS) : MethC × QS := codeQ2 L m p st (numQ L 2 q).1 (numQ L 2 q).2
def codeQ0 (m : MethC) (p : Int) (long : Int) (q : QS) : MethC × QS := codeQ1 L m p (numQ L 2 { q with most := q.at_ + long, named := p }).1 (numQ L 2 { q with most := q.at_ + long, named := p }).2
theorem codeQ_eq (m : MethC) (p : Int) (q : QS) : codeQ L m p q = codeQ0 L m p (numQ L 4 q).1 (numQ L 4 q).2 := rfl
theorem codeQ4_bad {p k : Int} {q : QS} (h : Bad p k q) (m : MethC) (p' st lo : Int) (code : List UInt8) : Bad p k (codeQ4 L m p' st lo code q).2 := by
  unfold codeQ4
  simp only [count_bad L h (m := 64) (by decide)]
  rw [traps_bad L h]
  simp only [skip_bad L h, fail_bad h, ite_self]
  exact h.with_ rfl rfl
theorem codeQ3_bad {p k : Int} {q : QS} (h : Bad p k q) (m : MethC) (p' st lo : Int) (start : Nat) (n : Int) : Bad p k (codeQ3 L m p' st lo start n q).2 := by
  unfold codeQ3
  simp only [fail_bad h, ite_self, bytes_bad L h]
  exact codeQ4_bad L h _ _ _ _ _
theorem codeQ2_bad {p k : Int} {q : QS} (h : Bad p k q) (m : MethC) (p' st lo : Int) : Bad p k (codeQ2 L m p' st lo q).2 := by
  unfold codeQ2
  rw [num_bad L h]
  exact codeQ3_bad L h _ _ _ _ _ _
theorem codeQ1_bad {p k : Int} {q : QS} (h : Bad p k q) (m : MethC) (p' st : Int) : Bad p k (codeQ1 L m p' st q).2 := by
  unfold codeQ1
  rw [num_bad L h]
  exact codeQ2_bad L h _ _ _ _
theorem codeQ0_bad {p k : Int} {q : QS} (h : Bad p k q) (m : MethC) (p' long : Int) : Bad p k (codeQ0 L m p' long q).2 := by
  unfold codeQ0
  have h' : Bad p k { q with most := q.at_ + long, named := p' } := h.with_ rfl rfl
  rw [num_bad L h']
  exact codeQ1_bad L h' _ _ _
theorem code_bad {p k : Int} {q : QS} (h : Bad p k q) (m : MethC) (p' : Int) : Bad p k (codeQ L m p' q).2 := by
  rw [codeQ_eq, num_bad L h]
  exact codeQ0_bad L h _ _ _
theorem code_ok (c : ClassC) (m : MethC) (p : Int) (s : PS) : Beside ((numP L 4 s).bind fun long s2 => codeP L c.pool m p long s2) (fun _ => c) (codeQ L m p (okQ c s)) id := by
  rw [codeQ_eq]
  refine (beside_num L 4 c s).bind (F := fun long q => codeQ0 L m p long q) ?_ (fun p' k q b h => codeQ0_bad L h _ _ _)
  intro long s0 _
  refine (beside_num L 2 c { s0 with most := s0.at_ + long, named := p }).bind (F := fun st q => codeQ1 L m p st q) ?_ (fun p' k q b h => codeQ1_bad L h _ _ _)
  intro st s1 _
  refine (beside_num L 2 c s1).bind (F := fun lo q => codeQ2 L m p st lo q) ?_ (fun p' k q b h => codeQ2_bad L h _ _ _ _)
  intro lo s2 _
  refine (beside_num L 4 c s2).bind (F := fun n q => codeQ3 L m p st lo s2.at_ n q) ?_ (fun p' k q b h => codeQ3_bad L h _ _ _ _ _ _)
  intro n s3 _
  unfold codeQ3
  dsimp only [id]
  by_cases hn : 4096 < n
  · rw [if_pos hn, if_pos hn]
    have := fail_ok c s3 s2.at_ 2 (by decide)
    rw [bytes_bad L this]
    exact beside_bad (codeQ4_bad L this _ _ _ _ _)
  rw [if_neg hn, if_neg hn]
  refine (beside_bytes L n c s3).bind (F := fun code q => codeQ4 L m p st lo code q) ?_ (fun p' k q b h => codeQ4_bad L h _ _ _ _ _)
  intro code s4 _
  refine (count_ok L 64 c s4).bind (F := fun k q =>
    let tr := trapsQ L k.toNat q
    let q3 := skipQ L tr.2
    ({ m with has := true, stack := st, locals := lo, code := code, traps := m.traps ++ tr.1 }, { (if (q3.at_ : Int) ≠ q3.most then failQ q3 p 25 else q3) with most := far })) ?_ (fun p' k q b h => by
      dsimp only
      rw [traps_bad L h]
      simp only [skip_bad L h, fail_bad h, ite_self]
      exact h.with_ rfl rfl)
  intro k s5 _
  refine (traps_ok L c k.toNat s5).bind (F := fun tr q =>
    let q3 := skipQ L q
    ({ m with has := true, stack := st, locals := lo, code := code, traps := m.traps ++ tr }, { (if (q3.at_ : Int) ≠ q3.most then failQ q3 p 25 else q3) with most := far })) ?_ (fun p' k q b h => by
      simp only [skip_bad L h, fail_bad h, ite_self]
      exact h.with_ rfl rfl)
  intro tr s6 _
  refine (skip_ok L c s6).bind (F := fun _ q3 => ({ m with has := true, stack := st, locals := lo, code := code, traps := m.traps ++ tr }, { (if (q3.at_ : Int) ≠ q3.most then failQ q3 p 25 else q3) with most := far })) ?_ (fun p' k q b h => by
      simp only [fail_bad h, ite_self]
      exact h.with_ rfl rfl)
  intro _ s7 _
  by_cases he : (s7.at_ : Int) ≠ s7.most
  · rw [if_pos he]
    dsimp only
    rw [if_pos (show ((okQ c s7).at_ : Int) ≠ (okQ c s7).most from he)]
    exact beside_bad ((fail_ok c s7 p 25 (by decide)).with_ rfl rfl)
  · rw [if_neg he]
    dsimp only
    rw [if_neg (show ¬ ((okQ c s7).at_ : Int) ≠ (okQ c s7).most from he)]
    exact beside_ok rfl rfl
theorem codeP_has {pool : List ConstC} {m y : MethC} {p long : Int} {s t : PS} (h : codeP L pool m p long s = .ok y t) : y.has = true := by
  unfold codeP at h
  obtain ⟨_, _, _, h⟩ := Out.bind_eq_ok h
  obtain ⟨_, _, _, h⟩ := Out.bind_eq_ok h
  obtain ⟨_, _, _, h⟩ := Out.bind_eq_ok h
  split at h
  · cases h
  obtain ⟨_, _, _, h⟩ := Out.bind_eq_ok h
  obtain ⟨_, _, _, h⟩ := Out.bind_eq_ok h
  obtain ⟨_, _, _, h⟩ := Out.bind_eq_ok h
  obtain ⟨_, _, _, h⟩ := Out.bind_eq_ok h
  split at h
  · cases h
  injection h with h1 h2
  rw [← h1]
theorem methL_bad {p k : Int} {q : QS} (h : Bad p k q) (n : Nat) (m : MethC) : methLQ L n m q = (m, q) := by
  cases n with
  | zero => rfl
  | succ n => unfold methLQ; rw [if_pos h.ne_]
theorem methL_ok (c : ClassC) : ∀ (k : Nat) (m : MethC) (s : PS), Beside (attrP L c.pool codeS (codeP L c.pool) k m.has m s) (fun _ => c) (methLQ L k m (okQ c s)) id
  | 0, m, s => beside_ok rfl rfl
  | k + 1, m, s => by
    unfold attrP methLQ
    rw [if_neg (by simp [okQ])]
    refine (name_ok L c s).bind (F := fun nm q => if q.e = 0 ∧ nm = codeS then
      let r := codeQ L m (okQ c s).at_ (if m.has = true then failQ q (okQ c s).at_ 24 else q)
      methLQ L k r.1 r.2 else methLQ L k m (passQ L q)) ?_ ?_
    · intro nm s1 _
      dsimp only [id]
      by_cases hn : nm = codeS
      · have hq : (okQ c s1).e = 0 ∧ nm = codeS := ⟨rfl, hn⟩
        rw [if_pos ⟨hn, by decide⟩, if_pos hq]
        by_cases hm : m.has = true
        · rw [if_pos hm, if_pos hm]
          have hb : Bad s.at_ 24 (failQ (okQ c s1) (okQ c s).at_ 24) := fail_ok c s1 _ _ (by decide)
          have hc := code_bad L hb m (okQ c s).at_
          rw [methL_bad L hc]
          exact beside_bad hc
        · rw [if_neg hm, if_neg hm]
          have h := (code_ok L c m s.at_ s1).bind (F := fun y q => methLQ L k y q) (f := fun y s3 => attrP L c.pool codeS (codeP L c.pool) k true y s3) (c' := fun _ => c) (g' := id) (fun y s3 hy => by
            obtain ⟨long, s2, _, hy⟩ := Out.bind_eq_ok hy
            have := methL_ok c k y s3
            rw [codeP_has L hy] at this
            exact this) (fun p k' q b h => by rw [methL_bad L h]; exact h)
          rw [Out.bind_assoc] at h
          exact h
      · have hq : ¬ ((okQ c s1).e = 0 ∧ nm = codeS) := fun e => hn e.2
        rw [if_neg (fun e => hn e.1), if_neg hq]
        have h := (pass_ok (α := Unit) (f := fun _ t => .ok () t) L c s1).bind (F := fun _ q => methLQ L k m q) (fun _ s3 _ => methL_ok c k m s3) (fun p k' q b h => by rw [methL_bad L h]; exact h)
        simpa only [Out.bind_assoc, Out.bind_ok] using h
    · intro p k' q b h
      rw [if_neg (fun e => h.ne_ e.1), pass_bad L h, methL_bad L h]
      exact h
def methRQ (q : QS) : MethC × QS :=
  let a := numQ L 2 q
  let n := numQ L 2 a.2
  let d := numQ L 2 n.2
  let k := numQ L 2 d.2
  methLQ L k.1.toNat ⟨a.1, n.1, d.1, false, 0, 0, [], []⟩ k.2
theorem meth_bad {p k : Int} {q : QS} (h : Bad p k q) : Bad p k (methQ L q) := by
  unfold methQ
  simp only [num_bad L h, methL_bad L h]
  exact h.with_ rfl rfl
theorem meth_ok (c : ClassC) (s : PS) : Beside (methP L c.pool s) (fun x => { c with methods := c.methods ++ [x] }) ((), methQ L (okQ c s)) (fun _ => ()) := by
  refine Beside.upd (c := fun _ => c) (g := id) (r := methRQ L (okQ c s)) ?_ (fun x => { c with methods := c.methods ++ [x] })
  refine (beside_num L 2 c s).bind (F := fun a q =>
    let n := numQ L 2 q
    let d := numQ L 2 n.2
    let k := numQ L 2 d.2
    methLQ L k.1.toNat ⟨a, n.1, d.1, false, 0, 0, [], []⟩ k.2) ?_ (fun p k q b h => by simp only [num_bad L h, methL_bad L h]; exact h)
  intro a s1 _
  refine (beside_num L 2 c s1).bind (F := fun n q =>
    let d := numQ L 2 q
    let k := numQ L 2 d.2
    methLQ L k.1.toNat ⟨a, n, d.1, false, 0, 0, [], []⟩ k.2) ?_ (fun p k q b h => by simp only [num_bad L h, methL_bad L h]; exact h)
  intro n s2 _
  refine (beside_num L 2 c s2).bind (F := fun d q =>
    let k := numQ L 2 q
    methLQ L k.1.toNat ⟨a, n, d, false, 0, 0, [], []⟩ k.2) ?_ (fun p k q b h => by simp only [num_bad L h, methL_bad L h]; exact h)
  intro d s3 _
  exact (beside_num L 2 c s3).bind (F := fun k q => methLQ L k.toNat ⟨a, n, d, false, 0, 0, [], []⟩ q) (fun k s4 _ => methL_ok L c k.toNat ⟨a, n, d, false, 0, 0, [], []⟩ s4) (fun p k q b h => by rw [methL_bad L h]; exact h)
end
theorem many_bad {F : QS → QS} {p k : Int} {q : QS} (h : Bad p k q) (n : Nat) : manyQ F n q = q := by
  cases n with
  | zero => rfl
  | succ n => unfold manyQ; rw [if_pos h.ne_]
theorem many_beside {α : Type} (f : PS → Out α) (F : QS → QS) (add : ClassC → α → ClassC) (P : ClassC → Prop) (h : ∀ c s, P c → Beside (f s) (fun x => add c x) ((), F (okQ c s)) (fun _ => ())) (hp : ∀ c x, P c → P (add c x)) :
    ∀ (n : Nat) (c : ClassC) (s : PS), P c → Beside (manyP f n s) (fun l => l.foldl add c) ((), manyQ F n (okQ c s)) (fun _ => ())
  | 0, c, s, _ => beside_ok rfl rfl
  | n + 1, c, s, hc => by
    unfold manyP manyQ
    rw [if_neg (by simp [okQ])]
    refine (h c s hc).bind (F := fun _ q => ((), manyQ F n q)) ?_ (fun p k q b h => by rw [many_bad h]; exact h)
    intro x s1 _
    exact (many_beside f F add P h hp n (add c x) s1 (hp c x hc)).bind (F := fun _ q => ((), q)) (fun l s2 _ => beside_ok rfl rfl) (fun p k q b h => h)
section
variable (L : List UInt8)
/-- A list of up to 64 of a kind. -/
def listP {α : Type} (f : PS → Out α) (add : ClassC → α → ClassC) (c : ClassC) (s : PS) : Out ClassC := (countP L 64 s).bind fun n s1 => (manyP f n.toNat s1).bind fun l s2 => .ok (l.foldl add c) s2
theorem list_bad {F : QS → QS} {p k : Int} {q : QS} (h : Bad p k q) : listQ L F q = q := by
  unfold listQ
  rw [count_bad L h (by decide)]
  rfl
theorem list_beside {α : Type} (f : PS → Out α) (F : QS → QS) (add : ClassC → α → ClassC) (P : ClassC → Prop) (h : ∀ c s, P c → Beside (f s) (fun x => add c x) ((), F (okQ c s)) (fun _ => ())) (hp : ∀ c x, P c → P (add c x)) (c : ClassC) (s : PS) (hc : P c) :
    Beside (listP L f add c s) (fun c => c) ((), listQ L F (okQ c s)) (fun _ => ()) := by
  refine (count_ok L 64 c s).bind (F := fun n q => ((), manyQ F n.toNat q)) ?_ (fun p k q b h => by rw [many_bad h]; exact h)
  intro n s1 _
  exact (many_beside f F add P h hp n.toNat c s1 hc).bind (F := fun _ q => ((), q)) (fun l s2 _ => beside_ok rfl rfl) (fun p k q b h => h)
def addI (c : ClassC) (x : Int) : ClassC := { c with ifaces := c.ifaces ++ [x] }
def addP (c : ClassC) (x : ConstC) : ClassC := { c with pool := c.pool ++ [x] }
def addF (c : ClassC) (x : FieldC) : ClassC := { c with fields := c.fields ++ [x] }
def addM (c : ClassC) (x : MethC) : ClassC := { c with methods := c.methods ++ [x] }
theorem addP_all : ∀ (l : List ConstC) (c : ClassC), l.foldl addP c = { c with pool := c.pool ++ l }
  | [], c => by simp
  | x :: l, c => by rw [List.foldl_cons, addP_all l]; simp [addP]
theorem addI_all : ∀ (l : List Int) (c : ClassC), l.foldl addI c = { c with ifaces := c.ifaces ++ l }
  | [], c => by simp
  | x :: l, c => by rw [List.foldl_cons, addI_all l]; simp [addI]
theorem addF_all : ∀ (l : List FieldC) (c : ClassC), l.foldl addF c = { c with fields := c.fields ++ l }
  | [], c => by simp
  | x :: l, c => by rw [List.foldl_cons, addF_all l]; simp [addF]
theorem addM_all : ∀ (l : List MethC) (c : ClassC), l.foldl addM c = { c with methods := c.methods ++ l }
  | [], c => by simp
  | x :: l, c => by rw [List.foldl_cons, addM_all l]; simp [addM]
def pre0P (s : PS) : Out ClassC := (numP L 4 s).bind fun magic s1 => if magic ≠ 3405691582 then .bad 0 11 else
  (numP L 2 s1).bind fun mi s2 => (numP L 2 s2).bind fun ma s3 => .ok { zeroC with minor := mi, major := ma } s3
def pre1P (c : ClassC) (s : PS) : Out ClassC := (countP L 1025 s).bind fun n s4 => if n = 0 then .bad s.at_ 20 else (manyP (constP L) (n.toNat - 1) s4).bind fun pool s5 => .ok (pool.foldl addP c) s5
def pre2P (c : ClassC) (s : PS) : Out ClassC := (numP L 2 s).bind fun acc s6 => (numP L 2 s6).bind fun th s7 => (numP L 2 s7).bind fun su s8 => .ok { c with access := acc, this := th, super := su } s8
theorem classP_stages (s : PS) : classP L s = (pre0P L s).bind fun c s => (pre1P L c s).bind fun c s => (pre2P L c s).bind fun c s => (listP L (numP L 2) addI c s).bind fun c s => (listP L (fieldP L c.pool) addF c s).bind fun c s => (listP L (methP L c.pool) addM c s).bind fun c s =>
    (skipP L c.pool s).bind fun _ s => if s.at_ < L.length then .bad s.at_ 14 else .ok c s := by
  unfold pre0P pre1P pre2P listP
  simp only [Out.bind_assoc, Out.bind_ok, addP_all, addI_all, addF_all, addM_all]
  unfold classP
  congr 1
  funext magic s1
  split
  · rfl
  simp only [Out.bind_assoc, Out.bind_ok]
  congr 1
  funext mi s2
  congr 1
  funext ma s3
  congr 1
  funext n s4
  split
  · rfl
  simp only [Out.bind_assoc, Out.bind_ok]
  rfl
theorem pre0_ok (s : PS) : Beside (pre0P L s) (fun c => c) ((), preQ0 L (okQ zeroC s)) (fun _ => ()) := by
  refine (beside_num L 4 zeroC s).bind (F := fun mg q => ((),
    let mi := numQ L 2 (if q.e = 0 ∧ mg ≠ 3405691582 then failQ q 0 11 else q)
    let q1 := { mi.2 with c := { mi.2.c with minor := mi.1 } }
    let ma := numQ L 2 q1
    { ma.2 with c := { ma.2.c with major := ma.1 } })) ?_ ?_
  · intro magic s1 _
    dsimp only [id]
    by_cases hm : magic ≠ 3405691582
    · rw [if_pos hm, if_pos ⟨rfl, hm⟩]
      have hb := fail_ok zeroC s1 0 11 (by decide)
      simp only [num_bad L hb]
      have hb' : Bad 0 11 { failQ (okQ zeroC s1) 0 11 with c := { (failQ (okQ zeroC s1) 0 11).c with minor := 0 } } := hb.with_ rfl rfl
      simp only [num_bad L hb']
      exact beside_bad (hb'.with_ rfl rfl)
    · rw [if_neg hm, if_neg (fun e => hm e.2)]
      refine (beside_num L 2 zeroC s1).bind (F := fun mi q => ((),
        let ma := numQ L 2 { q with c := { q.c with minor := mi } }
        { ma.2 with c := { ma.2.c with major := ma.1 } })) ?_ ?_
      · intro mi s2 _
        exact (beside_num L 2 { zeroC with minor := mi } s2).bind (F := fun ma q => ((), { q with c := { q.c with major := ma } })) (fun ma s3 _ => beside_ok rfl rfl) (fun p k q b h => h.with_ rfl rfl)
      · intro p k q b h
        have h' : Bad p k { q with c := { q.c with minor := b } } := h.with_ rfl rfl
        simp only [num_bad L h']
        exact h'.with_ rfl rfl
  · intro p k q b h
    dsimp only
    rw [if_neg (fun e => h.ne_ e.1)]
    simp only [num_bad L h]
    have h' : Bad p k { q with c := { q.c with minor := 0 } } := h.with_ rfl rfl
    simp only [num_bad L h']
    exact h'.with_ rfl rfl
theorem pre1_ok (c : ClassC) (s : PS) : Beside (pre1P L c s) (fun c => c) ((), preQ1 L (okQ c s)) (fun _ => ()) := by
  unfold pre1P preQ1 countP
  simp only [Out.bind_assoc]
  refine (beside_num L 2 c s).bind (F := fun n q => ((), manyQ (constQ L) (n.toNat - 1) (if 1025 < n then failQ (if q.e = 0 ∧ n = 0 then failQ q (okQ c s).at_ 20 else q) (okQ c s).at_ 2 else (if q.e = 0 ∧ n = 0 then failQ q (okQ c s).at_ 20 else q)))) ?_ ?_
  · intro n s1 _
    dsimp only [id]
    by_cases h1 : 1025 < n
    · rw [if_pos h1, if_pos h1, if_neg (fun e => by have := e.2; omega), Out.bind_bad]
      have hb := fail_ok c s1 s.at_ 2 (by decide)
      rw [show failQ (okQ c s1) (okQ c s).at_ 2 = failQ (okQ c s1) s.at_ 2 from rfl, many_bad hb]
      exact beside_bad hb
    · rw [if_neg h1, if_neg h1, Out.bind_ok]
      by_cases h0 : n = 0
      · rw [if_pos h0, if_pos ⟨rfl, h0⟩]
        have hb := fail_ok c s1 s.at_ 20 (by decide)
        rw [show failQ (okQ c s1) (okQ c s).at_ 20 = failQ (okQ c s1) s.at_ 20 from rfl, many_bad hb]
        exact beside_bad hb
      · rw [if_neg h0, if_neg (fun e => h0 e.2)]
        exact (many_beside (constP L) (constQ L) addP (fun _ => True) (fun c s _ => const_ok L c s) (fun _ _ _ => trivial) (n.toNat - 1) c s1 trivial).bind (F := fun _ q => ((), q)) (fun l s2 _ => beside_ok rfl rfl) (fun p k q b h => h)
  · intro p k q b h
    dsimp only
    have hq : ¬ (q.e = 0 ∧ b = 0) := fun e => h.ne_ e.1
    rw [if_neg hq, fail_bad h, ite_self, many_bad h]
    exact h
theorem pre2_ok (c : ClassC) (s : PS) : Beside (pre2P L c s) (fun c => c) ((), preQ2 L (okQ c s)) (fun _ => ()) := by
  refine (beside_num L 2 c s).bind (F := fun a q => ((),
    let t := numQ L 2 { q with c := { q.c with access := a } }
    let s := numQ L 2 { t.2 with c := { t.2.c with this := t.1 } }
    { s.2 with c := { s.2.c with super := s.1 } })) ?_ ?_
  · intro a s1 _
    refine (beside_num L 2 { c with access := a } s1).bind (F := fun t q => ((),
      let s := numQ L 2 { q with c := { q.c with this := t } }
      { s.2 with c := { s.2.c with super := s.1 } })) ?_ ?_
    · intro t s2 _
      exact (beside_num L 2 { c with access := a, this := t } s2).bind (F := fun su q => ((), { q with c := { q.c with super := su } })) (fun su s3 _ => beside_ok rfl rfl) (fun p k q b h => h.with_ rfl rfl)
    · intro p k q b h
      have h' : Bad p k { q with c := { q.c with this := b } } := h.with_ rfl rfl
      simp only [num_bad L h']
      exact h'.with_ rfl rfl
  · intro p k q b h
    have h' : Bad p k { q with c := { q.c with access := b } } := h.with_ rfl rfl
    simp only [num_bad L h']
    have h2 : Bad p k { q with c := { q.c with access := b, this := 0 } } := h.with_ rfl rfl
    simp only [num_bad L h2]
    exact h2.with_ rfl rfl
theorem iface_ok (c : ClassC) (s : PS) : Beside (numP L 2 s) (fun x => addI c x) ((), ifaceQ L (okQ c s)) (fun _ => ()) := (beside_num L 2 c s).upd (fun x => addI c x)
theorem pre1_bad {p k : Int} {q : QS} (h : Bad p k q) : preQ1 L q = q := by
  unfold preQ1
  simp only [num_bad L h]
  have hq : ¬ (q.e = 0 ∧ True) := fun e => h.ne_ e.1
  rw [if_neg hq, fail_bad h, ite_self]
  rfl
theorem pre2_bad {p k : Int} {q : QS} (h : Bad p k q) : Bad p k (preQ2 L q) := by
  unfold preQ2
  simp only [num_bad L h]
  have h' : Bad p k { q with c := { q.c with access := 0 } } := h.with_ rfl rfl
  simp only [num_bad L h']
  have h2 : Bad p k { q with c := { q.c with access := 0, this := 0 } } := h.with_ rfl rfl
  simp only [num_bad L h2]
  exact h2.with_ rfl rfl
/-- The last of a class. -/
def endQ (q1 : QS) : QS := if q1.e = 0 ∧ q1.at_ < L.length then failQ q1 q1.at_ 14 else q1
theorem end_bad {p k : Int} {q : QS} (h : Bad p k q) : endQ L q = q := by
  unfold endQ
  rw [if_neg (fun e => h.ne_ e.1)]
theorem class_ok (s : PS) : Beside (classP L s) (fun c => c) ((), classQ L (okQ zeroC s)) (fun _ => ()) := by
  rw [classP_stages]
  show Beside _ _ ((), endQ L (skipQ L (listQ L (methQ L) (listQ L (fieldQ L) (listQ L (ifaceQ L) (preQ2 L (preQ1 L (preQ0 L (okQ zeroC s))))))))) _
  refine (pre0_ok L s).bind (F := fun _ q => ((), endQ L (skipQ L (listQ L (methQ L) (listQ L (fieldQ L) (listQ L (ifaceQ L) (preQ2 L (preQ1 L q)))))))) ?_ ?_
  rotate_left
  · intro p k q b h
    rw [pre1_bad L h]
    have h2 := pre2_bad L h
    rw [list_bad L h2, list_bad L h2, list_bad L h2, skip_bad L h2, end_bad L h2]
    exact h2
  intro c s _
  refine (pre1_ok L c s).bind (F := fun _ q => ((), endQ L (skipQ L (listQ L (methQ L) (listQ L (fieldQ L) (listQ L (ifaceQ L) (preQ2 L q))))))) ?_ ?_
  rotate_left
  · intro p k q b h
    have h2 := pre2_bad L h
    rw [list_bad L h2, list_bad L h2, list_bad L h2, skip_bad L h2, end_bad L h2]
    exact h2
  intro c s _
  refine (pre2_ok L c s).bind (F := fun _ q => ((), endQ L (skipQ L (listQ L (methQ L) (listQ L (fieldQ L) (listQ L (ifaceQ L) q)))))) ?_ ?_
  rotate_left
  · intro p k q b h2
    rw [list_bad L h2, list_bad L h2, list_bad L h2, skip_bad L h2, end_bad L h2]
    exact h2
  intro c s _
  refine (list_beside L (numP L 2) (ifaceQ L) addI (fun _ => True) (fun c s _ => iface_ok L c s) (fun _ _ _ => trivial) c s trivial).bind (F := fun _ q => ((), endQ L (skipQ L (listQ L (methQ L) (listQ L (fieldQ L) q))))) ?_ ?_
  rotate_left
  · intro p k q b h2
    rw [list_bad L h2, list_bad L h2, skip_bad L h2, end_bad L h2]
    exact h2
  intro c s _
  refine (list_beside L (fieldP L c.pool) (fieldQ L) addF (fun x => x.pool = c.pool) (fun c' s h => h ▸ field_ok L c' s) (fun _ _ h => h) c s rfl).bind (F := fun _ q => ((), endQ L (skipQ L (listQ L (methQ L) q)))) ?_ ?_
  rotate_left
  · intro p k q b h2
    rw [list_bad L h2, skip_bad L h2, end_bad L h2]
    exact h2
  intro c s _
  refine (list_beside L (methP L c.pool) (methQ L) addM (fun x => x.pool = c.pool) (fun c' s h => h ▸ meth_ok L c' s) (fun _ _ h => h) c s rfl).bind (F := fun _ q => ((), endQ L (skipQ L q))) ?_ ?_
  rotate_left
  · intro p k q b h2
    rw [skip_bad L h2, end_bad L h2]
    exact h2
  intro c s _
  refine (skip_ok L c s).bind (F := fun _ q => ((), endQ L q)) ?_ ?_
  rotate_left
  · intro p k q b h2
    rw [end_bad L h2]
    exact h2
  intro _ s _
  unfold endQ
  by_cases hl : s.at_ < L.length
  · rw [if_pos hl, if_pos ⟨rfl, hl⟩]
    exact beside_bad (fail_ok c s _ _ (by decide))
  · rw [if_neg hl, if_neg (fun e => hl e.2)]
    exact beside_ok rfl rfl
/-- The document's reader tells what the parser tells. -/
theorem readQ_eq : readQ L = readP L := by
  unfold readQ readP
  by_cases hl : 65536 < L.length
  · rw [if_pos hl, if_pos hl]
  rw [if_neg hl, if_neg hl]
  have h := class_ok L ⟨0, far, 0⟩
  rw [show (⟨0, 0, 0, far, 0, zeroC⟩ : QS) = okQ zeroC ⟨0, far, 0⟩ from rfl]
  dsimp only
  cases ho : classP L ⟨0, far, 0⟩ with
  | bad p k =>
    have hb := h.bad p k ho
    dsimp only at hb ⊢
    rw [if_pos hb.ne_, hb.bad, hb.e]
  | ok c s =>
    have := h.ok c s ho
    injection this with _ h2
    rw [h2, if_neg (by simp [okQ])]
    rfl
end
end Go.Proofs.Ytlipdifhdaaknaa
