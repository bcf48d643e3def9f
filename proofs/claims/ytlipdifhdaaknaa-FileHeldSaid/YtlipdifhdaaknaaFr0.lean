/-
  The document's own reader of class files: plain, without a program in sight; it goes on behind the first thing that is wrong.
-/
import Derived.Test.YtlipdifhdaaknaaFile0
namespace Go.Proofs.Ytlipdifhdaaknaa
open Go.RowKit
set_option maxRecDepth 100000

/-- Where the document's reader stands; the first thing that was wrong, where it began; the class so far. -/
structure QS where
  at_ : Nat
  e : Int
  bad : Int
  most : Int
  named : Int
  c : ClassC
def failQ (q : QS) (p k : Int) : QS := if q.e = 0 then { q with e := k, bad := p } else q
section
variable (L : List UInt8)
def numQ (n : Nat) (q : QS) : Int × QS :=
  if q.e ≠ 0 then (0, q)
  else if L.length < q.at_ + n then (0, failQ q q.at_ 10)
  else if q.most - q.at_ < n then (0, failQ q q.named 25)
  else (beN ((L.drop q.at_).take n), { q with at_ := q.at_ + n })
def bytesQ (n : Int) (q : QS) : List UInt8 × QS :=
  if q.e ≠ 0 then ([], q)
  else if (L.length : Int) - q.at_ < n then ([], failQ q q.at_ 10)
  else if q.most - q.at_ < n then ([], failQ q q.named 25)
  else ((L.drop q.at_).take n.toNat, { q with at_ := q.at_ + n.toNat })
def countQ (most : Int) (q : QS) : Int × QS := if most < (numQ L 2 q).1 then (0, failQ (numQ L 2 q).2 q.at_ 2) else numQ L 2 q
/-- What a constant holds behind its tag. -/
def constRQ (p t : Int) (q : QS) : ConstC × QS :=
  if t = 1 then (⟨1, ⟨(bytesQ L (numQ L 2 q).1 (numQ L 2 q).2).1.toArray⟩, 0, 0, 0⟩, (bytesQ L (numQ L 2 q).1 (numQ L 2 q).2).2)
  else if t = 3 then (⟨3, ⟨#[]⟩, wrapW (numQ L 4 q).1, 0, 0⟩, (numQ L 4 q).2)
  else if t = 7 then (⟨7, ⟨#[]⟩, 0, (numQ L 2 q).1, 0⟩, (numQ L 2 q).2)
  else if t = 9 ∨ t = 10 ∨ t = 11 ∨ t = 12 then (⟨t, ⟨#[]⟩, 0, (numQ L 2 q).1, (numQ L 2 (numQ L 2 q).2).1⟩, (numQ L 2 (numQ L 2 q).2).2)
  else (⟨t, ⟨#[]⟩, 0, 0, 0⟩, failQ q p 13)
def constQ (q : QS) : QS := { (constRQ L q.at_ (numQ L 1 q).1 (numQ L 1 q).2).2 with c := { q.c with pool := q.c.pool ++ [(constRQ L q.at_ (numQ L 1 q).1 (numQ L 1 q).2).1] } }
/-- The Utf8 of a number. -/
def textAt (pool : List ConstC) (n : Int) : Option ByteArray := match (if 1 ≤ n then pool[n.toNat - 1]? else none) with
  | some c => if c.tag = 1 then some c.text else none
  | none => none
def attrQ (q : QS) : ByteArray × QS :=
  if (numQ L 2 q).2.e = 0 then match textAt q.c.pool (numQ L 2 q).1 with
    | some t => (t, (numQ L 2 q).2)
    | none => (⟨#[]⟩, failQ (numQ L 2 q).2 q.at_ 20)
  else (⟨#[]⟩, (numQ L 2 q).2)
/-- Bytes behind their number. -/
def passQ (q : QS) : QS := (bytesQ L (numQ L 4 q).1 (numQ L 4 q).2).2
def skipLQ : Nat → QS → QS
  | 0, q => q
  | k + 1, q => if q.e ≠ 0 then q else skipLQ k (passQ L (attrQ L q).2)
def skipQ (q : QS) : QS := skipLQ L (numQ L 2 q).1.toNat (numQ L 2 q).2
/-- A field's value. -/
def valQ (p : Int) (had : Bool) (q : QS) : Int × QS :=
  let l := numQ L 4 (if had = true then failQ q p 24 else q)
  numQ L 2 (if l.2.e = 0 ∧ l.1 ≠ 2 then failQ l.2 p 26 else l.2)
def fieldLQ : Nat → Bool → Int → QS → Int × QS
  | 0, _, v, q => (v, q)
  | k + 1, had, v, q => if q.e ≠ 0 then (v, q) else
    if (attrQ L q).2.e = 0 ∧ (attrQ L q).1 = valueS then fieldLQ k true (valQ L q.at_ had (attrQ L q).2).1 (valQ L q.at_ had (attrQ L q).2).2
    else fieldLQ k had v (passQ L (attrQ L q).2)
def fieldQ (q : QS) : QS :=
  let a := numQ L 2 q
  let n := numQ L 2 a.2
  let d := numQ L 2 n.2
  let k := numQ L 2 d.2
  let r := fieldLQ L k.1.toNat false 0 k.2
  { r.2 with c := { q.c with fields := q.c.fields ++ [⟨a.1, n.1, d.1, r.1⟩] } }
def trapsQ : Nat → QS → List TrapC × QS
  | 0, q => ([], q)
  | k + 1, q => if q.e ≠ 0 then ([], q) else
    let a := numQ L 2 q
    let b := numQ L 2 a.2
    let c := numQ L 2 b.2
    let d := numQ L 2 c.2
    (⟨a.1, b.1, c.1, d.1⟩ :: (trapsQ k d.2).1, (trapsQ k d.2).2)
def codeQ (m : MethC) (p : Int) (q : QS) : MethC × QS :=
  let l := numQ L 4 q
  let st := numQ L 2 { l.2 with most := l.2.at_ + l.1, named := p }
  let lo := numQ L 2 st.2
  let n := numQ L 4 lo.2
  let b := bytesQ L n.1 (if 4096 < n.1 then failQ n.2 lo.2.at_ 2 else n.2)
  let k := countQ L 64 b.2
  let tr := trapsQ L k.1.toNat k.2
  let q3 := skipQ L tr.2
  ({ m with has := true, stack := st.1, locals := lo.1, code := b.1, traps := m.traps ++ tr.1 }, { (if (q3.at_ : Int) ≠ q3.most then failQ q3 p 25 else q3) with most := far })
def methLQ : Nat → MethC → QS → MethC × QS
  | 0, m, q => (m, q)
  | k + 1, m, q => if q.e ≠ 0 then (m, q) else
    if (attrQ L q).2.e = 0 ∧ (attrQ L q).1 = codeS then
      let r := codeQ L m q.at_ (if m.has = true then failQ (attrQ L q).2 q.at_ 24 else (attrQ L q).2)
      methLQ k r.1 r.2
    else methLQ k m (passQ L (attrQ L q).2)
def methQ (q : QS) : QS :=
  let a := numQ L 2 q
  let n := numQ L 2 a.2
  let d := numQ L 2 n.2
  let k := numQ L 2 d.2
  let r := methLQ L k.1.toNat ⟨a.1, n.1, d.1, false, 0, 0, [], []⟩ k.2
  { r.2 with c := { q.c with methods := q.c.methods ++ [r.1] } }
/-- So many, but none behind what is wrong. -/
def manyQ (f : QS → QS) : Nat → QS → QS
  | 0, q => q
  | k + 1, q => if q.e ≠ 0 then q else manyQ f k (f q)
def ifaceQ (q : QS) : QS := { (numQ L 2 q).2 with c := { q.c with ifaces := q.c.ifaces ++ [(numQ L 2 q).1] } }
def preQ0 (q : QS) : QS :=
  let mg := numQ L 4 q
  let mi := numQ L 2 (if mg.2.e = 0 ∧ mg.1 ≠ 3405691582 then failQ mg.2 0 11 else mg.2)
  let q1 := { mi.2 with c := { mi.2.c with minor := mi.1 } }
  let ma := numQ L 2 q1
  { ma.2 with c := { ma.2.c with major := ma.1 } }
def preQ1 (q : QS) : QS :=
  let n := numQ L 2 q
  let q1 := if n.2.e = 0 ∧ n.1 = 0 then failQ n.2 q.at_ 20 else n.2
  manyQ (constQ L) (n.1.toNat - 1) (if 1025 < n.1 then failQ q1 q.at_ 2 else q1)
def preQ2 (q : QS) : QS :=
  let a := numQ L 2 q
  let q1 := { a.2 with c := { a.2.c with access := a.1 } }
  let t := numQ L 2 q1
  let q2 := { t.2 with c := { t.2.c with this := t.1 } }
  let s := numQ L 2 q2
  { s.2 with c := { s.2.c with super := s.1 } }
def listQ (f : QS → QS) (q : QS) : QS := manyQ f (countQ L 64 q).1.toNat (countQ L 64 q).2
def classQ (q : QS) : QS :=
  let q1 := skipQ L (listQ L (methQ L) (listQ L (fieldQ L) (listQ L (ifaceQ L) (preQ2 L (preQ1 L (preQ0 L q))))))
  if q1.e = 0 ∧ q1.at_ < L.length then failQ q1 q1.at_ 14 else q1
def readQ : ClassC × Int × Int := if 65536 < L.length then (zeroC, 0, 2) else
  let q := classQ L ⟨0, 0, 0, far, 0, zeroC⟩
  if q.e ≠ 0 then (zeroC, q.bad, q.e) else (q.c, 0, 0)
end

/-- A state in which nothing was wrong. -/
def okQ (c : ClassC) (s : PS) : QS := ⟨s.at_, 0, 0, s.most, s.named, c⟩
/-- The first thing that was wrong is k, at p. -/
structure Bad (p k : Int) (q : QS) : Prop where
  e : q.e = k
  bad : q.bad = p
  ne : k ≠ 0
theorem Bad.ne_ {p k : Int} {q : QS} (h : Bad p k q) : q.e ≠ 0 := by rw [h.e]; exact h.ne
theorem Bad.with_ {p k : Int} {q q' : QS} (h : Bad p k q) (h1 : q'.e = q.e) (h2 : q'.bad = q.bad) : Bad p k q' := ⟨h1.trans h.e, h2.trans h.bad, h.ne⟩
theorem fail_ok (c : ClassC) (s : PS) (p k : Int) (hk : k ≠ 0) : Bad p k (failQ (okQ c s) p k) := by
  unfold failQ okQ; simp only [if_true]; exact ⟨rfl, rfl, hk⟩
theorem fail_bad {p k : Int} {q : QS} (h : Bad p k q) (p' k' : Int) : failQ q p' k' = q := by unfold failQ; rw [if_neg h.ne_]
theorem fail_c (q : QS) (p k : Int) : (failQ q p k).c = q.c := by unfold failQ; split <;> rfl
theorem fail_at (q : QS) (p k : Int) : (failQ q p k).at_ = q.at_ := by unfold failQ; split <;> rfl
theorem fail_most (q : QS) (p k : Int) : (failQ q p k).most = q.most := by unfold failQ; split <;> rfl
theorem fail_named (q : QS) (p k : Int) : (failQ q p k).named = q.named := by unfold failQ; split <;> rfl
section
variable (L : List UInt8)
theorem num_bad {p k : Int} {q : QS} (h : Bad p k q) (n : Nat) : numQ L n q = (0, q) := by unfold numQ; rw [if_pos h.ne_]
theorem bytes_bad {p k : Int} {q : QS} (h : Bad p k q) (n : Int) : bytesQ L n q = ([], q) := by unfold bytesQ; rw [if_pos h.ne_]
theorem num_ok {n : Nat} {s s' : PS} {v : Int} (h : numP L n s = .ok v s') (c : ClassC) : numQ L n (okQ c s) = (v, okQ c s') := by
  unfold numP bytesP at h
  unfold numQ okQ
  rw [if_neg (by simp)]
  by_cases h1 : (L.length : Int) - s.at_ < n
  · rw [if_pos h1] at h; cases h
  rw [if_neg h1] at h
  by_cases h2 : s.most - s.at_ < n
  · rw [if_pos h2] at h; cases h
  rw [if_neg h2, Out.bind_ok] at h
  injection h with h3 h4
  subst h3
  subst h4
  dsimp only
  rw [if_neg (by omega), if_neg h2]
  rfl
theorem num_bad_of {n : Nat} {s : PS} {p k : Int} (h : numP L n s = .bad p k) (c : ClassC) : Bad p k (numQ L n (okQ c s)).2 := by
  unfold numP bytesP at h
  unfold numQ
  rw [if_neg (by simp [okQ])]
  by_cases h1 : (L.length : Int) - s.at_ < n
  · rw [if_pos h1, Out.bind_bad] at h
    injection h with h3 h4
    subst h3
    subst h4
    rw [if_pos (show L.length < (okQ c s).at_ + n by show L.length < s.at_ + n; omega)]
    exact fail_ok c s _ _ (by decide)
  rw [if_neg h1] at h
  by_cases h2 : s.most - s.at_ < n
  · rw [if_pos h2, Out.bind_bad] at h
    injection h with h3 h4
    subst h3
    subst h4
    rw [if_neg (show ¬ L.length < (okQ c s).at_ + n by show ¬ L.length < s.at_ + n; omega), if_pos (show (okQ c s).most - (okQ c s).at_ < n from h2)]
    exact fail_ok c s _ _ (by decide)
  rw [if_neg h2, Out.bind_ok] at h
  cases h
theorem bytes_ok {n : Int} {s s' : PS} {l : List UInt8} (h : bytesP L n s = .ok l s') (c : ClassC) : bytesQ L n (okQ c s) = (l, okQ c s') := by
  unfold bytesP at h
  unfold bytesQ okQ
  rw [if_neg (by simp)]
  by_cases h1 : (L.length : Int) - s.at_ < n
  · rw [if_pos h1] at h; cases h
  rw [if_neg h1] at h
  by_cases h2 : s.most - s.at_ < n
  · rw [if_pos h2] at h; cases h
  rw [if_neg h2] at h
  injection h with h3 h4
  subst h3
  subst h4
  dsimp only
  rw [if_neg h1, if_neg h2]
theorem bytes_bad_of {n : Int} {s : PS} {p k : Int} (h : bytesP L n s = .bad p k) (c : ClassC) : Bad p k (bytesQ L n (okQ c s)).2 := by
  unfold bytesP at h
  unfold bytesQ
  rw [if_neg (by simp [okQ])]
  by_cases h1 : (L.length : Int) - s.at_ < n
  · rw [if_pos h1] at h
    injection h with h3 h4
    subst h3
    subst h4
    rw [if_pos (show (L.length : Int) - (okQ c s).at_ < n from h1)]
    exact fail_ok c s _ _ (by decide)
  rw [if_neg h1] at h
  by_cases h2 : s.most - s.at_ < n
  · rw [if_pos h2] at h
    injection h with h3 h4
    subst h3
    subst h4
    rw [if_neg (show ¬ (L.length : Int) - (okQ c s).at_ < n from h1), if_pos (show (okQ c s).most - (okQ c s).at_ < n from h2)]
    exact fail_ok c s _ _ (by decide)
  rw [if_neg h2] at h
  cases h
theorem num_c (n : Nat) (q : QS) : (numQ L n q).2.c = q.c := by
  unfold numQ; split
  · rfl
  · split
    · exact fail_c _ _ _
    · split
      · exact fail_c _ _ _
      · rfl
theorem bytes_c (n : Int) (q : QS) : (bytesQ L n q).2.c = q.c := by
  unfold bytesQ; split
  · rfl
  · split
    · exact fail_c _ _ _
    · split
      · exact fail_c _ _ _
      · rfl

/-- What a part of the document's reader does, beside what a part of the parser does. -/
structure Beside {α β : Type} (o : Out α) (c : α → ClassC) (r : β × QS) (g : α → β) : Prop where
  ok : ∀ a s', o = .ok a s' → r = (g a, okQ (c a) s')
  bad : ∀ p k, o = .bad p k → Bad p k r.2
theorem beside_num (n : Nat) (c : ClassC) (s : PS) : Beside (numP L n s) (fun _ => c) (numQ L n (okQ c s)) id := ⟨fun _ _ h => num_ok L h c, fun _ _ h => num_bad_of L h c⟩
theorem beside_bytes (n : Int) (c : ClassC) (s : PS) : Beside (bytesP L n s) (fun _ => c) (bytesQ L n (okQ c s)) id := ⟨fun _ _ h => bytes_ok L h c, fun _ _ h => bytes_bad_of L h c⟩
end
section
variable {α α' β β' : Type}
/-- The two go on side by side. -/
theorem Beside.bind {o : Out α} {c : α → ClassC} {c' : α' → ClassC} {r : β × QS} {g : α → β} {f : α → PS → Out α'} {F : β → QS → β' × QS} {g' : α' → β'} (h : Beside o c r g)
    (h1 : ∀ a s, o = .ok a s → Beside (f a s) c' (F (g a) (okQ (c a) s)) g') (h2 : ∀ p k q b, Bad p k q → Bad p k (F b q).2) : Beside (o.bind f) c' (F r.1 r.2) g' := by
  cases ho : o with
  | ok a s =>
    rw [Out.bind_ok, h.ok a s ho]
    exact h1 a s ho
  | bad p k =>
    rw [Out.bind_bad]
    refine ⟨fun _ _ e => (by cases e), fun p' k' e => ?_⟩
    injection e with e1 e2
    subst e1
    subst e2
    exact h2 _ _ _ _ (h.bad _ _ ho)
theorem beside_ok {a : α} {s : PS} {c : α → ClassC} {g : α → β} {b : β} {q : QS} (hb : b = g a) (hq : q = okQ (c a) s) : Beside (.ok a s) c (b, q) g := ⟨fun a' s' e => (by injection e with e1 e2; subst e1; subst e2; rw [hb, hq]), fun _ _ e => (by cases e)⟩
theorem beside_bad {p k : Int} {c : α → ClassC} {g : α → β} {r : β × QS} (h : Bad p k r.2) : Beside (.bad p k) c r g := ⟨fun _ _ e => (by cases e), fun p' k' e => (by injection e with e1 e2; subst e1; subst e2; exact h)⟩
end
section
variable (L : List UInt8)
theorem count_ok (m : Int) (c : ClassC) (s : PS) : Beside (countP L m s) (fun _ => c) (countQ L m (okQ c s)) id := by
  have h := beside_num L 2 c s
  unfold countP countQ
  cases ho : numP L 2 s with
  | bad p k =>
    have hb := h.bad p k ho
    rw [Out.bind_bad]
    refine beside_bad ?_
    split
    · show Bad p k (failQ _ _ _)
      rw [fail_bad hb]
      exact hb
    · exact hb
  | ok n t =>
    have hn := h.ok n t ho
    rw [Out.bind_ok, hn]
    dsimp only [id]
    by_cases hm : m < n
    · rw [if_pos hm, if_pos hm]
      exact beside_bad (fail_ok c t s.at_ 2 (by decide))
    · rw [if_neg hm, if_neg hm]
      exact beside_ok rfl rfl
theorem count_bad {p k : Int} {q : QS} (h : Bad p k q) {m : Int} (hm : 0 ≤ m) : countQ L m q = (0, q) := by
  unfold countQ
  rw [num_bad L h]
  dsimp only
  rw [if_neg (by omega)]
theorem name_ok (c : ClassC) (s : PS) : Beside (nameP L c.pool s) (fun _ => c) (attrQ L (okQ c s)) id := by
  have h := beside_num L 2 c s
  unfold nameP attrQ
  cases ho : numP L 2 s with
  | bad p k =>
    have hb := h.bad p k ho
    rw [Out.bind_bad, if_neg hb.ne_]
    exact beside_bad hb
  | ok n t =>
    have hn := h.ok n t ho
    rw [Out.bind_ok, hn]
    dsimp only [id]
    rw [if_pos (show (okQ c t).e = 0 from rfl)]
    unfold textAt
    show Beside _ _ (match (match (if 1 ≤ n then c.pool[n.toNat - 1]? else none) with
      | some c => if c.tag = 1 then some c.text else none
      | none => none) with
      | some t_1 => (t_1, okQ c t)
      | none => (⟨#[]⟩, failQ (okQ c t) s.at_ 20)) id
    cases (if 1 ≤ n then c.pool[n.toNat - 1]? else none) with
    | none => exact beside_bad (fail_ok c t s.at_ 20 (by decide))
    | some x =>
      dsimp only
      by_cases hx : x.tag = 1
      · rw [if_pos hx, if_pos hx]
        exact beside_ok rfl rfl
      · rw [if_neg hx, if_neg hx]
        exact beside_bad (fail_ok c t s.at_ 20 (by decide))
theorem name_bad {p k : Int} {q : QS} (h : Bad p k q) : attrQ L q = (⟨#[]⟩, q) := by
  unfold attrQ
  rw [num_bad L h, if_neg h.ne_]
theorem pass_bad {p k : Int} {q : QS} (h : Bad p k q) : passQ L q = q := by
  unfold passQ
  rw [num_bad L h, bytes_bad L h]
theorem pass_ok {α : Type} {f : Unit → PS → Out α} (c : ClassC) (s : PS) : Beside ((numP L 4 s).bind fun long s2 => (bytesP L long s2).bind fun _ s3 => .ok () s3) (fun _ => c) ((), passQ L (okQ c s)) id :=
  (beside_num L 4 c s).bind (F := fun n q => ((), (bytesQ L n q).2))
    (fun n t _ => (beside_bytes L n c t).bind (F := fun _ q => ((), q)) (fun _ _ _ => beside_ok rfl rfl) fun _ _ _ _ h => h) fun p k q n h => by
      rw [bytes_bad L h]; exact h
end
end Go.Proofs.Ytlipdifhdaaknaa
