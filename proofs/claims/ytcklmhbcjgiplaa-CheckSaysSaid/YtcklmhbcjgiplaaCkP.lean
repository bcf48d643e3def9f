/-
  What a class file must be: plain, without a program in sight.
-/
import Derived.Test.YtcklmhbcjgiplaaCk1
import Derived.Test.YtcklmhbcjgiplaaDesc0
namespace Go.Proofs.Ytcklmhbcjgiplaa
set_option linter.unusedVariables false
set_option linter.unusedSimpArgs false
open Go.RowKit
set_option maxRecDepth 100000

def hasF (a f : Int) : Bool := bits .and .i64 a f != 0
def allF (a f : Int) : Bool := bits .and .i64 a f == f
def oneF (a f : Int) : Int := if hasF a f = true then 1 else 0
def viewsI (a : Int) : Int := oneF a 1 + oneF a 2 + oneF a 4
theorem getC_text {pool : List ConstC} (h : ∀ k ∈ pool, k.text.size ≤ maxLen) (n t : Int) : ((getC pool n t).getD zeroK).text.size ≤ maxLen := by
  unfold getC
  split
  · split
    · split
      · rename_i x hx _
        exact h x (List.mem_of_getElem? hx)
      · exact Nat.zero_le _
    · exact Nat.zero_le _
  · exact Nat.zero_le _
theorem textC_size {pool : List ConstC} (h : ∀ k ∈ pool, k.text.size ≤ maxLen) (n : Int) : (textC pool n).1.size ≤ maxLen := getC_text h n 1
theorem nameC_size {pool : List ConstC} (h : ∀ k ∈ pool, k.text.size ≤ maxLen) (n : Int) : (nameC pool n).1.size ≤ maxLen := by
  unfold nameC
  split
  · exact textC_size h _
  · exact Nat.zero_le _
theorem textC_no {pool : List ConstC} {n : Int} (h : (textC pool n).2 = false) : (textC pool n).1 = ⟨#[]⟩ := by
  unfold textC at h ⊢
  cases hg : getC pool n 1 with
  | none => rfl
  | some x => rw [hg] at h; cases h
theorem nameC_no {pool : List ConstC} {n : Int} (h : (nameC pool n).2 = false) : (nameC pool n).1 = ⟨#[]⟩ := by
  unfold nameC at h ⊢
  split
  · rename_i hs
    rw [if_pos hs] at h
    exact textC_no h
  · rfl
/-- The texts of a TagNamed, as the document tells them. -/
def bothC (pool : List ConstC) (n : Int) : ByteArray × ByteArray × Bool := if (getC pool n 12).isSome = true then ((textC pool ((getC pool n 12).getD zeroK).a).1, (textC pool ((getC pool n 12).getD zeroK).b).1, (textC pool ((getC pool n 12).getD zeroK).a).2 && (textC pool ((getC pool n 12).getD zeroK).b).2) else (⟨#[]⟩, ⟨#[]⟩, false)
/-- As the program tells them. -/
def pairC (pool : List ConstC) (n : Int) : ByteArray × ByteArray × Bool := if (bothC pool n).2.2 = true then bothC pool n else (⟨#[]⟩, ⟨#[]⟩, false)
theorem bothC_size {pool : List ConstC} (h : ∀ k ∈ pool, k.text.size ≤ maxLen) (n : Int) : (bothC pool n).1.size ≤ maxLen ∧ (bothC pool n).2.1.size ≤ maxLen := by
  unfold bothC
  split
  · exact ⟨textC_size h _, textC_size h _⟩
  · exact ⟨Nat.zero_le _, Nat.zero_le _⟩
theorem pairC_size {pool : List ConstC} (h : ∀ k ∈ pool, k.text.size ≤ maxLen) (n : Int) : (pairC pool n).1.size ≤ maxLen ∧ (pairC pool n).2.1.size ≤ maxLen := by
  unfold pairC
  split
  · exact bothC_size h n
  · exact ⟨Nat.zero_le _, Nat.zero_le _⟩
theorem pairC_ok (pool : List ConstC) (n : Int) : (pairC pool n).2.2 = (bothC pool n).2.2 := by
  unfold pairC
  split
  · rfl
  · rename_i h
    simpa using h
def isK (s : ByteArray) : Bool := (kindsL s.data.toList).isSome
def retK (s : ByteArray) : List UInt8 := ((kindsL s.data.toList).getD ([], [])).2
def argK (s : ByteArray) : List UInt8 := ((kindsL s.data.toList).getD ([], [])).1
def clsS (s : ByteArray) : Bool := clsB s.data.toList
def memS (s : ByteArray) : Bool := memB s.data.toList
def metS (s : ByteArray) : Bool := metB s.data.toList
def fldS (s : ByteArray) : Bool := fldB s.data.toList
def isS (s : ByteArray) (l : List UInt8) : Bool := s.toList == l
/-- A reference to a member: its two texts, whether they are there, its tag, whether its class is. -/
def refE (t : Int) (there : Bool) (r : ByteArray × ByteArray × Bool) : Int :=
  if (there && r.2.2) = false then 20
  else if (t == 9 && !fldS r.2.1 || !(t == 9) && !isK r.2.1) = true then 22
  else if (t == 9 && !memS r.1) = true then 21
  else if (!(t == 9) && (isS r.1 cliL || isS r.1 iniL && (t == 11 || !(retK r.2.1 == [86])))) = true then 21
  else 0
/-- What is wrong with a constant. -/
def constE (pool : List ConstC) (x : ConstC) : Int :=
  if x.tag = 1 ∨ x.tag = 3 then 0
  else if x.tag = 7 then (if (textC pool x.a).2 = false then 20 else if clsS (textC pool x.a).1 = false then 21 else 0)
  else if x.tag = 12 then (if ((textC pool x.a).2 && (textC pool x.b).2) = false then 20 else if metS (textC pool x.a).1 = false then 21 else if (fldS (textC pool x.b).1 || isK (textC pool x.b).1) = false then 22 else 0)
  else if x.tag = 9 ∨ x.tag = 10 ∨ x.tag = 11 then refE x.tag (getC pool x.a 7).isSome (bothC pool x.b)
  else 13
theorem refE_pair (t : Int) (there : Bool) (pool : List ConstC) (n : Int) : refE t there (pairC pool n) = refE t there (bothC pool n) := by
  unfold pairC
  split
  · rfl
  · rename_i h
    have h' : (bothC pool n).2.2 = false := by simpa using h
    unfold refE
    rw [h']
    simp
def objS : ByteArray := ⟨#[106, 97, 118, 97, 47, 108, 97, 110, 103, 47, 79, 98, 106, 101, 99, 116]⟩
/-- Flags of a class that cannot be. -/
def headF (acc : Int) (super : ByteArray) : Bool := hasF acc 512 && (!hasF acc 1024 || hasF acc 16) || hasF acc 16 && hasF acc 1024 || hasF acc 512 && !(super.toList == objS.toList)
/-- Interfaces, one behind the other. -/
def facesE (pool : List ConstC) (seen : List ByteArray) : List Int → Int
  | [] => 0
  | n :: l => if (nameC pool n).2 = false then 20 else if seen.contains (nameC pool n).1 = true then 24 else facesE pool (seen ++ [(nameC pool n).1]) l
def headE (c : ClassC) : Int :=
  if (getC c.pool c.this 7).isSome = false then 20
  else if (getC c.pool c.super 7).isSome = false then 20
  else if headF c.access (nameC c.pool c.super).1 = true then 23
  else facesE c.pool [] c.ifaces
def keyC (pool : List ConstC) (n d : Int) : ByteArray × ByteArray := ((textC pool n).1, (textC pool d).1)
def fieldE (pool : List ConstC) (acc : Int) (seen : List (ByteArray × ByteArray)) (f : FieldC) : Int :=
  if ((textC pool f.name).2 && (textC pool f.desc).2) = false then 20
  else if memS (textC pool f.name).1 = false then 21
  else if fldS (textC pool f.desc).1 = false then 22
  else if (decide (1 < viewsI f.access) || hasF acc 512 && !allF f.access 25) = true then 23
  else if seen.contains (keyC pool f.name f.desc) = true then 24
  else if (f.value != 0 && (!hasF f.access 8 || !isS (textC pool f.desc).1 [73] || !(getC pool f.value 3).isSome)) = true then 26
  else 0
/-- Flags of a method that cannot be. -/
def methF (acc a : Int) (name : ByteArray) : Bool :=
  if (hasF a 256 || decide (1 < viewsI a) || hasF a 1024 && hasF a 26) = true then true
  else if (hasF acc 512 && (!hasF a 3 || hasF a 16)) = true then true
  else if isS name iniL = true then hasF a 8 || hasF a 1024 || hasF acc 512
  else if isS name cliL = true then !hasF a 8 || hasF a 1024
  else false
/-- Code that cannot be; so many arguments. -/
def codeF (m : MethC) (args : Nat) : Bool :=
  if m.has = hasF m.access 1024 then true
  else if m.has = false then false
  else if m.code.length = 0 ∨ m.stack < 0 ∨ 64 < m.stack ∨ m.locals < 0 ∨ 64 < m.locals ∨ m.locals < (args : Int) + (if hasF m.access 8 = true then 0 else 1) then true
  else m.traps.any fun t => decide (t.fr < 0) || decide (t.to ≤ t.fr) || decide ((m.code.length : Int) < t.to) || decide (t.at_ < 0) || decide ((m.code.length : Int) ≤ t.at_)
def trapF (pool : List ConstC) (m : MethC) : Bool := m.traps.any fun t => m.has && t.ty != 0 && !(getC pool t.ty 7).isSome
def methE (pool : List ConstC) (acc : Int) (seen : List (ByteArray × ByteArray)) (m : MethC) : Int :=
  if ((textC pool m.name).2 && (textC pool m.desc).2) = false then 20
  else if metS (textC pool m.name).1 = false then 21
  else if isK (textC pool m.desc).1 = false then 22
  else if methF acc m.access (textC pool m.name).1 = true then 23
  else if (isS (textC pool m.name).1 iniL && !(retK (textC pool m.desc).1 == [86]) || isS (textC pool m.name).1 cliL && !isS (textC pool m.desc).1 [40, 41, 86]) = true then 22
  else if seen.contains (keyC pool m.name m.desc) = true then 24
  else if codeF m (argK (textC pool m.desc).1).length = true then 25
  else if trapF pool m = true then 20
  else 0
def poolE (pool : List ConstC) : List ConstC → Int
  | [] => 0
  | x :: l => if constE pool x = 0 then poolE pool l else constE pool x
def fieldsE (pool : List ConstC) (acc : Int) (seen : List (ByteArray × ByteArray)) : List FieldC → Int
  | [] => 0
  | f :: l => if fieldE pool acc seen f = 0 then fieldsE pool acc (seen ++ [keyC pool f.name f.desc]) l else fieldE pool acc seen f
def methsE (pool : List ConstC) (acc : Int) (seen : List (ByteArray × ByteArray)) : List MethC → Int
  | [] => 0
  | m :: l => if methE pool acc seen m = 0 then methsE pool acc (seen ++ [keyC pool m.name m.desc]) l else methE pool acc seen m
def muchB (c : ClassC) : Bool := decide (1024 < c.pool.length) || decide (64 < c.ifaces.length) || decide (64 < c.fields.length) || decide (64 < c.methods.length) || c.methods.any fun m => decide (64 < m.traps.length) || decide (4096 < m.code.length)
/-- What is wrong with a class file. -/
def checkE (c : ClassC) : Int :=
  if muchB c = true then 2
  else if c.major < 45 ∨ 52 < c.major then 12
  else if poolE c.pool c.pool ≠ 0 then poolE c.pool c.pool
  else if headE c ≠ 0 then headE c
  else if fieldsE c.pool c.access [] c.fields ≠ 0 then fieldsE c.pool c.access [] c.fields
  else methsE c.pool c.access [] c.methods
/-- Where every constant is right, a class's name is there. -/
theorem poolE_all {pool l : List ConstC} (h : poolE pool l = 0) : ∀ x ∈ l, constE pool x = 0 := by
  induction l with
  | nil => simp
  | cons y l ih =>
    unfold poolE at h
    split at h
    · rename_i h0
      intro x hx
      rcases List.mem_cons.1 hx with rfl | hx
      · exact h0
      · exact ih h x hx
    · rename_i h0
      exact absurd h h0
theorem getC_some {pool : List ConstC} {n t : Int} {x : ConstC} (h : getC pool n t = some x) : x ∈ pool ∧ x.tag = t := by
  unfold getC at h
  split at h
  · split at h
    · rename_i y hy
      split at h
      · rename_i ht
        cases h
        exact ⟨List.mem_of_getElem? hy, ht⟩
      · cases h
    · cases h
  · cases h
theorem name_there {pool : List ConstC} (h : poolE pool pool = 0) {n : Int} (hn : (getC pool n 7).isSome = true) : (nameC pool n).2 = true := by
  obtain ⟨x, hx⟩ := Option.isSome_iff_exists.1 hn
  obtain ⟨hm, ht⟩ := getC_some hx
  have h0 := poolE_all h x hm
  unfold constE at h0
  rw [if_neg (by omega), if_pos ht] at h0
  unfold nameC
  rw [if_pos hn, hx]
  cases h2 : (textC pool x.a).2 with
  | true => exact h2
  | false => rw [if_pos h2] at h0; cases h0
end Go.Proofs.Ytcklmhbcjgiplaa
