/-
  A class file's bytes, read: plain, without a program in sight.
-/
import Derived.WalkKit
import Derived.Lib.Hide
namespace Go.Proofs.Ytcklmhbcjgiplaa
set_option linter.unusedVariables false
set_option linter.unusedSimpArgs false
open Go.RowKit
set_option maxRecDepth 100000

structure ConstC where
  tag : Int
  text : ByteArray
  num : Int
  a : Int
  b : Int
structure FieldC where
  access : Int
  name : Int
  desc : Int
  value : Int
structure TrapC where
  fr : Int
  to : Int
  at_ : Int
  ty : Int
structure MethC where
  access : Int
  name : Int
  desc : Int
  has : Bool
  stack : Int
  locals : Int
  code : List UInt8
  traps : List TrapC
structure ClassC where
  minor : Int
  major : Int
  pool : List ConstC
  access : Int
  this : Int
  super : Int
  ifaces : List Int
  fields : List FieldC
  methods : List MethC

/-- Where a reader stands; what goes behind `most` is not what a Code's length says; where that Code's name stands. -/
structure PS where
  at_ : Nat
  most : Int
  named : Int
inductive Out (α : Type) where
  | ok (a : α) (s : PS)
  | bad (p e : Int)
def Out.bind {α β : Type} (x : Out α) (f : α → PS → Out β) : Out β := match x with
  | .ok a s => f a s
  | .bad p e => .bad p e
section
variable {α β γ : Type}
theorem Out.bind_ok (a : α) (s : PS) (f : α → PS → Out β) : (Out.ok a s).bind f = f a s := rfl
theorem Out.bind_bad (p e : Int) (f : α → PS → Out β) : (Out.bad p e : Out α).bind f = .bad p e := rfl
theorem Out.bind_assoc (x : Out α) (f : α → PS → Out β) (g : β → PS → Out γ) : (x.bind f).bind g = x.bind fun a s => (f a s).bind g := by cases x <;> rfl
theorem Out.bind_self (x : Out α) : (x.bind fun a s => .ok a s) = x := by cases x <;> rfl
end

/-- Bytes as one number, the highest first. -/
def beN (l : List UInt8) : Nat := l.foldl (fun v x => v * 256 + x.toNat) 0
section
variable (L : List UInt8)
def bytesP (n : Int) (s : PS) : Out (List UInt8) :=
  if (L.length : Int) - s.at_ < n then .bad s.at_ 10
  else if s.most - s.at_ < n then .bad s.named 25
  else .ok ((L.drop s.at_).take n.toNat) { s with at_ := s.at_ + n.toNat }
def numP (n : Int) (s : PS) : Out Int := (bytesP L n s).bind fun l t => .ok (beN l) t
def countP (most : Int) (s : PS) : Out Int := (numP L 2 s).bind fun n t => if most < n then .bad s.at_ 2 else .ok n t
/-- An int of 32 bits. -/
def wrapW (n : Int) : Int := if 2147483648 ≤ n then n - 4294967296 else n
def constP (s : PS) : Out ConstC := (numP L 1 s).bind fun t s1 =>
  if t = 1 then (numP L 2 s1).bind fun n s2 => (bytesP L n s2).bind fun l s3 => .ok ⟨1, ⟨l.toArray⟩, 0, 0, 0⟩ s3
  else if t = 3 then (numP L 4 s1).bind fun n s2 => .ok ⟨3, ⟨#[]⟩, wrapW n, 0, 0⟩ s2
  else if t = 7 then (numP L 2 s1).bind fun a s2 => .ok ⟨7, ⟨#[]⟩, 0, a, 0⟩ s2
  else if t = 9 ∨ t = 10 ∨ t = 11 ∨ t = 12 then (numP L 2 s1).bind fun a s2 => (numP L 2 s2).bind fun b s3 => .ok ⟨t, ⟨#[]⟩, 0, a, b⟩ s3
  else .bad s.at_ 13
/-- So many of a kind, one behind the other. -/
def manyP {α : Type} (f : PS → Out α) : Nat → PS → Out (List α)
  | 0, s => .ok [] s
  | k + 1, s => (f s).bind fun x s1 => (manyP f k s1).bind fun l s2 => .ok (x :: l) s2
def nameP (pool : List ConstC) (s : PS) : Out ByteArray := (numP L 2 s).bind fun n t =>
  match (if 1 ≤ n then pool[n.toNat - 1]? else none) with
  | some c => if c.tag = 1 then .ok c.text t else .bad s.at_ 20
  | none => .bad s.at_ 20
/-- Attributes: of the name that is wanted is told; all others are passed over. -/
def attrP (pool : List ConstC) {σ : Type} (want : ByteArray) (tell : σ → Int → Int → PS → Out σ) : Nat → Bool → σ → PS → Out σ
  | 0, _, x, s => .ok x s
  | k + 1, seen, x, s => (nameP L pool s).bind fun nm s1 =>
    if nm = want ∧ want.size ≠ 0 then
      (if seen = true then .bad s.at_ 24 else (numP L 4 s1).bind fun long s2 => (tell x s.at_ long s2).bind fun y s3 => attrP pool want tell k true y s3)
    else (numP L 4 s1).bind fun long s2 => (bytesP L long s2).bind fun _ s3 => attrP pool want tell k seen x s3
def attrsP (pool : List ConstC) {σ : Type} (want : ByteArray) (tell : σ → Int → Int → PS → Out σ) (x : σ) (s : PS) : Out σ :=
  (numP L 2 s).bind fun n s1 => attrP L pool want tell n.toNat false x s1
def skipP (pool : List ConstC) (s : PS) : Out Unit := attrsP L pool ⟨#[]⟩ (fun x _ _ t => .ok x t) () s
def valueS : ByteArray := ⟨#[67, 111, 110, 115, 116, 97, 110, 116, 86, 97, 108, 117, 101]⟩
def codeS : ByteArray := ⟨#[67, 111, 100, 101]⟩
def fieldP (pool : List ConstC) (s : PS) : Out FieldC := (numP L 2 s).bind fun a s1 => (numP L 2 s1).bind fun n s2 => (numP L 2 s2).bind fun d s3 =>
  (attrsP L pool valueS (fun _ p long t => if long ≠ 2 then .bad p 26 else numP L 2 t) 0 s3).bind fun v s4 => .ok ⟨a, n, d, v⟩ s4
def trapP (s : PS) : Out TrapC := (numP L 2 s).bind fun a s1 => (numP L 2 s1).bind fun b s2 => (numP L 2 s2).bind fun c s3 => (numP L 2 s3).bind fun d s4 => .ok ⟨a, b, c, d⟩ s4
def far : Int := 4611686018427387904
def codeP (pool : List ConstC) (m : MethC) (p long : Int) (s : PS) : Out MethC :=
  (numP L 2 { s with most := s.at_ + long, named := p }).bind fun st s1 => (numP L 2 s1).bind fun lo s2 =>
  (numP L 4 s2).bind fun n s3 => if 4096 < n then .bad s2.at_ 2 else
  (bytesP L n s3).bind fun code s4 => (countP L 64 s4).bind fun k s5 => (manyP (trapP L) k.toNat s5).bind fun traps s6 =>
  (skipP L pool s6).bind fun _ s7 => if (s7.at_ : Int) ≠ s7.most then .bad p 25 else
  .ok { m with has := true, stack := st, locals := lo, code := code, traps := m.traps ++ traps } { s7 with most := far }
def methP (pool : List ConstC) (s : PS) : Out MethC := (numP L 2 s).bind fun a s1 => (numP L 2 s1).bind fun n s2 => (numP L 2 s2).bind fun d s3 =>
  attrsP L pool codeS (codeP L pool) ⟨a, n, d, false, 0, 0, [], []⟩ s3
def classP (s : PS) : Out ClassC := (numP L 4 s).bind fun magic s1 => if magic ≠ 3405691582 then .bad 0 11 else
  (numP L 2 s1).bind fun mi s2 => (numP L 2 s2).bind fun ma s3 => (countP L 1025 s3).bind fun n s4 => if n = 0 then .bad s3.at_ 20 else
  (manyP (constP L) (n.toNat - 1) s4).bind fun pool s5 => (numP L 2 s5).bind fun acc s6 => (numP L 2 s6).bind fun th s7 => (numP L 2 s7).bind fun su s8 =>
  (countP L 64 s8).bind fun ni s9 => (manyP (numP L 2) ni.toNat s9).bind fun is s10 =>
  (countP L 64 s10).bind fun nf s11 => (manyP (fieldP L pool) nf.toNat s11).bind fun fs s12 =>
  (countP L 64 s12).bind fun nm s13 => (manyP (methP L pool) nm.toNat s13).bind fun ms s14 =>
  (skipP L pool s14).bind fun _ s15 => if s15.at_ < L.length then .bad s15.at_ 14 else .ok ⟨mi, ma, pool, acc, th, su, is, fs, ms⟩ s15
def zeroC : ClassC := ⟨0, 0, [], 0, 0, 0, [], [], []⟩
/-- What reading tells: the class, the place, the error. -/
def readP : ClassC × Int × Int := if 65536 < L.length then (zeroC, 0, 2) else match classP L ⟨0, far, 0⟩ with
  | .ok c _ => (c, 0, 0)
  | .bad p e => (zeroC, p, e)
end
theorem beN_lt : ∀ (l : List UInt8), beN l < 256 ^ l.length := by
  intro l
  have key : ∀ (l : List UInt8) (v : Nat), l.foldl (fun v x => v * 256 + x.toNat) v < (v + 1) * 256 ^ l.length := by
    intro l
    induction l with
    | nil => intro v; simp
    | cons x l ih =>
      intro v
      have := ih (v * 256 + x.toNat)
      have hx : x.toNat < 256 := x.toNat_lt
      simp only [List.foldl_cons, List.length_cons]
      refine Nat.lt_of_lt_of_le this ?_
      rw [Nat.pow_succ, Nat.mul_comm (256 ^ l.length) 256, ← Nat.mul_assoc]
      exact Nat.mul_le_mul_right _ (by omega)
  have := key l 0
  simpa [beN] using this
theorem beN_snoc (l : List UInt8) (c : UInt8) : beN (l ++ [c]) = beN l * 256 + c.toNat := by simp [beN]
end Go.Proofs.Ytcklmhbcjgiplaa
