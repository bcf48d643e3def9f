/-
  Package find by contract: try, Method, Face.
-/
import Derived.Test.YteblpdcedlaedaaFind4
import Derived.Laws.EntriesVeiled
namespace Go.Proofs.Yteblpdcedlaedaa
open Go.RowKit
set_option maxRecDepth 100000

def nmB : ByteArray := ⟨#[106, 97, 118, 97, 47, 108, 97, 110, 103, 47, 78, 111, 83, 117, 99, 104, 77, 101, 116, 104, 111, 100, 69, 114, 114, 111, 114]⟩
def chB : ByteArray := ⟨#[106, 97, 118, 97, 47, 108, 97, 110, 103, 47, 73, 110, 99, 111, 109, 112, 97, 116, 105, 98, 108, 101, 67, 108, 97, 115, 115, 67, 104, 97, 110, 103, 101, 69, 114, 114, 111, 114]⟩
/-- What a search tells: a found, an error. -/
def resV (r : FV × ByteArray) : Value := .tuple #[.agg #[.string r.1.1, .int .i64 r.1.2], .string r.2]
def lookR (o : Option FV) : FV × ByteArray := match o with
  | some f => (f, ⟨#[]⟩)
  | none => (f0, nmB)
def accT (D : List TD) (s : ByteArray) : Int := match atO D s with
  | some k => (D[k]?.map (·.access)).getD 0
  | none => 0
theorem accT_at {D : List TD} {s : ByteArray} {k : Nat} {t : TD} (h : atO D s = some k) (ht : D[k]? = some t) : accT D s = t.access := by simp [accT, h, ht]
def faceT (D : List TD) (s : ByteArray) : Bool := bits .and .i64 (accT D s) 512 != 0
def clsF (D : List TD) (c n d : ByteArray) : Option FV := (chF D c n d).or ((sglF D c n d).or (fstF D c n d))
def ifcF (D : List TD) (c n d : ByteArray) : Option FV := (ownF D c n d).or ((objF D c n d).or ((sglF D c n d).or (fstF D c n d)))
def tryR (D : List TD) (c : ByteArray) (face : Bool) (o : Option FV) : FV × ByteArray := if there D c then (if faceT D c = face then lookR o else (f0, chB)) else (f0, nmB)
def methR (D : List TD) (c n d : ByteArray) : FV × ByteArray := tryR D c false (clsF D c n d)
def faceR (D : List TD) (c n d : ByteArray) : FV × ByteArray := tryR D c true (ifcF D c n d)
theorem try_no {D : List TD} {c : ByteArray} {face : Bool} {o : Option FV} (h : atO D c = none) : tryR D c face o = (f0, nmB) := by simp [tryR, there, h]
theorem try_ch {D : List TD} {c : ByteArray} {face : Bool} {o : Option FV} {k : Nat} (h : atO D c = some k) (hf : faceT D c ≠ face) : tryR D c face o = (f0, chB) := by simp [tryR, there, h, hf]
theorem try_go {D : List TD} {c : ByteArray} {face : Bool} {o : Option FV} {k : Nat} (h : atO D c = some k) (hf : faceT D c = face) : tryR D c face o = lookR o := by simp [tryR, there, h, hf]

end Go.Proofs.Yteblpdcedlaedaa
