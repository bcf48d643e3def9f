/-
  Chapter 12's laws: the small list of types, and that it is alive.
-/
import Derived.Test.YteblpdcedlaedaaFind7
import Derived.Test.YteblpdcedlaedaaKinLaw
namespace Go.Proofs.Yteblpdcedlaedaa
open Go.RowKit
set_option maxRecDepth 100000

def bM : ByteArray := ⟨#[109]⟩
def bV : ByteArray := ⟨#[40, 41, 86]⟩
def memM : MemberV := ⟨1, bM, bV, true, 0⟩
def memA : MemberV := ⟨1025, bM, bV, false, 0⟩
theorem memM_ok (w : World) : MemberV.Ok w memM := ⟨by decide, by decide, by decide, by decide⟩
theorem memA_ok (w : World) : MemberV.Ok w memA := ⟨by decide, by decide, by decide, by decide⟩
/-- A type without fields, as it lies in memory. -/
def mets (name super : ByteArray) (acc : Int) (iv : Value) (is : List ByteArray) (mv : Value) (ms : List MemberV) : TypeV := ⟨name, super, acc, iv, is, .slice none 0 0, [], mv, ms⟩
theorem mets_ok {w : World} {name super : ByteArray} {acc : Int} {iv : Value} {is : List ByteArray} {mv : Value} {ms : List MemberV} (h1 : name.size ≤ maxLen) (h2 : super.size ≤ maxLen) (h3 : -9223372036854775808 ≤ acc ∧ acc ≤ 9223372036854775807) (hi : Rd w 1 iv is.length (is.flatMap encS)) (hs : ∀ s ∈ is, s.size ≤ maxLen) (hl : is.length ≤ 140737488351232)
    (hm : Rd w 5 mv ms.length (ms.flatMap encMemberV)) (hms : ∀ z ∈ ms, MemberV.Ok w z) (hml : ms.length ≤ 140737488351232) : TypeV.Ok w (mets name super acc iv is mv ms) :=
  ⟨h1, h2, h3, hi, hs, hl, Rd.nil, by simp [mets], by simp [mets], hm, hms, hml⟩
def metsD (name super : ByteArray) (acc : Int) (is : List ByteArray) (ms : List MemberV) : TD := ⟨name, super, acc, is, [], ms⟩
def small12V (h : Nat) : List TypeV := [mets sJ sE 1537 (.slice none 0 0) [] (.slice (some ⟨h + 1 + 1, 0, none⟩) 1 1) [memM], mets sK sE 1537 (.slice (some ⟨h + 1 + 1 + 1, 0, none⟩) 1 1) [sJ] (.slice (some ⟨h + 1 + 1 + 1 + 1, 0, none⟩) 1 1) [memA],
  mets sS sE 33 (.slice (some ⟨h + 1 + 1 + 1 + 1 + 1, 0, none⟩) 1 1) [sJ] (.slice none 0 0) [], mets sC sS 33 (.slice (some ⟨h + 1 + 1 + 1 + 1 + 1 + 1, 0, none⟩) 1 1) [sK] (.slice none 0 0) []]
def small12D : List TD := [metsD sJ sE 1537 [] [memM], metsD sK sE 1537 [sJ] [memA], metsD sS sE 33 [sJ] [], metsD sC sS 33 [sK] []]
theorem one_mem {w : World} {g : Nat} {m : MemberV} (h : Blk w g 38 (encMemberV m).toArray) : Rd w 5 (.slice (some ⟨g, 0, none⟩) 1 1) [m].length ([m].flatMap encMemberV) := rd_blk (cs := encMemberV m) h rfl (by decide)
theorem small12_facts : methR small12D sC bM bV = ((sJ, 0), sE) ∧ mostL small12D sC bM bV = [(sK, 0)] ∧ methR small12D sK bM bV = (f0, chB) := by decide +kernel

end Go.Proofs.Yteblpdcedlaedaa
