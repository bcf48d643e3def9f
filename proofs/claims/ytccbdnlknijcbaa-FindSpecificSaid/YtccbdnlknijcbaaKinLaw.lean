/-
  Chapter 9's laws: the small list of types, and that it is alive; KinSubs, KinViews.
-/
import Derived.Test.YtccbdnlknijcbaaKinC
import Derived.Test.YtccbdnlknijcbaaBig
namespace Go.Proofs.Ytccbdnlknijcbaa
open Go.RowKit
set_option maxRecDepth 100000

theorem rd_blk {w : World} {g : Nat} {t : TypeId} {cs : List Value} {sz n : Nat} (h : Blk w g t cs.toArray) (hs : cs.length = n * sz) (hn : n ≤ 9223372036854775807) : Rd w sz (.slice (some ⟨g, 0, none⟩) n n) n cs :=
  ⟨hs, _, _, rfl, Nat.le_refl _, hn, fun _ => ⟨_, _, rfl, fun j u hu => by rw [Nat.zero_add, h.cell j]; simpa using hu⟩⟩

def sJ : ByteArray := ⟨#[74]⟩
def sK : ByteArray := ⟨#[75]⟩
def sS : ByteArray := ⟨#[83]⟩
def sC : ByteArray := ⟨#[67]⟩
def sE : ByteArray := ⟨#[]⟩
/-- A type without fields and methods, as it lies in memory. -/
def bare (name super : ByteArray) (acc : Int) (iv : Value) (is : List ByteArray) : TypeV := ⟨name, super, acc, iv, is, .slice none 0 0, [], .slice none 0 0, []⟩
theorem bare_ok {w : World} {name super : ByteArray} {acc : Int} {iv : Value} {is : List ByteArray} (h1 : name.size ≤ maxLen) (h2 : super.size ≤ maxLen) (h3 : -9223372036854775808 ≤ acc ∧ acc ≤ 9223372036854775807) (hi : Rd w 1 iv is.length (is.flatMap encS)) (hs : ∀ s ∈ is, s.size ≤ maxLen) (hl : is.length ≤ 140737488351232) : TypeV.Ok w (bare name super acc iv is) :=
  ⟨h1, h2, h3, hi, hs, hl, Rd.nil, by simp [bare], by simp [bare], Rd.nil, by simp [bare], by simp [bare]⟩
def bareD (name super : ByteArray) (acc : Int) (is : List ByteArray) : TD := ⟨name, super, acc, is, [], []⟩

def smallV (h : Nat) : List TypeV := [bare sJ sE 1537 (.slice none 0 0) [], bare sK sE 1537 (.slice (some ⟨h, 0, none⟩) 1 1) [sJ], bare sS sE 33 (.slice (some ⟨h + 1, 0, none⟩) 1 1) [sJ], bare sC sS 33 (.slice (some ⟨h + 1 + 1, 0, none⟩) 1 1) [sK]]
def smallD : List TD := [bareD sJ sE 1537 [], bareD sK sE 1537 [sJ], bareD sS sE 33 [sJ], bareD sC sS 33 [sK]]
theorem small_sz : sJ.size ≤ maxLen ∧ sK.size ≤ maxLen ∧ sS.size ≤ maxLen ∧ sC.size ≤ maxLen ∧ sE.size ≤ maxLen := by decide

theorem one_rd {w : World} {g : Nat} {s : ByteArray} (h : Blk w g 9 #[.string s]) : Rd w 1 (.slice (some ⟨g, 0, none⟩) 1 1) [s].length ([s].flatMap encS) := rd_blk (cs := [.string s]) h rfl (by decide)

theorem small_facts : allL smallD sC = [sJ, sK] ∧ decide (subB smallD sC sJ) = true ∧ decide (subB smallD sS sK) = false ∧ atI smallD sS = 2 := by decide +kernel

/-- What Big leaves: false, and the list can be read. -/
theorem tyR_of {w : World} {l : List TypeV} {v : Value} (hr : Rd w 6 v l.length (l.flatMap encTypeV)) (hok : ∀ y ∈ l, TypeV.Ok w y) (h : l.length ≤ 60) : TyR w v (l.map TypeV.d) := ⟨l, rfl, hr, hok, by omega⟩

end Go.Proofs.Ytccbdnlknijcbaa
