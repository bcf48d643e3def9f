/-
  turnstilelaw9.letter, and the closed facts on rows and diamonds.
-/
import Derived.Test.YtccbdnlknijcbaaKinLaw3
namespace Go.Proofs.Ytccbdnlknijcbaa
open Go.RowKit
set_option maxRecDepth 100000

def abc : ByteArray := ⟨#[97, 98, 99, 100, 101, 102, 103, 104, 105, 106, 107, 108, 109, 110, 111, 112, 113, 114, 115, 116, 117, 118, 119, 120, 121, 122]⟩
def letterS (i : Nat) : ByteArray := abc.extract i (i + 1)
def tT : ByteArray := ⟨#[84]⟩
def tS : ByteArray := ⟨#[83]⟩
def letters (n : Nat) : List ByteArray := (List.range n).map letterS
def diaD (n : Nat) : List TD := [⟨tT, ⟨#[]⟩, 1537, [], [], []⟩, ⟨tS, ⟨#[]⟩, 33, letters n, [], []⟩] ++ (letters n).map fun s => ⟨s, ⟨#[]⟩, 1537, [tT], [], []⟩
theorem dia_above : ∀ n < 12, aboveL (diaD (n + 1)) tS = tT :: letters (n + 1) := by decide +kernel
theorem letter_sz : ∀ n < 26, (letterS n).size = 1 := by decide +kernel
end Go.Proofs.Ytccbdnlknijcbaa
