/-
  Plain facts for CheckMany.
-/
import Derived.Test.YtcklmhbcjgiplaaCm0
namespace Go.Proofs.Ytcklmhbcjgiplaa
set_option linter.unusedVariables false
set_option linter.unusedSimpArgs false
open Go.RowKit
set_option maxRecDepth 100000

def nameM (i : Nat) : ByteArray := ⟨#[102, UInt8.ofNat (48 + i / 10), UInt8.ofNat (48 + i % 10)]⟩
def pairM (i : Nat) : List ConstC := [⟨1, nameM i, 0, 0, 0⟩, ⟨7, ⟨#[]⟩, 0, ((5 + 2 * i : Nat) : Int), 0⟩]
def midM (n : Nat) : List ConstC := (List.range n).flatMap pairM
def tailM : List ConstC := [⟨1, ⟨#[73]⟩, 0, 0, 0⟩, ⟨1, ⟨#[40, 41, 86]⟩, 0, 0, 0⟩, ⟨1, ⟨#[67, 111, 100, 101]⟩, 0, 0, 0⟩]
def poolM (n : Nat) : List ConstC := smallK.pool ++ midM n ++ tailM
def fieldM (n i : Nat) : FieldC := ⟨0, ((5 + 2 * i : Nat) : Int), ((2 * n + 5 : Nat) : Int), 0⟩
def methM (n i : Nat) (ts : List TrapC) : MethC := { access := 8, name := ((5 + 2 * i : Nat) : Int), desc := ((2 * n + 6 : Nat) : Int), has := true, stack := 0, locals := 0, code := [177], traps := ts }
def manyK (which n : Nat) : ClassC :=
  if which = 0 then ⟨0, 52, poolM n, 33, 2, 4, [], (List.range n).map (fieldM n), []⟩
  else if which = 1 then ⟨0, 52, poolM n, 33, 2, 4, [], [], (List.range n).map fun i => methM n i []⟩
  else if which = 2 then ⟨0, 52, poolM n, 33, 2, 4, (List.range n).map fun i => ((6 + 2 * i : Nat) : Int), [], []⟩
  else ⟨0, 52, poolM n, 33, 2, 4, [], [], [methM n 0 (List.replicate n ⟨0, 1, 0, 0⟩)]⟩
theorem many_0 : ∀ i : Fin 65, checkE (manyK 0 i.val) = 0 := by decide +kernel
theorem many_1 : ∀ i : Fin 65, checkE (manyK 1 i.val) = 0 := by decide +kernel
theorem many_2 : ∀ i : Fin 65, checkE (manyK 2 i.val) = 0 := by decide +kernel
theorem many_3 : ∀ i : Fin 64, checkE (manyK 3 (i.val + 1)) = 0 := by decide +kernel
end Go.Proofs.Ytcklmhbcjgiplaa
