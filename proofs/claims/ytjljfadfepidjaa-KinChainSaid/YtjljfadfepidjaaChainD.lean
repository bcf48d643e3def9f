/-
  The closed facts of the law KinChain.
-/
import Derived.Test.YtjljfadfepidjaaLetter
namespace Go.Proofs.Ytjljfadfepidjaa
open Go.RowKit
set_option maxRecDepth 100000

def supS (n i : Nat) (round : Bool) : ByteArray := if i + 1 < n then letterS (i + 1) else if round then letterS 0 else ⟨#[]⟩
def rowD (n : Nat) (round : Bool) : List TD := (List.range n).flatMap fun i => [⟨letterS i, supS n i round, 33, [letterS (13 + i)], [], []⟩, ⟨letterS (13 + i), ⟨#[]⟩, 1537, [], [], []⟩]
def wantN (n k : Nat) (round : Bool) : Nat := if round then n else n - k
theorem row_chain : ∀ n < 13, ∀ k < n + 1, ∀ r : Bool, chainL (rowD (n + 1) r) (letterS k) = (List.range (wantN (n + 1) k r)).map fun i => letterS ((k + i) % (n + 1)) := by decide +kernel
theorem row_all : ∀ n < 13, ∀ k < n + 1, ∀ r : Bool, allL (rowD (n + 1) r) (letterS k) = (List.range (wantN (n + 1) k r)).map fun i => letterS (13 + (k + i) % (n + 1)) := by decide +kernel
theorem row_subs : ∀ n < 13, ∀ k < n + 1, ∀ r : Bool, ∀ i < wantN (n + 1) k r, decide (subB (rowD (n + 1) r) (letterS k) (letterS ((k + i) % (n + 1)))) = true ∧ decide (subB (rowD (n + 1) r) (letterS k) (letterS (13 + (k + i) % (n + 1)))) = true := by decide +kernel
end Go.Proofs.Ytjljfadfepidjaa
