/-
  No cell of these rows narrows 'for every input' (looked for: loops, veiled, ifaces, maps, wideKeys, modest, calm, conditions, laid).
  DERIVED. THE GIVEN ROWS OF THIS SEAT. 5 by the template 'for every input the law returns true; each argument reads behind the call as it read before'; 0 by the template 'total and deterministic' (their statements: YtdcldijeoamjpaaTotals.lean).
  GIVEN WITH THE SEED: the statements are not yours to turn. If you find one false, say at which input.
  Laid BY PROGRAM, IN A SANDBOX (cutbox-rows.mjs): the forced cells as the released guide's own fill.sh prints them over the translation 364a2b942fb0ff7d… (all of the seat's roots in one cut). By AI agents, Wed Nov 11 2026. No macro, syntax, notation, axiom, sorry.
-/
import Derived.Test.YtdcldijeoamjpaaChecked
import GoSem.Claim
import GoSem.ClaimJoined
import GoSem.ClaimMapViews
import Derived.JoinedTies
import Derived.KernelRfl
namespace Go.Proofs.Ytdcldijeoamjpaa
/- THE CELL 'sum', in the pinned program and in every row, IS THE sha256 OF THE DUMP (.gsa) THAT YtdcldijeoamjpaaProg.lean LOADS. Nothing in Lean hashes anything: it is a label: what it is worth is what the hold of that sum in a sandbox is worth. -/
noncomputable def Try.pinned : Pinned := { name := "ytdcldijeoamjpaa", sum := "364a2b942fb0ff7d440440014b68c93ba8a9f613daabde63735cdb9f393114c1", checked := Try.checked }
namespace Rows
def none {H : Type} : Left H := { results := [], args := [] }

/-- 'turnstilelaw1.WordShifts': WHATEVER THE INPUT: true; the input reads as it did. -/
def wordShiftsSpec : ChangeSpec := { name := "wordShifts", fn := fun _ => fun
  | [d1, d2] => { results := [.lit (.bool true)], args := [d1, d2] }
  | _ => none }
def wordShiftsRow : OpenClaim := { program := "ytdcldijeoamjpaa", sum := "364a2b942fb0ff7d440440014b68c93ba8a9f613daabde63735cdb9f393114c1", func := "turnstile/turnstilelaw1.WordShifts", spec := "wordShifts", apart := false }
def WordShiftsSaid : Prop := wordShiftsRow.holds Try.pinned (OpenSpec.ofChange wordShiftsSpec)

/-- ITS FALSE NEIGHBOUR: 'it returns false'. Refute it at one input. -/
def wordShiftsWrong : ChangeSpec := { name := "wordShifts", fn := fun _ => fun
  | [d1, d2] => { results := [.lit (.bool false)], args := [d1, d2] }
  | _ => none }
def WordShiftsWrongFalsely : Prop := wordShiftsRow.holds Try.pinned (OpenSpec.ofChange wordShiftsWrong)

/-- 'turnstilelaw1.WordSums': WHATEVER THE INPUT: true; the input reads as it did. -/
def wordSumsSpec : ChangeSpec := { name := "wordSums", fn := fun _ => fun
  | [d1, d2] => { results := [.lit (.bool true)], args := [d1, d2] }
  | _ => none }
def wordSumsRow : OpenClaim := { program := "ytdcldijeoamjpaa", sum := "364a2b942fb0ff7d440440014b68c93ba8a9f613daabde63735cdb9f393114c1", func := "turnstile/turnstilelaw1.WordSums", spec := "wordSums", apart := false }
def WordSumsSaid : Prop := wordSumsRow.holds Try.pinned (OpenSpec.ofChange wordSumsSpec)

/-- ITS FALSE NEIGHBOUR: 'it returns false'. Refute it at one input. -/
def wordSumsWrong : ChangeSpec := { name := "wordSums", fn := fun _ => fun
  | [d1, d2] => { results := [.lit (.bool false)], args := [d1, d2] }
  | _ => none }
def WordSumsWrongFalsely : Prop := wordSumsRow.holds Try.pinned (OpenSpec.ofChange wordSumsWrong)

/-- 'turnstilelaw1.WordLaws': WHATEVER THE INPUT: true; the input reads as it did. -/
def wordLawsSpec : ChangeSpec := { name := "wordLaws", fn := fun _ => fun
  | [d1, d2, d3] => { results := [.lit (.bool true)], args := [d1, d2, d3] }
  | _ => none }
def wordLawsRow : OpenClaim := { program := "ytdcldijeoamjpaa", sum := "364a2b942fb0ff7d440440014b68c93ba8a9f613daabde63735cdb9f393114c1", func := "turnstile/turnstilelaw1.WordLaws", spec := "wordLaws", apart := false }
def WordLawsSaid : Prop := wordLawsRow.holds Try.pinned (OpenSpec.ofChange wordLawsSpec)

/-- ITS FALSE NEIGHBOUR: 'it returns false'. Refute it at one input. -/
def wordLawsWrong : ChangeSpec := { name := "wordLaws", fn := fun _ => fun
  | [d1, d2, d3] => { results := [.lit (.bool false)], args := [d1, d2, d3] }
  | _ => none }
def WordLawsWrongFalsely : Prop := wordLawsRow.holds Try.pinned (OpenSpec.ofChange wordLawsWrong)

/-- 'turnstilelaw1.WordBytes': WHATEVER THE INPUT: true; the input reads as it did. -/
def wordBytesSpec : ChangeSpec := { name := "wordBytes", fn := fun _ => fun
  | [d1, d2, d3, d4] => { results := [.lit (.bool true)], args := [d1, d2, d3, d4] }
  | _ => none }
def wordBytesRow : OpenClaim := { program := "ytdcldijeoamjpaa", sum := "364a2b942fb0ff7d440440014b68c93ba8a9f613daabde63735cdb9f393114c1", func := "turnstile/turnstilelaw1.WordBytes", spec := "wordBytes", apart := false }
def WordBytesSaid : Prop := wordBytesRow.holds Try.pinned (OpenSpec.ofChange wordBytesSpec)

/-- ITS FALSE NEIGHBOUR: 'it returns false'. Refute it at one input. -/
def wordBytesWrong : ChangeSpec := { name := "wordBytes", fn := fun _ => fun
  | [d1, d2, d3, d4] => { results := [.lit (.bool false)], args := [d1, d2, d3, d4] }
  | _ => none }
def WordBytesWrongFalsely : Prop := wordBytesRow.holds Try.pinned (OpenSpec.ofChange wordBytesWrong)

/-- 'turnstilelaw1.WordBack': WHATEVER THE INPUT: true; the input reads as it did. -/
def wordBackSpec : ChangeSpec := { name := "wordBack", fn := fun _ => fun
  | [d1, d2] => { results := [.lit (.bool true)], args := [d1, d2] }
  | _ => none }
def wordBackRow : OpenClaim := { program := "ytdcldijeoamjpaa", sum := "364a2b942fb0ff7d440440014b68c93ba8a9f613daabde63735cdb9f393114c1", func := "turnstile/turnstilelaw1.WordBack", spec := "wordBack", apart := false }
def WordBackSaid : Prop := wordBackRow.holds Try.pinned (OpenSpec.ofChange wordBackSpec)

/-- ITS FALSE NEIGHBOUR: 'it returns false'. Refute it at one input. -/
def wordBackWrong : ChangeSpec := { name := "wordBack", fn := fun _ => fun
  | [d1, d2] => { results := [.lit (.bool false)], args := [d1, d2] }
  | _ => none }
def WordBackWrongFalsely : Prop := wordBackRow.holds Try.pinned (OpenSpec.ofChange wordBackWrong)

/- THE SECOND FORM. 'bulk': how many values and letters a reading holds, each counted each time it is reached (what is shared counts as often as it is met; a slice's spare places count too). A statement '..UptoSaid' is the law's where the arguments, and the package variables that the reading takes, are together of bulk at most 1048576: NARROWER than '..Said'. Prove '..Said' where nothing that the law and all that it calls make is longer than what came in: it says more and counts as full. Else prove '..UptoSaid'. A law counts once. -/
mutual
def uptoBulk {H : Type} : DataW H → Nat
  | .lit (.string bytes) => bytes.length + 1
  | .lit _ => 1
  | .nil => 1
  | .ptr d => uptoBulk d + 1
  | .slice elems spare => uptoBulkAll elems + uptoBulkAll spare + 1
  | .agg parts => uptoBulkAll parts + 1
  | .iface _ d => uptoBulk d + 1
  | .map entries => uptoBulkEntries entries + 1
  | .held _ => 1
def uptoBulkAll {H : Type} : List (DataW H) → Nat
  | [] => 0
  | d :: r => uptoBulk d + uptoBulkAll r
def uptoBulkEntries {H : Type} : List (Lit × DataW H) → Nat
  | [] => 0
  | x :: r => uptoBulkEntry x + uptoBulkEntries r
def uptoBulkEntry {H : Type} : Lit × DataW H → Nat
  | (.string bytes, d) => bytes.length + uptoBulk d + 1
  | (_, d) => uptoBulk d + 1
 end
def uptoSmall : (H : Type) → List (DataW H) → Bool := fun _ ds => decide (uptoBulkAll ds ≤ 1048576)
def OpenSpec.upto (s : _root_.Go.ChangeSpec) : _root_.Go.OpenSpec := { _root_.Go.OpenSpec.ofChange s with cond := some uptoSmall }

/-- 'turnstilelaw1.WordShifts', WHERE WHAT IT READS IS OF BULK AT MOST 1048576: true; the input reads as it did. -/
def wordShiftsUptoRow : OpenClaim := { program := "ytdcldijeoamjpaa", sum := "364a2b942fb0ff7d440440014b68c93ba8a9f613daabde63735cdb9f393114c1", func := "turnstile/turnstilelaw1.WordShifts", spec := "wordShifts", apart := false, narrowed := true }
def WordShiftsUptoSaid : Prop := wordShiftsUptoRow.holds Try.pinned (OpenSpec.upto wordShiftsSpec)

/-- 'turnstilelaw1.WordSums', WHERE WHAT IT READS IS OF BULK AT MOST 1048576: true; the input reads as it did. -/
def wordSumsUptoRow : OpenClaim := { program := "ytdcldijeoamjpaa", sum := "364a2b942fb0ff7d440440014b68c93ba8a9f613daabde63735cdb9f393114c1", func := "turnstile/turnstilelaw1.WordSums", spec := "wordSums", apart := false, narrowed := true }
def WordSumsUptoSaid : Prop := wordSumsUptoRow.holds Try.pinned (OpenSpec.upto wordSumsSpec)

/-- 'turnstilelaw1.WordLaws', WHERE WHAT IT READS IS OF BULK AT MOST 1048576: true; the input reads as it did. -/
def wordLawsUptoRow : OpenClaim := { program := "ytdcldijeoamjpaa", sum := "364a2b942fb0ff7d440440014b68c93ba8a9f613daabde63735cdb9f393114c1", func := "turnstile/turnstilelaw1.WordLaws", spec := "wordLaws", apart := false, narrowed := true }
def WordLawsUptoSaid : Prop := wordLawsUptoRow.holds Try.pinned (OpenSpec.upto wordLawsSpec)

/-- 'turnstilelaw1.WordBytes', WHERE WHAT IT READS IS OF BULK AT MOST 1048576: true; the input reads as it did. -/
def wordBytesUptoRow : OpenClaim := { program := "ytdcldijeoamjpaa", sum := "364a2b942fb0ff7d440440014b68c93ba8a9f613daabde63735cdb9f393114c1", func := "turnstile/turnstilelaw1.WordBytes", spec := "wordBytes", apart := false, narrowed := true }
def WordBytesUptoSaid : Prop := wordBytesUptoRow.holds Try.pinned (OpenSpec.upto wordBytesSpec)

/-- 'turnstilelaw1.WordBack', WHERE WHAT IT READS IS OF BULK AT MOST 1048576: true; the input reads as it did. -/
def wordBackUptoRow : OpenClaim := { program := "ytdcldijeoamjpaa", sum := "364a2b942fb0ff7d440440014b68c93ba8a9f613daabde63735cdb9f393114c1", func := "turnstile/turnstilelaw1.WordBack", spec := "wordBack", apart := false, narrowed := true }
def WordBackUptoSaid : Prop := wordBackUptoRow.holds Try.pinned (OpenSpec.upto wordBackSpec)

end Rows
end Go.Proofs.Ytdcldijeoamjpaa
