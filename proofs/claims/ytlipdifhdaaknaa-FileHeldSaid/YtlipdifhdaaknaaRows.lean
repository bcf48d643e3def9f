/-
  No cell of these rows narrows 'for every input' (looked for: loops, veiled, ifaces, maps, wideKeys, modest, calm, conditions, laid).
  DERIVED. THE GIVEN ROWS OF THIS SEAT. 5 by the template 'for every input the law returns true; each argument reads behind the call as it read before'; 0 by the template 'total and deterministic' (their statements: YtlipdifhdaaknaaTotals.lean).
  GIVEN WITH THE SEED: the statements are not yours to turn. If you find one false, say at which input.
  Laid BY PROGRAM, IN A SANDBOX (cutbox-rows.mjs): the forced cells as the released guide's own fill.sh prints them over the translation 765f151e66570c7d… (all of the seat's roots in one cut). By AI agents, Wed Nov 11 2026. No macro, syntax, notation, axiom, sorry.
-/
import Derived.Test.YtlipdifhdaaknaaChecked
import GoSem.Claim
import GoSem.ClaimJoined
import GoSem.ClaimMapViews
import Derived.JoinedTies
import Derived.KernelRfl
namespace Go.Proofs.Ytlipdifhdaaknaa
/- THE CELL 'sum', in the pinned program and in every row, IS THE sha256 OF THE DUMP (.gsa) THAT YtlipdifhdaaknaaProg.lean LOADS. Nothing in Lean hashes anything: it is a label: what it is worth is what the hold of that sum in a sandbox is worth. -/
noncomputable def Try.pinned : Pinned := { name := "ytlipdifhdaaknaa", sum := "765f151e66570c7d33fa8d27aaf5aef63171306804cfe1d0c18a158262ea044d", checked := Try.checked }
namespace Rows
def none {H : Type} : Left H := { results := [], args := [] }

/-- 'turnstilelaw3.FileReads': WHATEVER THE INPUT: true; the input reads as it did. -/
def fileReadsSpec : ChangeSpec := { name := "fileReads", fn := fun _ => fun
  | [d] => { results := [.lit (.bool true)], args := [d] }
  | _ => none }
def fileReadsRow : OpenClaim := { program := "ytlipdifhdaaknaa", sum := "765f151e66570c7d33fa8d27aaf5aef63171306804cfe1d0c18a158262ea044d", func := "turnstile/turnstilelaw3.FileReads", spec := "fileReads", unfollowed := true, recurses := true, apart := false }
def FileReadsSaid : Prop := fileReadsRow.holds Try.pinned (OpenSpec.ofChange fileReadsSpec)

/-- ITS FALSE NEIGHBOUR: 'it returns false'. Refute it at one input. -/
def fileReadsWrong : ChangeSpec := { name := "fileReads", fn := fun _ => fun
  | [d] => { results := [.lit (.bool false)], args := [d] }
  | _ => none }
def FileReadsWrongFalsely : Prop := fileReadsRow.holds Try.pinned (OpenSpec.ofChange fileReadsWrong)

/-- 'turnstilelaw3.FileHeld': WHATEVER THE INPUT: true; the input reads as it did. -/
def fileHeldSpec : ChangeSpec := { name := "fileHeld", fn := fun _ => fun
  | [d1, d2] => { results := [.lit (.bool true)], args := [d1, d2] }
  | _ => none }
def fileHeldRow : OpenClaim := { program := "ytlipdifhdaaknaa", sum := "765f151e66570c7d33fa8d27aaf5aef63171306804cfe1d0c18a158262ea044d", func := "turnstile/turnstilelaw3.FileHeld", spec := "fileHeld", unfollowed := true, recurses := true, apart := false }
def FileHeldSaid : Prop := fileHeldRow.holds Try.pinned (OpenSpec.ofChange fileHeldSpec)

/-- ITS FALSE NEIGHBOUR: 'it returns false'. Refute it at one input. -/
def fileHeldWrong : ChangeSpec := { name := "fileHeld", fn := fun _ => fun
  | [d1, d2] => { results := [.lit (.bool false)], args := [d1, d2] }
  | _ => none }
def FileHeldWrongFalsely : Prop := fileHeldRow.holds Try.pinned (OpenSpec.ofChange fileHeldWrong)

/-- 'turnstilelaw3.FileCut': WHATEVER THE INPUT: true; the input reads as it did. -/
def fileCutSpec : ChangeSpec := { name := "fileCut", fn := fun _ => fun
  | [d1, d2, d3] => { results := [.lit (.bool true)], args := [d1, d2, d3] }
  | _ => none }
def fileCutRow : OpenClaim := { program := "ytlipdifhdaaknaa", sum := "765f151e66570c7d33fa8d27aaf5aef63171306804cfe1d0c18a158262ea044d", func := "turnstile/turnstilelaw3.FileCut", spec := "fileCut", unfollowed := true, recurses := true, apart := false }
def FileCutSaid : Prop := fileCutRow.holds Try.pinned (OpenSpec.ofChange fileCutSpec)

/-- ITS FALSE NEIGHBOUR: 'it returns false'. Refute it at one input. -/
def fileCutWrong : ChangeSpec := { name := "fileCut", fn := fun _ => fun
  | [d1, d2, d3] => { results := [.lit (.bool false)], args := [d1, d2, d3] }
  | _ => none }
def FileCutWrongFalsely : Prop := fileCutRow.holds Try.pinned (OpenSpec.ofChange fileCutWrong)

/-- 'turnstilelaw3.FileLong': WHATEVER THE INPUT: true; the input reads as it did. -/
def fileLongSpec : ChangeSpec := { name := "fileLong", fn := fun _ => fun
  | [d] => { results := [.lit (.bool true)], args := [d] }
  | _ => none }
def fileLongRow : OpenClaim := { program := "ytlipdifhdaaknaa", sum := "765f151e66570c7d33fa8d27aaf5aef63171306804cfe1d0c18a158262ea044d", func := "turnstile/turnstilelaw3.FileLong", spec := "fileLong", unfollowed := true, recurses := true, apart := false }
def FileLongSaid : Prop := fileLongRow.holds Try.pinned (OpenSpec.ofChange fileLongSpec)

/-- ITS FALSE NEIGHBOUR: 'it returns false'. Refute it at one input. -/
def fileLongWrong : ChangeSpec := { name := "fileLong", fn := fun _ => fun
  | [d] => { results := [.lit (.bool false)], args := [d] }
  | _ => none }
def FileLongWrongFalsely : Prop := fileLongRow.holds Try.pinned (OpenSpec.ofChange fileLongWrong)

/-- 'turnstilelaw3.FileHead': WHATEVER THE INPUT: true; the input reads as it did. -/
def fileHeadSpec : ChangeSpec := { name := "fileHead", fn := fun _ => fun
  | [d1, d2, d3, d4] => { results := [.lit (.bool true)], args := [d1, d2, d3, d4] }
  | _ => none }
def fileHeadRow : OpenClaim := { program := "ytlipdifhdaaknaa", sum := "765f151e66570c7d33fa8d27aaf5aef63171306804cfe1d0c18a158262ea044d", func := "turnstile/turnstilelaw3.FileHead", spec := "fileHead", unfollowed := true, recurses := true, apart := false }
def FileHeadSaid : Prop := fileHeadRow.holds Try.pinned (OpenSpec.ofChange fileHeadSpec)

/-- ITS FALSE NEIGHBOUR: 'it returns false'. Refute it at one input. -/
def fileHeadWrong : ChangeSpec := { name := "fileHead", fn := fun _ => fun
  | [d1, d2, d3, d4] => { results := [.lit (.bool false)], args := [d1, d2, d3, d4] }
  | _ => none }
def FileHeadWrongFalsely : Prop := fileHeadRow.holds Try.pinned (OpenSpec.ofChange fileHeadWrong)

/- THE SECOND FORM. 'bulk': how many values and letters a reading holds, each counted each time it is reached (what is shared counts as often as it is met; a slice's spare places count too). A statement '..UptoSaid' is the law's where the arguments, and the package variables that the reading takes, are together of bulk at most 1048576: NARROWER than '..Said'. Prove '..Said' where nothing that the law and all that it calls make is longer than what came in: it says more and counts as full. Else prove '..UptoSaid'. A law counts once. -/
mutual
def uptoBulk {H : Type} : DataW H → Nat
  | .lit (.string bytes) => bytes.length + 1
  | .lit _ => 1
  | .nil => 1
  | .ptr d => uptoBulk d + 1
  | .slice elems spare => uptoBulkAll elems + uptoBulkAll spare + 1
  | .agg parts => uptoBulkAll parts + 1
  | .iface _ d => uptoBulk d + 1
  | .map entries => uptoBulkEntries entries + 1
  | .held _ => 1
def uptoBulkAll {H : Type} : List (DataW H) → Nat
  | [] => 0
  | d :: r => uptoBulk d + uptoBulkAll r
def uptoBulkEntries {H : Type} : List (Lit × DataW H) → Nat
  | [] => 0
  | x :: r => uptoBulkEntry x + uptoBulkEntries r
def uptoBulkEntry {H : Type} : Lit × DataW H → Nat
  | (.string bytes, d) => bytes.length + uptoBulk d + 1
  | (_, d) => uptoBulk d + 1
 end
def uptoSmall : (H : Type) → List (DataW H) → Bool := fun _ ds => decide (uptoBulkAll ds ≤ 1048576)
def OpenSpec.upto (s : _root_.Go.ChangeSpec) : _root_.Go.OpenSpec := { _root_.Go.OpenSpec.ofChange s with cond := some uptoSmall }

/-- 'turnstilelaw3.FileReads', WHERE WHAT IT READS IS OF BULK AT MOST 1048576: true; the input reads as it did. -/
def fileReadsUptoRow : OpenClaim := { program := "ytlipdifhdaaknaa", sum := "765f151e66570c7d33fa8d27aaf5aef63171306804cfe1d0c18a158262ea044d", func := "turnstile/turnstilelaw3.FileReads", spec := "fileReads", unfollowed := true, recurses := true, apart := false, narrowed := true }
def FileReadsUptoSaid : Prop := fileReadsUptoRow.holds Try.pinned (OpenSpec.upto fileReadsSpec)

/-- 'turnstilelaw3.FileHeld', WHERE WHAT IT READS IS OF BULK AT MOST 1048576: true; the input reads as it did. -/
def fileHeldUptoRow : OpenClaim := { program := "ytlipdifhdaaknaa", sum := "765f151e66570c7d33fa8d27aaf5aef63171306804cfe1d0c18a158262ea044d", func := "turnstile/turnstilelaw3.FileHeld", spec := "fileHeld", unfollowed := true, recurses := true, apart := false, narrowed := true }
def FileHeldUptoSaid : Prop := fileHeldUptoRow.holds Try.pinned (OpenSpec.upto fileHeldSpec)

/-- 'turnstilelaw3.FileCut', WHERE WHAT IT READS IS OF BULK AT MOST 1048576: true; the input reads as it did. -/
def fileCutUptoRow : OpenClaim := { program := "ytlipdifhdaaknaa", sum := "765f151e66570c7d33fa8d27aaf5aef63171306804cfe1d0c18a158262ea044d", func := "turnstile/turnstilelaw3.FileCut", spec := "fileCut", unfollowed := true, recurses := true, apart := false, narrowed := true }
def FileCutUptoSaid : Prop := fileCutUptoRow.holds Try.pinned (OpenSpec.upto fileCutSpec)

/-- 'turnstilelaw3.FileLong', WHERE WHAT IT READS IS OF BULK AT MOST 1048576: true; the input reads as it did. -/
def fileLongUptoRow : OpenClaim := { program := "ytlipdifhdaaknaa", sum := "765f151e66570c7d33fa8d27aaf5aef63171306804cfe1d0c18a158262ea044d", func := "turnstile/turnstilelaw3.FileLong", spec := "fileLong", unfollowed := true, recurses := true, apart := false, narrowed := true }
def FileLongUptoSaid : Prop := fileLongUptoRow.holds Try.pinned (OpenSpec.upto fileLongSpec)

/-- 'turnstilelaw3.FileHead', WHERE WHAT IT READS IS OF BULK AT MOST 1048576: true; the input reads as it did. -/
def fileHeadUptoRow : OpenClaim := { program := "ytlipdifhdaaknaa", sum := "765f151e66570c7d33fa8d27aaf5aef63171306804cfe1d0c18a158262ea044d", func := "turnstile/turnstilelaw3.FileHead", spec := "fileHead", unfollowed := true, recurses := true, apart := false, narrowed := true }
def FileHeadUptoSaid : Prop := fileHeadUptoRow.holds Try.pinned (OpenSpec.upto fileHeadSpec)

end Rows
end Go.Proofs.Ytlipdifhdaaknaa
