/-
  No cell of these rows narrows 'for every input' (looked for: loops, veiled, ifaces, maps, wideKeys, modest, calm, conditions, laid).
  DERIVED. THE GIVEN ROWS OF THIS SEAT. 10 by the template 'for every input the law returns true; each argument reads behind the call as it read before'; 0 by the template 'total and deterministic' (their statements: YtcklmhbcjgiplaaTotals.lean).
  GIVEN WITH THE SEED: the statements are not yours to turn. If you find one false, say at which input.
  Laid BY PROGRAM, IN A SANDBOX (cutbox-rows.mjs): the forced cells as the released guide's own fill.sh prints them over the translation 6d56a9d155ad58ed… (all of the seat's roots in one cut). By AI agents, Wed Nov 11 2026. No macro, syntax, notation, axiom, sorry.
-/
import Derived.Test.YtcklmhbcjgiplaaChecked
import GoSem.Claim
import GoSem.ClaimJoined
import GoSem.ClaimMapViews
import Derived.JoinedTies
import Derived.KernelRfl
namespace Go.Proofs.Ytcklmhbcjgiplaa
/- THE CELL 'sum', in the pinned program and in every row, IS THE sha256 OF THE DUMP (.gsa) THAT YtcklmhbcjgiplaaProg.lean LOADS. Nothing in Lean hashes anything: it is a label: what it is worth is what the hold of that sum in a sandbox is worth. -/
noncomputable def Try.pinned : Pinned := { name := "ytcklmhbcjgiplaa", sum := "6d56a9d155ad58edafef2b4fd22ea09117ddbb6512eb384d61ad60734d574a88", checked := Try.checked }
namespace Rows
def none {H : Type} : Left H := { results := [], args := [] }

/-- 'turnstilelaw5.CheckSays': WHATEVER THE INPUT: true; the input reads as it did. -/
def checkSaysSpec : ChangeSpec := { name := "checkSays", fn := fun _ => fun
  | [d1, d2] => { results := [.lit (.bool true)], args := [d1, d2] }
  | _ => none }
def checkSaysRow : OpenClaim := { program := "ytcklmhbcjgiplaa", sum := "6d56a9d155ad58edafef2b4fd22ea09117ddbb6512eb384d61ad60734d574a88", func := "turnstile/turnstilelaw5.CheckSays", spec := "checkSays", inPlace := ["internal/bytealg.IndexByteString", "internal/bytealg.IndexString"], unfollowed := true, recurses := true, named := ["internal/bytealg.MaxLen"], plainKeys := false, apart := false }
def CheckSaysSaid : Prop := checkSaysRow.holds Try.pinned (OpenSpec.ofChange checkSaysSpec)

/-- ITS FALSE NEIGHBOUR: 'it returns false'. Refute it at one input. -/
def checkSaysWrong : ChangeSpec := { name := "checkSays", fn := fun _ => fun
  | [d1, d2] => { results := [.lit (.bool false)], args := [d1, d2] }
  | _ => none }
def CheckSaysWrongFalsely : Prop := checkSaysRow.holds Try.pinned (OpenSpec.ofChange checkSaysWrong)

/-- 'turnstilelaw5.CheckFlags': WHATEVER THE INPUT: true; the input reads as it did. -/
def checkFlagsSpec : ChangeSpec := { name := "checkFlags", fn := fun _ => fun
  | [d1, d2] => { results := [.lit (.bool true)], args := [d1, d2] }
  | _ => none }
def checkFlagsRow : OpenClaim := { program := "ytcklmhbcjgiplaa", sum := "6d56a9d155ad58edafef2b4fd22ea09117ddbb6512eb384d61ad60734d574a88", func := "turnstile/turnstilelaw5.CheckFlags", spec := "checkFlags", inPlace := ["internal/bytealg.IndexByteString", "internal/bytealg.IndexString"], unfollowed := true, recurses := true, named := ["internal/bytealg.MaxLen"], plainKeys := false, apart := false }
def CheckFlagsSaid : Prop := checkFlagsRow.holds Try.pinned (OpenSpec.ofChange checkFlagsSpec)

/-- ITS FALSE NEIGHBOUR: 'it returns false'. Refute it at one input. -/
def checkFlagsWrong : ChangeSpec := { name := "checkFlags", fn := fun _ => fun
  | [d1, d2] => { results := [.lit (.bool false)], args := [d1, d2] }
  | _ => none }
def CheckFlagsWrongFalsely : Prop := checkFlagsRow.holds Try.pinned (OpenSpec.ofChange checkFlagsWrong)

/-- 'turnstilelaw5.CheckMethod': WHATEVER THE INPUT: true; the input reads as it did. -/
def checkMethodSpec : ChangeSpec := { name := "checkMethod", fn := fun _ => fun
  | [d1, d2, d3, d4, d5, d6] => { results := [.lit (.bool true)], args := [d1, d2, d3, d4, d5, d6] }
  | _ => none }
def checkMethodRow : OpenClaim := { program := "ytcklmhbcjgiplaa", sum := "6d56a9d155ad58edafef2b4fd22ea09117ddbb6512eb384d61ad60734d574a88", func := "turnstile/turnstilelaw5.CheckMethod", spec := "checkMethod", inPlace := ["internal/bytealg.IndexByteString", "internal/bytealg.IndexString"], unfollowed := true, recurses := true, named := ["internal/bytealg.MaxLen"], plainKeys := false, apart := false }
def CheckMethodSaid : Prop := checkMethodRow.holds Try.pinned (OpenSpec.ofChange checkMethodSpec)

/-- ITS FALSE NEIGHBOUR: 'it returns false'. Refute it at one input. -/
def checkMethodWrong : ChangeSpec := { name := "checkMethod", fn := fun _ => fun
  | [d1, d2, d3, d4, d5, d6] => { results := [.lit (.bool false)], args := [d1, d2, d3, d4, d5, d6] }
  | _ => none }
def CheckMethodWrongFalsely : Prop := checkMethodRow.holds Try.pinned (OpenSpec.ofChange checkMethodWrong)

/-- 'turnstilelaw5.CheckTwice': WHATEVER THE INPUT: true; the input reads as it did. -/
def checkTwiceSpec : ChangeSpec := { name := "checkTwice", fn := fun _ => fun
  | [d1, d2] => { results := [.lit (.bool true)], args := [d1, d2] }
  | _ => none }
def checkTwiceRow : OpenClaim := { program := "ytcklmhbcjgiplaa", sum := "6d56a9d155ad58edafef2b4fd22ea09117ddbb6512eb384d61ad60734d574a88", func := "turnstile/turnstilelaw5.CheckTwice", spec := "checkTwice", inPlace := ["internal/bytealg.IndexByteString", "internal/bytealg.IndexString"], unfollowed := true, recurses := true, named := ["internal/bytealg.MaxLen"], plainKeys := false, apart := false }
def CheckTwiceSaid : Prop := checkTwiceRow.holds Try.pinned (OpenSpec.ofChange checkTwiceSpec)

/-- ITS FALSE NEIGHBOUR: 'it returns false'. Refute it at one input. -/
def checkTwiceWrong : ChangeSpec := { name := "checkTwice", fn := fun _ => fun
  | [d1, d2] => { results := [.lit (.bool false)], args := [d1, d2] }
  | _ => none }
def CheckTwiceWrongFalsely : Prop := checkTwiceRow.holds Try.pinned (OpenSpec.ofChange checkTwiceWrong)

/-- 'turnstilelaw5.CheckNamed': WHATEVER THE INPUT: true; the input reads as it did. -/
def checkNamedSpec : ChangeSpec := { name := "checkNamed", fn := fun _ => fun
  | [d1, d2, d3] => { results := [.lit (.bool true)], args := [d1, d2, d3] }
  | _ => none }
def checkNamedRow : OpenClaim := { program := "ytcklmhbcjgiplaa", sum := "6d56a9d155ad58edafef2b4fd22ea09117ddbb6512eb384d61ad60734d574a88", func := "turnstile/turnstilelaw5.CheckNamed", spec := "checkNamed", inPlace := ["internal/bytealg.IndexByteString", "internal/bytealg.IndexString"], unfollowed := true, recurses := true, named := ["internal/bytealg.MaxLen"], plainKeys := false, apart := false }
def CheckNamedSaid : Prop := checkNamedRow.holds Try.pinned (OpenSpec.ofChange checkNamedSpec)

/-- ITS FALSE NEIGHBOUR: 'it returns false'. Refute it at one input. -/
def checkNamedWrong : ChangeSpec := { name := "checkNamed", fn := fun _ => fun
  | [d1, d2, d3] => { results := [.lit (.bool false)], args := [d1, d2, d3] }
  | _ => none }
def CheckNamedWrongFalsely : Prop := checkNamedRow.holds Try.pinned (OpenSpec.ofChange checkNamedWrong)

/-- 'turnstilelaw5.CheckTraps': WHATEVER THE INPUT: true; the input reads as it did. -/
def checkTrapsSpec : ChangeSpec := { name := "checkTraps", fn := fun _ => fun
  | [d1, d2, d3, d4] => { results := [.lit (.bool true)], args := [d1, d2, d3, d4] }
  | _ => none }
def checkTrapsRow : OpenClaim := { program := "ytcklmhbcjgiplaa", sum := "6d56a9d155ad58edafef2b4fd22ea09117ddbb6512eb384d61ad60734d574a88", func := "turnstile/turnstilelaw5.CheckTraps", spec := "checkTraps", inPlace := ["internal/bytealg.IndexByteString", "internal/bytealg.IndexString"], unfollowed := true, recurses := true, named := ["internal/bytealg.MaxLen"], plainKeys := false, apart := false }
def CheckTrapsSaid : Prop := checkTrapsRow.holds Try.pinned (OpenSpec.ofChange checkTrapsSpec)

/-- ITS FALSE NEIGHBOUR: 'it returns false'. Refute it at one input. -/
def checkTrapsWrong : ChangeSpec := { name := "checkTraps", fn := fun _ => fun
  | [d1, d2, d3, d4] => { results := [.lit (.bool false)], args := [d1, d2, d3, d4] }
  | _ => none }
def CheckTrapsWrongFalsely : Prop := checkTrapsRow.holds Try.pinned (OpenSpec.ofChange checkTrapsWrong)

/-- 'turnstilelaw5.CheckValues': WHATEVER THE INPUT: true; the input reads as it did. -/
def checkValuesSpec : ChangeSpec := { name := "checkValues", fn := fun _ => fun
  | [d1, d2, d3] => { results := [.lit (.bool true)], args := [d1, d2, d3] }
  | _ => none }
def checkValuesRow : OpenClaim := { program := "ytcklmhbcjgiplaa", sum := "6d56a9d155ad58edafef2b4fd22ea09117ddbb6512eb384d61ad60734d574a88", func := "turnstile/turnstilelaw5.CheckValues", spec := "checkValues", inPlace := ["internal/bytealg.IndexByteString", "internal/bytealg.IndexString"], unfollowed := true, recurses := true, named := ["internal/bytealg.MaxLen"], plainKeys := false, apart := false }
def CheckValuesSaid : Prop := checkValuesRow.holds Try.pinned (OpenSpec.ofChange checkValuesSpec)

/-- ITS FALSE NEIGHBOUR: 'it returns false'. Refute it at one input. -/
def checkValuesWrong : ChangeSpec := { name := "checkValues", fn := fun _ => fun
  | [d1, d2, d3] => { results := [.lit (.bool false)], args := [d1, d2, d3] }
  | _ => none }
def CheckValuesWrongFalsely : Prop := checkValuesRow.holds Try.pinned (OpenSpec.ofChange checkValuesWrong)

/-- 'turnstilelaw5.CheckVersions': WHATEVER THE INPUT: true; the input reads as it did. -/
def checkVersionsSpec : ChangeSpec := { name := "checkVersions", fn := fun _ => fun
  | [d1, d2] => { results := [.lit (.bool true)], args := [d1, d2] }
  | _ => none }
def checkVersionsRow : OpenClaim := { program := "ytcklmhbcjgiplaa", sum := "6d56a9d155ad58edafef2b4fd22ea09117ddbb6512eb384d61ad60734d574a88", func := "turnstile/turnstilelaw5.CheckVersions", spec := "checkVersions", inPlace := ["internal/bytealg.IndexByteString", "internal/bytealg.IndexString"], unfollowed := true, recurses := true, named := ["internal/bytealg.MaxLen"], plainKeys := false, apart := false }
def CheckVersionsSaid : Prop := checkVersionsRow.holds Try.pinned (OpenSpec.ofChange checkVersionsSpec)

/-- ITS FALSE NEIGHBOUR: 'it returns false'. Refute it at one input. -/
def checkVersionsWrong : ChangeSpec := { name := "checkVersions", fn := fun _ => fun
  | [d1, d2] => { results := [.lit (.bool false)], args := [d1, d2] }
  | _ => none }
def CheckVersionsWrongFalsely : Prop := checkVersionsRow.holds Try.pinned (OpenSpec.ofChange checkVersionsWrong)

/-- 'turnstilelaw5.CheckMany': WHATEVER THE INPUT: true; the input reads as it did. -/
def checkManySpec : ChangeSpec := { name := "checkMany", fn := fun _ => fun
  | [d1, d2] => { results := [.lit (.bool true)], args := [d1, d2] }
  | _ => none }
def checkManyRow : OpenClaim := { program := "ytcklmhbcjgiplaa", sum := "6d56a9d155ad58edafef2b4fd22ea09117ddbb6512eb384d61ad60734d574a88", func := "turnstile/turnstilelaw5.CheckMany", spec := "checkMany", inPlace := ["internal/bytealg.IndexByteString", "internal/bytealg.IndexString"], unfollowed := true, recurses := true, named := ["internal/bytealg.MaxLen"], plainKeys := false, apart := false }
def CheckManySaid : Prop := checkManyRow.holds Try.pinned (OpenSpec.ofChange checkManySpec)

/-- ITS FALSE NEIGHBOUR: 'it returns false'. Refute it at one input. -/
def checkManyWrong : ChangeSpec := { name := "checkMany", fn := fun _ => fun
  | [d1, d2] => { results := [.lit (.bool false)], args := [d1, d2] }
  | _ => none }
def CheckManyWrongFalsely : Prop := checkManyRow.holds Try.pinned (OpenSpec.ofChange checkManyWrong)

/-- 'turnstilelaw5.CheckRefs': WHATEVER THE INPUT: true; the input reads as it did. -/
def checkRefsSpec : ChangeSpec := { name := "checkRefs", fn := fun _ => fun
  | [d1, d2] => { results := [.lit (.bool true)], args := [d1, d2] }
  | _ => none }
def checkRefsRow : OpenClaim := { program := "ytcklmhbcjgiplaa", sum := "6d56a9d155ad58edafef2b4fd22ea09117ddbb6512eb384d61ad60734d574a88", func := "turnstile/turnstilelaw5.CheckRefs", spec := "checkRefs", inPlace := ["internal/bytealg.IndexByteString", "internal/bytealg.IndexString"], unfollowed := true, recurses := true, named := ["internal/bytealg.MaxLen"], plainKeys := false, apart := false }
def CheckRefsSaid : Prop := checkRefsRow.holds Try.pinned (OpenSpec.ofChange checkRefsSpec)

/-- ITS FALSE NEIGHBOUR: 'it returns false'. Refute it at one input. -/
def checkRefsWrong : ChangeSpec := { name := "checkRefs", fn := fun _ => fun
  | [d1, d2] => { results := [.lit (.bool false)], args := [d1, d2] }
  | _ => none }
def CheckRefsWrongFalsely : Prop := checkRefsRow.holds Try.pinned (OpenSpec.ofChange checkRefsWrong)

/- THE SECOND FORM. 'bulk': how many values and letters a reading holds, each counted each time it is reached (what is shared counts as often as it is met; a slice's spare places count too). A statement '..UptoSaid' is the law's where the arguments, and the package variables that the reading takes, are together of bulk at most 1048576: NARROWER than '..Said'. Prove '..Said' where nothing that the law and all that it calls make is longer than what came in: it says more and counts as full. Else prove '..UptoSaid'. A law counts once. -/
mutual
def uptoBulk {H : Type} : DataW H → Nat
  | .lit (.string bytes) => bytes.length + 1
  | .lit _ => 1
  | .nil => 1
  | .ptr d => uptoBulk d + 1
  | .slice elems spare => uptoBulkAll elems + uptoBulkAll spare + 1
  | .agg parts => uptoBulkAll parts + 1
  | .iface _ d => uptoBulk d + 1
  | .map entries => uptoBulkEntries entries + 1
  | .held _ => 1
def uptoBulkAll {H : Type} : List (DataW H) → Nat
  | [] => 0
  | d :: r => uptoBulk d + uptoBulkAll r
def uptoBulkEntries {H : Type} : List (Lit × DataW H) → Nat
  | [] => 0
  | x :: r => uptoBulkEntry x + uptoBulkEntries r
def uptoBulkEntry {H : Type} : Lit × DataW H → Nat
  | (.string bytes, d) => bytes.length + uptoBulk d + 1
  | (_, d) => uptoBulk d + 1
 end
def uptoSmall : (H : Type) → List (DataW H) → Bool := fun _ ds => decide (uptoBulkAll ds ≤ 1048576)
def OpenSpec.upto (s : _root_.Go.ChangeSpec) : _root_.Go.OpenSpec := { _root_.Go.OpenSpec.ofChange s with cond := some uptoSmall }

/-- 'turnstilelaw5.CheckSays', WHERE WHAT IT READS IS OF BULK AT MOST 1048576: true; the input reads as it did. -/
def checkSaysUptoRow : OpenClaim := { program := "ytcklmhbcjgiplaa", sum := "6d56a9d155ad58edafef2b4fd22ea09117ddbb6512eb384d61ad60734d574a88", func := "turnstile/turnstilelaw5.CheckSays", spec := "checkSays", inPlace := ["internal/bytealg.IndexByteString", "internal/bytealg.IndexString"], unfollowed := true, recurses := true, named := ["internal/bytealg.MaxLen"], plainKeys := false, apart := false, narrowed := true }
def CheckSaysUptoSaid : Prop := checkSaysUptoRow.holds Try.pinned (OpenSpec.upto checkSaysSpec)

/-- 'turnstilelaw5.CheckFlags', WHERE WHAT IT READS IS OF BULK AT MOST 1048576: true; the input reads as it did. -/
def checkFlagsUptoRow : OpenClaim := { program := "ytcklmhbcjgiplaa", sum := "6d56a9d155ad58edafef2b4fd22ea09117ddbb6512eb384d61ad60734d574a88", func := "turnstile/turnstilelaw5.CheckFlags", spec := "checkFlags", inPlace := ["internal/bytealg.IndexByteString", "internal/bytealg.IndexString"], unfollowed := true, recurses := true, named := ["internal/bytealg.MaxLen"], plainKeys := false, apart := false, narrowed := true }
def CheckFlagsUptoSaid : Prop := checkFlagsUptoRow.holds Try.pinned (OpenSpec.upto checkFlagsSpec)

/-- 'turnstilelaw5.CheckMethod', WHERE WHAT IT READS IS OF BULK AT MOST 1048576: true; the input reads as it did. -/
def checkMethodUptoRow : OpenClaim := { program := "ytcklmhbcjgiplaa", sum := "6d56a9d155ad58edafef2b4fd22ea09117ddbb6512eb384d61ad60734d574a88", func := "turnstile/turnstilelaw5.CheckMethod", spec := "checkMethod", inPlace := ["internal/bytealg.IndexByteString", "internal/bytealg.IndexString"], unfollowed := true, recurses := true, named := ["internal/bytealg.MaxLen"], plainKeys := false, apart := false, narrowed := true }
def CheckMethodUptoSaid : Prop := checkMethodUptoRow.holds Try.pinned (OpenSpec.upto checkMethodSpec)

/-- 'turnstilelaw5.CheckTwice', WHERE WHAT IT READS IS OF BULK AT MOST 1048576: true; the input reads as it did. -/
def checkTwiceUptoRow : OpenClaim := { program := "ytcklmhbcjgiplaa", sum := "6d56a9d155ad58edafef2b4fd22ea09117ddbb6512eb384d61ad60734d574a88", func := "turnstile/turnstilelaw5.CheckTwice", spec := "checkTwice", inPlace := ["internal/bytealg.IndexByteString", "internal/bytealg.IndexString"], unfollowed := true, recurses := true, named := ["internal/bytealg.MaxLen"], plainKeys := false, apart := false, narrowed := true }
def CheckTwiceUptoSaid : Prop := checkTwiceUptoRow.holds Try.pinned (OpenSpec.upto checkTwiceSpec)

/-- 'turnstilelaw5.CheckNamed', WHERE WHAT IT READS IS OF BULK AT MOST 1048576: true; the input reads as it did. -/
def checkNamedUptoRow : OpenClaim := { program := "ytcklmhbcjgiplaa", sum := "6d56a9d155ad58edafef2b4fd22ea09117ddbb6512eb384d61ad60734d574a88", func := "turnstile/turnstilelaw5.CheckNamed", spec := "checkNamed", inPlace := ["internal/bytealg.IndexByteString", "internal/bytealg.IndexString"], unfollowed := true, recurses := true, named := ["internal/bytealg.MaxLen"], plainKeys := false, apart := false, narrowed := true }
def CheckNamedUptoSaid : Prop := checkNamedUptoRow.holds Try.pinned (OpenSpec.upto checkNamedSpec)

/-- 'turnstilelaw5.CheckTraps', WHERE WHAT IT READS IS OF BULK AT MOST 1048576: true; the input reads as it did. -/
def checkTrapsUptoRow : OpenClaim := { program := "ytcklmhbcjgiplaa", sum := "6d56a9d155ad58edafef2b4fd22ea09117ddbb6512eb384d61ad60734d574a88", func := "turnstile/turnstilelaw5.CheckTraps", spec := "checkTraps", inPlace := ["internal/bytealg.IndexByteString", "internal/bytealg.IndexString"], unfollowed := true, recurses := true, named := ["internal/bytealg.MaxLen"], plainKeys := false, apart := false, narrowed := true }
def CheckTrapsUptoSaid : Prop := checkTrapsUptoRow.holds Try.pinned (OpenSpec.upto checkTrapsSpec)

/-- 'turnstilelaw5.CheckValues', WHERE WHAT IT READS IS OF BULK AT MOST 1048576: true; the input reads as it did. -/
def checkValuesUptoRow : OpenClaim := { program := "ytcklmhbcjgiplaa", sum := "6d56a9d155ad58edafef2b4fd22ea09117ddbb6512eb384d61ad60734d574a88", func := "turnstile/turnstilelaw5.CheckValues", spec := "checkValues", inPlace := ["internal/bytealg.IndexByteString", "internal/bytealg.IndexString"], unfollowed := true, recurses := true, named := ["internal/bytealg.MaxLen"], plainKeys := false, apart := false, narrowed := true }
def CheckValuesUptoSaid : Prop := checkValuesUptoRow.holds Try.pinned (OpenSpec.upto checkValuesSpec)

/-- 'turnstilelaw5.CheckVersions', WHERE WHAT IT READS IS OF BULK AT MOST 1048576: true; the input reads as it did. -/
def checkVersionsUptoRow : OpenClaim := { program := "ytcklmhbcjgiplaa", sum := "6d56a9d155ad58edafef2b4fd22ea09117ddbb6512eb384d61ad60734d574a88", func := "turnstile/turnstilelaw5.CheckVersions", spec := "checkVersions", inPlace := ["internal/bytealg.IndexByteString", "internal/bytealg.IndexString"], unfollowed := true, recurses := true, named := ["internal/bytealg.MaxLen"], plainKeys := false, apart := false, narrowed := true }
def CheckVersionsUptoSaid : Prop := checkVersionsUptoRow.holds Try.pinned (OpenSpec.upto checkVersionsSpec)

/-- 'turnstilelaw5.CheckMany', WHERE WHAT IT READS IS OF BULK AT MOST 1048576: true; the input reads as it did. -/
def checkManyUptoRow : OpenClaim := { program := "ytcklmhbcjgiplaa", sum := "6d56a9d155ad58edafef2b4fd22ea09117ddbb6512eb384d61ad60734d574a88", func := "turnstile/turnstilelaw5.CheckMany", spec := "checkMany", inPlace := ["internal/bytealg.IndexByteString", "internal/bytealg.IndexString"], unfollowed := true, recurses := true, named := ["internal/bytealg.MaxLen"], plainKeys := false, apart := false, narrowed := true }
def CheckManyUptoSaid : Prop := checkManyUptoRow.holds Try.pinned (OpenSpec.upto checkManySpec)

/-- 'turnstilelaw5.CheckRefs', WHERE WHAT IT READS IS OF BULK AT MOST 1048576: true; the input reads as it did. -/
def checkRefsUptoRow : OpenClaim := { program := "ytcklmhbcjgiplaa", sum := "6d56a9d155ad58edafef2b4fd22ea09117ddbb6512eb384d61ad60734d574a88", func := "turnstile/turnstilelaw5.CheckRefs", spec := "checkRefs", inPlace := ["internal/bytealg.IndexByteString", "internal/bytealg.IndexString"], unfollowed := true, recurses := true, named := ["internal/bytealg.MaxLen"], plainKeys := false, apart := false, narrowed := true }
def CheckRefsUptoSaid : Prop := checkRefsUptoRow.holds Try.pinned (OpenSpec.upto checkRefsSpec)

end Rows
end Go.Proofs.Ytcklmhbcjgiplaa
