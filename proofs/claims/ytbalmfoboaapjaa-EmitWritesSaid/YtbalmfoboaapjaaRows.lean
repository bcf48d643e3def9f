/-
  No cell of these rows narrows 'for every input' (looked for: loops, veiled, ifaces, maps, wideKeys, modest, calm, conditions, laid).
  DERIVED. THE GIVEN ROWS OF THIS SEAT. 5 by the template 'for every input the law returns true; each argument reads behind the call as it read before'; 0 by the template 'total and deterministic' (their statements: YtbalmfoboaapjaaTotals.lean).
  GIVEN WITH THE SEED: the statements are not yours to turn. If you find one false, say at which input.
  Laid BY PROGRAM, IN A SANDBOX (cutbox-rows.mjs): the forced cells as the released guide's own fill.sh prints them over the translation dda0bdd2c53206a8… (all of the seat's roots in one cut). By AI agents, Wed Nov 11 2026. No macro, syntax, notation, axiom, sorry.
-/
import Derived.Test.YtbalmfoboaapjaaChecked
import GoSem.Claim
import GoSem.ClaimJoined
import GoSem.ClaimMapViews
import Derived.JoinedTies
import Derived.KernelRfl
namespace Go.Proofs.Ytbalmfoboaapjaa
/- THE CELL 'sum', in the pinned program and in every row, IS THE sha256 OF THE DUMP (.gsa) THAT YtbalmfoboaapjaaProg.lean LOADS. Nothing in Lean hashes anything: it is a label: what it is worth is what the hold of that sum in a sandbox is worth. -/
noncomputable def Try.pinned : Pinned := { name := "ytbalmfoboaapjaa", sum := "dda0bdd2c53206a82deb16b5d38661c4b459e03a6a6684678e84c3326d81d82a", checked := Try.checked }
namespace Rows
def none {H : Type} : Left H := { results := [], args := [] }

/-- 'turnstilelaw4.EmitWrites': WHATEVER THE INPUT: true; the input reads as it did. -/
def emitWritesSpec : ChangeSpec := { name := "emitWrites", fn := fun _ => fun
  | [d1, d2] => { results := [.lit (.bool true)], args := [d1, d2] }
  | _ => none }
def emitWritesRow : OpenClaim := { program := "ytbalmfoboaapjaa", sum := "dda0bdd2c53206a82deb16b5d38661c4b459e03a6a6684678e84c3326d81d82a", func := "turnstile/turnstilelaw4.EmitWrites", spec := "emitWrites", plainKeys := false, apart := false }
def EmitWritesSaid : Prop := emitWritesRow.holds Try.pinned (OpenSpec.ofChange emitWritesSpec)

/-- ITS FALSE NEIGHBOUR: 'it returns false'. Refute it at one input. -/
def emitWritesWrong : ChangeSpec := { name := "emitWrites", fn := fun _ => fun
  | [d1, d2] => { results := [.lit (.bool false)], args := [d1, d2] }
  | _ => none }
def EmitWritesWrongFalsely : Prop := emitWritesRow.holds Try.pinned (OpenSpec.ofChange emitWritesWrong)

/-- 'turnstilelaw4.EmitUnlike': WHATEVER THE INPUT: true; the input reads as it did. -/
def emitUnlikeSpec : ChangeSpec := { name := "emitUnlike", fn := fun _ => fun
  | [d1, d2] => { results := [.lit (.bool true)], args := [d1, d2] }
  | _ => none }
def emitUnlikeRow : OpenClaim := { program := "ytbalmfoboaapjaa", sum := "dda0bdd2c53206a82deb16b5d38661c4b459e03a6a6684678e84c3326d81d82a", func := "turnstile/turnstilelaw4.EmitUnlike", spec := "emitUnlike", plainKeys := false, apart := false }
def EmitUnlikeSaid : Prop := emitUnlikeRow.holds Try.pinned (OpenSpec.ofChange emitUnlikeSpec)

/-- ITS FALSE NEIGHBOUR: 'it returns false'. Refute it at one input. -/
def emitUnlikeWrong : ChangeSpec := { name := "emitUnlike", fn := fun _ => fun
  | [d1, d2] => { results := [.lit (.bool false)], args := [d1, d2] }
  | _ => none }
def EmitUnlikeWrongFalsely : Prop := emitUnlikeRow.holds Try.pinned (OpenSpec.ofChange emitUnlikeWrong)

/-- 'turnstilelaw4.EmitLong': WHATEVER THE INPUT: true; the input reads as it did. -/
def emitLongSpec : ChangeSpec := { name := "emitLong", fn := fun _ => fun
  | [d1, d2] => { results := [.lit (.bool true)], args := [d1, d2] }
  | _ => none }
def emitLongRow : OpenClaim := { program := "ytbalmfoboaapjaa", sum := "dda0bdd2c53206a82deb16b5d38661c4b459e03a6a6684678e84c3326d81d82a", func := "turnstile/turnstilelaw4.EmitLong", spec := "emitLong", plainKeys := false, apart := false }
def EmitLongSaid : Prop := emitLongRow.holds Try.pinned (OpenSpec.ofChange emitLongSpec)

/-- ITS FALSE NEIGHBOUR: 'it returns false'. Refute it at one input. -/
def emitLongWrong : ChangeSpec := { name := "emitLong", fn := fun _ => fun
  | [d1, d2] => { results := [.lit (.bool false)], args := [d1, d2] }
  | _ => none }
def EmitLongWrongFalsely : Prop := emitLongRow.holds Try.pinned (OpenSpec.ofChange emitLongWrong)

/-- 'turnstilelaw4.EmitBack': WHATEVER THE INPUT: true; the input reads as it did. -/
def emitBackSpec : ChangeSpec := { name := "emitBack", fn := fun _ => fun
  | [d] => { results := [.lit (.bool true)], args := [d] }
  | _ => none }
def emitBackRow : OpenClaim := { program := "ytbalmfoboaapjaa", sum := "dda0bdd2c53206a82deb16b5d38661c4b459e03a6a6684678e84c3326d81d82a", func := "turnstile/turnstilelaw4.EmitBack", spec := "emitBack", unfollowed := true, recurses := true, plainKeys := false, apart := false }
def EmitBackSaid : Prop := emitBackRow.holds Try.pinned (OpenSpec.ofChange emitBackSpec)

/-- ITS FALSE NEIGHBOUR: 'it returns false'. Refute it at one input. -/
def emitBackWrong : ChangeSpec := { name := "emitBack", fn := fun _ => fun
  | [d] => { results := [.lit (.bool false)], args := [d] }
  | _ => none }
def EmitBackWrongFalsely : Prop := emitBackRow.holds Try.pinned (OpenSpec.ofChange emitBackWrong)

/-- 'turnstilelaw4.EmitAgain': WHATEVER THE INPUT: true; the input reads as it did. -/
def emitAgainSpec : ChangeSpec := { name := "emitAgain", fn := fun _ => fun
  | [d] => { results := [.lit (.bool true)], args := [d] }
  | _ => none }
def emitAgainRow : OpenClaim := { program := "ytbalmfoboaapjaa", sum := "dda0bdd2c53206a82deb16b5d38661c4b459e03a6a6684678e84c3326d81d82a", func := "turnstile/turnstilelaw4.EmitAgain", spec := "emitAgain", unfollowed := true, recurses := true, plainKeys := false, apart := false }
def EmitAgainSaid : Prop := emitAgainRow.holds Try.pinned (OpenSpec.ofChange emitAgainSpec)

/-- ITS FALSE NEIGHBOUR: 'it returns false'. Refute it at one input. -/
def emitAgainWrong : ChangeSpec := { name := "emitAgain", fn := fun _ => fun
  | [d] => { results := [.lit (.bool false)], args := [d] }
  | _ => none }
def EmitAgainWrongFalsely : Prop := emitAgainRow.holds Try.pinned (OpenSpec.ofChange emitAgainWrong)

/- THE SECOND FORM. 'bulk': how many values and letters a reading holds, each counted each time it is reached (what is shared counts as often as it is met; a slice's spare places count too). A statement '..UptoSaid' is the law's where the arguments, and the package variables that the reading takes, are together of bulk at most 1048576: NARROWER than '..Said'. Prove '..Said' where nothing that the law and all that it calls make is longer than what came in: it says more and counts as full. Else prove '..UptoSaid'. A law counts once. -/
mutual
def uptoBulk {H : Type} : DataW H → Nat
  | .lit (.string bytes) => bytes.length + 1
  | .lit _ => 1
  | .nil => 1
  | .ptr d => uptoBulk d + 1
  | .slice elems spare => uptoBulkAll elems + uptoBulkAll spare + 1
  | .agg parts => uptoBulkAll parts + 1
  | .iface _ d => uptoBulk d + 1
  | .map entries => uptoBulkEntries entries + 1
  | .held _ => 1
def uptoBulkAll {H : Type} : List (DataW H) → Nat
  | [] => 0
  | d :: r => uptoBulk d + uptoBulkAll r
def uptoBulkEntries {H : Type} : List (Lit × DataW H) → Nat
  | [] => 0
  | x :: r => uptoBulkEntry x + uptoBulkEntries r
def uptoBulkEntry {H : Type} : Lit × DataW H → Nat
  | (.string bytes, d) => bytes.length + uptoBulk d + 1
  | (_, d) => uptoBulk d + 1
 end
def uptoSmall : (H : Type) → List (DataW H) → Bool := fun _ ds => decide (uptoBulkAll ds ≤ 1048576)
def OpenSpec.upto (s : _root_.Go.ChangeSpec) : _root_.Go.OpenSpec := { _root_.Go.OpenSpec.ofChange s with cond := some uptoSmall }

/-- 'turnstilelaw4.EmitWrites', WHERE WHAT IT READS IS OF BULK AT MOST 1048576: true; the input reads as it did. -/
def emitWritesUptoRow : OpenClaim := { program := "ytbalmfoboaapjaa", sum := "dda0bdd2c53206a82deb16b5d38661c4b459e03a6a6684678e84c3326d81d82a", func := "turnstile/turnstilelaw4.EmitWrites", spec := "emitWrites", plainKeys := false, apart := false, narrowed := true }
def EmitWritesUptoSaid : Prop := emitWritesUptoRow.holds Try.pinned (OpenSpec.upto emitWritesSpec)

/-- 'turnstilelaw4.EmitUnlike', WHERE WHAT IT READS IS OF BULK AT MOST 1048576: true; the input reads as it did. -/
def emitUnlikeUptoRow : OpenClaim := { program := "ytbalmfoboaapjaa", sum := "dda0bdd2c53206a82deb16b5d38661c4b459e03a6a6684678e84c3326d81d82a", func := "turnstile/turnstilelaw4.EmitUnlike", spec := "emitUnlike", plainKeys := false, apart := false, narrowed := true }
def EmitUnlikeUptoSaid : Prop := emitUnlikeUptoRow.holds Try.pinned (OpenSpec.upto emitUnlikeSpec)

/-- 'turnstilelaw4.EmitLong', WHERE WHAT IT READS IS OF BULK AT MOST 1048576: true; the input reads as it did. -/
def emitLongUptoRow : OpenClaim := { program := "ytbalmfoboaapjaa", sum := "dda0bdd2c53206a82deb16b5d38661c4b459e03a6a6684678e84c3326d81d82a", func := "turnstile/turnstilelaw4.EmitLong", spec := "emitLong", plainKeys := false, apart := false, narrowed := true }
def EmitLongUptoSaid : Prop := emitLongUptoRow.holds Try.pinned (OpenSpec.upto emitLongSpec)

/-- 'turnstilelaw4.EmitBack', WHERE WHAT IT READS IS OF BULK AT MOST 1048576: true; the input reads as it did. -/
def emitBackUptoRow : OpenClaim := { program := "ytbalmfoboaapjaa", sum := "dda0bdd2c53206a82deb16b5d38661c4b459e03a6a6684678e84c3326d81d82a", func := "turnstile/turnstilelaw4.EmitBack", spec := "emitBack", unfollowed := true, recurses := true, plainKeys := false, apart := false, narrowed := true }
def EmitBackUptoSaid : Prop := emitBackUptoRow.holds Try.pinned (OpenSpec.upto emitBackSpec)

/-- 'turnstilelaw4.EmitAgain', WHERE WHAT IT READS IS OF BULK AT MOST 1048576: true; the input reads as it did. -/
def emitAgainUptoRow : OpenClaim := { program := "ytbalmfoboaapjaa", sum := "dda0bdd2c53206a82deb16b5d38661c4b459e03a6a6684678e84c3326d81d82a", func := "turnstile/turnstilelaw4.EmitAgain", spec := "emitAgain", unfollowed := true, recurses := true, plainKeys := false, apart := false, narrowed := true }
def EmitAgainUptoSaid : Prop := emitAgainUptoRow.holds Try.pinned (OpenSpec.upto emitAgainSpec)

end Rows
end Go.Proofs.Ytbalmfoboaapjaa
