/-
  No cell of these rows narrows 'for every input' (looked for: loops, veiled, ifaces, maps, wideKeys, modest, calm, conditions, laid).
  DERIVED. THE GIVEN ROWS OF THIS SEAT. 12 by the template 'for every input the law returns true; each argument reads behind the call as it read before'; 0 by the template 'total and deterministic' (their statements: YtgophanpnaenkaaTotals.lean).
  GIVEN WITH THE SEED: the statements are not yours to turn. If you find one false, say at which input.
  Laid BY PROGRAM, IN A SANDBOX (cutbox-rows.mjs): the forced cells as the released guide's own fill.sh prints them over the translation 1ab0476c847d8f2e… (all of the seat's roots in one cut). By AI agents, Wed Nov 11 2026. No macro, syntax, notation, axiom, sorry.
-/
import Derived.Test.YtgophanpnaenkaaChecked
import GoSem.Claim
import GoSem.ClaimJoined
import GoSem.ClaimMapViews
import Derived.JoinedTies
import Derived.KernelRfl
namespace Go.Proofs.Ytgophanpnaenkaa
/- THE CELL 'sum', in the pinned program and in every row, IS THE sha256 OF THE DUMP (.gsa) THAT YtgophanpnaenkaaProg.lean LOADS. Nothing in Lean hashes anything: it is a label: what it is worth is what the hold of that sum in a sandbox is worth. -/
noncomputable def Try.pinned : Pinned := { name := "ytgophanpnaenkaa", sum := "1ab0476c847d8f2e6d8efb31c0656076cd2cb96c5784e266a88be9f78271f94d", checked := Try.checked }
namespace Rows
def none {H : Type} : Left H := { results := [], args := [] }

/-- 'turnstilelaw14.PoolPlays': WHATEVER THE INPUT: true; the input reads as it did. -/
def poolPlaysSpec : ChangeSpec := { name := "poolPlays", fn := fun _ => fun
  | [d1, d2] => { results := [.lit (.bool true)], args := [d1, d2] }
  | _ => none }
def poolPlaysRow : OpenClaim := { program := "ytgophanpnaenkaa", sum := "1ab0476c847d8f2e6d8efb31c0656076cd2cb96c5784e266a88be9f78271f94d", func := "turnstile/turnstilelaw14.PoolPlays", spec := "poolPlays", unfollowed := true, recurses := true, plainKeys := false, apart := false }
def PoolPlaysSaid : Prop := poolPlaysRow.holds Try.pinned (OpenSpec.ofChange poolPlaysSpec)

/-- ITS FALSE NEIGHBOUR: 'it returns false'. Refute it at one input. -/
def poolPlaysWrong : ChangeSpec := { name := "poolPlays", fn := fun _ => fun
  | [d1, d2] => { results := [.lit (.bool false)], args := [d1, d2] }
  | _ => none }
def PoolPlaysWrongFalsely : Prop := poolPlaysRow.holds Try.pinned (OpenSpec.ofChange poolPlaysWrong)

/-- 'turnstilelaw7.CoreNames': WHATEVER THE INPUT: true; the input reads as it did. -/
def coreNamesSpec : ChangeSpec := { name := "coreNames", fn := fun _ => fun
  | [d] => { results := [.lit (.bool true)], args := [d] }
  | _ => none }
def coreNamesRow : OpenClaim := { program := "ytgophanpnaenkaa", sum := "1ab0476c847d8f2e6d8efb31c0656076cd2cb96c5784e266a88be9f78271f94d", func := "turnstile/turnstilelaw7.CoreNames", spec := "coreNames", unfollowed := true, recurses := true, plainKeys := false, apart := false }
def CoreNamesSaid : Prop := coreNamesRow.holds Try.pinned (OpenSpec.ofChange coreNamesSpec)

/-- ITS FALSE NEIGHBOUR: 'it returns false'. Refute it at one input. -/
def coreNamesWrong : ChangeSpec := { name := "coreNames", fn := fun _ => fun
  | [d] => { results := [.lit (.bool false)], args := [d] }
  | _ => none }
def CoreNamesWrongFalsely : Prop := coreNamesRow.holds Try.pinned (OpenSpec.ofChange coreNamesWrong)

/-- 'turnstilelaw18.SchedFair': WHATEVER THE INPUT: true; the input reads as it did. -/
def schedFairSpec : ChangeSpec := { name := "schedFair", fn := fun _ => fun
  | [d1, d2, d3] => { results := [.lit (.bool true)], args := [d1, d2, d3] }
  | _ => none }
def schedFairRow : OpenClaim := { program := "ytgophanpnaenkaa", sum := "1ab0476c847d8f2e6d8efb31c0656076cd2cb96c5784e266a88be9f78271f94d", func := "turnstile/turnstilelaw18.SchedFair", spec := "schedFair", plainKeys := false, apart := false }
def SchedFairSaid : Prop := schedFairRow.holds Try.pinned (OpenSpec.ofChange schedFairSpec)

/-- ITS FALSE NEIGHBOUR: 'it returns false'. Refute it at one input. -/
def schedFairWrong : ChangeSpec := { name := "schedFair", fn := fun _ => fun
  | [d1, d2, d3] => { results := [.lit (.bool false)], args := [d1, d2, d3] }
  | _ => none }
def SchedFairWrongFalsely : Prop := schedFairRow.holds Try.pinned (OpenSpec.ofChange schedFairWrong)

/-- 'turnstilelaw18.SchedMany': WHATEVER THE INPUT: true; the input reads as it did. -/
def schedManySpec : ChangeSpec := { name := "schedMany", fn := fun _ => fun
  | [d1, d2] => { results := [.lit (.bool true)], args := [d1, d2] }
  | _ => none }
def schedManyRow : OpenClaim := { program := "ytgophanpnaenkaa", sum := "1ab0476c847d8f2e6d8efb31c0656076cd2cb96c5784e266a88be9f78271f94d", func := "turnstile/turnstilelaw18.SchedMany", spec := "schedMany", plainKeys := false, apart := false }
def SchedManySaid : Prop := schedManyRow.holds Try.pinned (OpenSpec.ofChange schedManySpec)

/-- ITS FALSE NEIGHBOUR: 'it returns false'. Refute it at one input. -/
def schedManyWrong : ChangeSpec := { name := "schedMany", fn := fun _ => fun
  | [d1, d2] => { results := [.lit (.bool false)], args := [d1, d2] }
  | _ => none }
def SchedManyWrongFalsely : Prop := schedManyRow.holds Try.pinned (OpenSpec.ofChange schedManyWrong)

/-- 'turnstilelaw16.StackTurns': WHATEVER THE INPUT: true; the input reads as it did. -/
def stackTurnsSpec : ChangeSpec := { name := "stackTurns", fn := fun _ => fun
  | [d] => { results := [.lit (.bool true)], args := [d] }
  | _ => none }
def stackTurnsRow : OpenClaim := { program := "ytgophanpnaenkaa", sum := "1ab0476c847d8f2e6d8efb31c0656076cd2cb96c5784e266a88be9f78271f94d", func := "turnstile/turnstilelaw16.StackTurns", spec := "stackTurns", plainKeys := false, apart := false }
def StackTurnsSaid : Prop := stackTurnsRow.holds Try.pinned (OpenSpec.ofChange stackTurnsSpec)

/-- ITS FALSE NEIGHBOUR: 'it returns false'. Refute it at one input. -/
def stackTurnsWrong : ChangeSpec := { name := "stackTurns", fn := fun _ => fun
  | [d] => { results := [.lit (.bool false)], args := [d] }
  | _ => none }
def StackTurnsWrongFalsely : Prop := stackTurnsRow.holds Try.pinned (OpenSpec.ofChange stackTurnsWrong)

/-- 'turnstilelaw18.SchedPlays': WHATEVER THE INPUT: true; the input reads as it did. -/
def schedPlaysSpec : ChangeSpec := { name := "schedPlays", fn := fun _ => fun
  | [d] => { results := [.lit (.bool true)], args := [d] }
  | _ => none }
def schedPlaysRow : OpenClaim := { program := "ytgophanpnaenkaa", sum := "1ab0476c847d8f2e6d8efb31c0656076cd2cb96c5784e266a88be9f78271f94d", func := "turnstile/turnstilelaw18.SchedPlays", spec := "schedPlays", plainKeys := false, apart := false }
def SchedPlaysSaid : Prop := schedPlaysRow.holds Try.pinned (OpenSpec.ofChange schedPlaysSpec)

/-- ITS FALSE NEIGHBOUR: 'it returns false'. Refute it at one input. -/
def schedPlaysWrong : ChangeSpec := { name := "schedPlays", fn := fun _ => fun
  | [d] => { results := [.lit (.bool false)], args := [d] }
  | _ => none }
def SchedPlaysWrongFalsely : Prop := schedPlaysRow.holds Try.pinned (OpenSpec.ofChange schedPlaysWrong)

/-- 'turnstilelaw7.CoreTypes': WHATEVER THE INPUT: true; the input reads as it did. -/
def coreTypesSpec : ChangeSpec := { name := "coreTypes", fn := fun _ => fun
  | [d] => { results := [.lit (.bool true)], args := [d] }
  | _ => none }
def coreTypesRow : OpenClaim := { program := "ytgophanpnaenkaa", sum := "1ab0476c847d8f2e6d8efb31c0656076cd2cb96c5784e266a88be9f78271f94d", func := "turnstile/turnstilelaw7.CoreTypes", spec := "coreTypes", unfollowed := true, recurses := true, plainKeys := false, apart := false }
def CoreTypesSaid : Prop := coreTypesRow.holds Try.pinned (OpenSpec.ofChange coreTypesSpec)

/-- ITS FALSE NEIGHBOUR: 'it returns false'. Refute it at one input. -/
def coreTypesWrong : ChangeSpec := { name := "coreTypes", fn := fun _ => fun
  | [d] => { results := [.lit (.bool false)], args := [d] }
  | _ => none }
def CoreTypesWrongFalsely : Prop := coreTypesRow.holds Try.pinned (OpenSpec.ofChange coreTypesWrong)

/-- 'turnstilelaw18.SchedRound': WHATEVER THE INPUT: true; the input reads as it did. -/
def schedRoundSpec : ChangeSpec := { name := "schedRound", fn := fun _ => fun
  | [d1, d2] => { results := [.lit (.bool true)], args := [d1, d2] }
  | _ => none }
def schedRoundRow : OpenClaim := { program := "ytgophanpnaenkaa", sum := "1ab0476c847d8f2e6d8efb31c0656076cd2cb96c5784e266a88be9f78271f94d", func := "turnstile/turnstilelaw18.SchedRound", spec := "schedRound", plainKeys := false, apart := false }
def SchedRoundSaid : Prop := schedRoundRow.holds Try.pinned (OpenSpec.ofChange schedRoundSpec)

/-- ITS FALSE NEIGHBOUR: 'it returns false'. Refute it at one input. -/
def schedRoundWrong : ChangeSpec := { name := "schedRound", fn := fun _ => fun
  | [d1, d2] => { results := [.lit (.bool false)], args := [d1, d2] }
  | _ => none }
def SchedRoundWrongFalsely : Prop := schedRoundRow.holds Try.pinned (OpenSpec.ofChange schedRoundWrong)

/-- 'turnstilelaw18.SchedRing': WHATEVER THE INPUT: true; the input reads as it did. -/
def schedRingSpec : ChangeSpec := { name := "schedRing", fn := fun _ => fun
  | [d1, d2] => { results := [.lit (.bool true)], args := [d1, d2] }
  | _ => none }
def schedRingRow : OpenClaim := { program := "ytgophanpnaenkaa", sum := "1ab0476c847d8f2e6d8efb31c0656076cd2cb96c5784e266a88be9f78271f94d", func := "turnstile/turnstilelaw18.SchedRing", spec := "schedRing", plainKeys := false, apart := false }
def SchedRingSaid : Prop := schedRingRow.holds Try.pinned (OpenSpec.ofChange schedRingSpec)

/-- ITS FALSE NEIGHBOUR: 'it returns false'. Refute it at one input. -/
def schedRingWrong : ChangeSpec := { name := "schedRing", fn := fun _ => fun
  | [d1, d2] => { results := [.lit (.bool false)], args := [d1, d2] }
  | _ => none }
def SchedRingWrongFalsely : Prop := schedRingRow.holds Try.pinned (OpenSpec.ofChange schedRingWrong)

/-- 'turnstilelaw15.HeapFull': WHATEVER THE INPUT: true; the input reads as it did. -/
def heapFullSpec : ChangeSpec := { name := "heapFull", fn := fun _ => fun
  | [d1, d2] => { results := [.lit (.bool true)], args := [d1, d2] }
  | _ => none }
def heapFullRow : OpenClaim := { program := "ytgophanpnaenkaa", sum := "1ab0476c847d8f2e6d8efb31c0656076cd2cb96c5784e266a88be9f78271f94d", func := "turnstile/turnstilelaw15.HeapFull", spec := "heapFull", unfollowed := true, recurses := true, plainKeys := false, apart := false }
def HeapFullSaid : Prop := heapFullRow.holds Try.pinned (OpenSpec.ofChange heapFullSpec)

/-- ITS FALSE NEIGHBOUR: 'it returns false'. Refute it at one input. -/
def heapFullWrong : ChangeSpec := { name := "heapFull", fn := fun _ => fun
  | [d1, d2] => { results := [.lit (.bool false)], args := [d1, d2] }
  | _ => none }
def HeapFullWrongFalsely : Prop := heapFullRow.holds Try.pinned (OpenSpec.ofChange heapFullWrong)

/-- 'turnstilelaw16.StackPlays': WHATEVER THE INPUT: true; the input reads as it did. -/
def stackPlaysSpec : ChangeSpec := { name := "stackPlays", fn := fun _ => fun
  | [d1, d2, d3] => { results := [.lit (.bool true)], args := [d1, d2, d3] }
  | _ => none }
def stackPlaysRow : OpenClaim := { program := "ytgophanpnaenkaa", sum := "1ab0476c847d8f2e6d8efb31c0656076cd2cb96c5784e266a88be9f78271f94d", func := "turnstile/turnstilelaw16.StackPlays", spec := "stackPlays", plainKeys := false, apart := false }
def StackPlaysSaid : Prop := stackPlaysRow.holds Try.pinned (OpenSpec.ofChange stackPlaysSpec)

/-- ITS FALSE NEIGHBOUR: 'it returns false'. Refute it at one input. -/
def stackPlaysWrong : ChangeSpec := { name := "stackPlays", fn := fun _ => fun
  | [d1, d2, d3] => { results := [.lit (.bool false)], args := [d1, d2, d3] }
  | _ => none }
def StackPlaysWrongFalsely : Prop := stackPlaysRow.holds Try.pinned (OpenSpec.ofChange stackPlaysWrong)

/-- 'turnstilelaw15.HeapPlays': WHATEVER THE INPUT: true; the input reads as it did. -/
def heapPlaysSpec : ChangeSpec := { name := "heapPlays", fn := fun _ => fun
  | [d1, d2] => { results := [.lit (.bool true)], args := [d1, d2] }
  | _ => none }
def heapPlaysRow : OpenClaim := { program := "ytgophanpnaenkaa", sum := "1ab0476c847d8f2e6d8efb31c0656076cd2cb96c5784e266a88be9f78271f94d", func := "turnstile/turnstilelaw15.HeapPlays", spec := "heapPlays", unfollowed := true, recurses := true, plainKeys := false, apart := false }
def HeapPlaysSaid : Prop := heapPlaysRow.holds Try.pinned (OpenSpec.ofChange heapPlaysSpec)

/-- ITS FALSE NEIGHBOUR: 'it returns false'. Refute it at one input. -/
def heapPlaysWrong : ChangeSpec := { name := "heapPlays", fn := fun _ => fun
  | [d1, d2] => { results := [.lit (.bool false)], args := [d1, d2] }
  | _ => none }
def HeapPlaysWrongFalsely : Prop := heapPlaysRow.holds Try.pinned (OpenSpec.ofChange heapPlaysWrong)

/- THE SECOND FORM. 'bulk': how many values and letters a reading holds, each counted each time it is reached (what is shared counts as often as it is met; a slice's spare places count too). A statement '..UptoSaid' is the law's where the arguments, and the package variables that the reading takes, are together of bulk at most 1048576: NARROWER than '..Said'. Prove '..Said' where nothing that the law and all that it calls make is longer than what came in: it says more and counts as full. Else prove '..UptoSaid'. A law counts once. -/
mutual
def uptoBulk {H : Type} : DataW H → Nat
  | .lit (.string bytes) => bytes.length + 1
  | .lit _ => 1
  | .nil => 1
  | .ptr d => uptoBulk d + 1
  | .slice elems spare => uptoBulkAll elems + uptoBulkAll spare + 1
  | .agg parts => uptoBulkAll parts + 1
  | .iface _ d => uptoBulk d + 1
  | .map entries => uptoBulkEntries entries + 1
  | .held _ => 1
def uptoBulkAll {H : Type} : List (DataW H) → Nat
  | [] => 0
  | d :: r => uptoBulk d + uptoBulkAll r
def uptoBulkEntries {H : Type} : List (Lit × DataW H) → Nat
  | [] => 0
  | x :: r => uptoBulkEntry x + uptoBulkEntries r
def uptoBulkEntry {H : Type} : Lit × DataW H → Nat
  | (.string bytes, d) => bytes.length + uptoBulk d + 1
  | (_, d) => uptoBulk d + 1
 end
def uptoSmall : (H : Type) → List (DataW H) → Bool := fun _ ds => decide (uptoBulkAll ds ≤ 1048576)
def OpenSpec.upto (s : _root_.Go.ChangeSpec) : _root_.Go.OpenSpec := { _root_.Go.OpenSpec.ofChange s with cond := some uptoSmall }

/-- 'turnstilelaw14.PoolPlays', WHERE WHAT IT READS IS OF BULK AT MOST 1048576: true; the input reads as it did. -/
def poolPlaysUptoRow : OpenClaim := { program := "ytgophanpnaenkaa", sum := "1ab0476c847d8f2e6d8efb31c0656076cd2cb96c5784e266a88be9f78271f94d", func := "turnstile/turnstilelaw14.PoolPlays", spec := "poolPlays", unfollowed := true, recurses := true, plainKeys := false, apart := false, narrowed := true }
def PoolPlaysUptoSaid : Prop := poolPlaysUptoRow.holds Try.pinned (OpenSpec.upto poolPlaysSpec)

/-- 'turnstilelaw7.CoreNames', WHERE WHAT IT READS IS OF BULK AT MOST 1048576: true; the input reads as it did. -/
def coreNamesUptoRow : OpenClaim := { program := "ytgophanpnaenkaa", sum := "1ab0476c847d8f2e6d8efb31c0656076cd2cb96c5784e266a88be9f78271f94d", func := "turnstile/turnstilelaw7.CoreNames", spec := "coreNames", unfollowed := true, recurses := true, plainKeys := false, apart := false, narrowed := true }
def CoreNamesUptoSaid : Prop := coreNamesUptoRow.holds Try.pinned (OpenSpec.upto coreNamesSpec)

/-- 'turnstilelaw18.SchedFair', WHERE WHAT IT READS IS OF BULK AT MOST 1048576: true; the input reads as it did. -/
def schedFairUptoRow : OpenClaim := { program := "ytgophanpnaenkaa", sum := "1ab0476c847d8f2e6d8efb31c0656076cd2cb96c5784e266a88be9f78271f94d", func := "turnstile/turnstilelaw18.SchedFair", spec := "schedFair", plainKeys := false, apart := false, narrowed := true }
def SchedFairUptoSaid : Prop := schedFairUptoRow.holds Try.pinned (OpenSpec.upto schedFairSpec)

/-- 'turnstilelaw18.SchedMany', WHERE WHAT IT READS IS OF BULK AT MOST 1048576: true; the input reads as it did. -/
def schedManyUptoRow : OpenClaim := { program := "ytgophanpnaenkaa", sum := "1ab0476c847d8f2e6d8efb31c0656076cd2cb96c5784e266a88be9f78271f94d", func := "turnstile/turnstilelaw18.SchedMany", spec := "schedMany", plainKeys := false, apart := false, narrowed := true }
def SchedManyUptoSaid : Prop := schedManyUptoRow.holds Try.pinned (OpenSpec.upto schedManySpec)

/-- 'turnstilelaw16.StackTurns', WHERE WHAT IT READS IS OF BULK AT MOST 1048576: true; the input reads as it did. -/
def stackTurnsUptoRow : OpenClaim := { program := "ytgophanpnaenkaa", sum := "1ab0476c847d8f2e6d8efb31c0656076cd2cb96c5784e266a88be9f78271f94d", func := "turnstile/turnstilelaw16.StackTurns", spec := "stackTurns", plainKeys := false, apart := false, narrowed := true }
def StackTurnsUptoSaid : Prop := stackTurnsUptoRow.holds Try.pinned (OpenSpec.upto stackTurnsSpec)

/-- 'turnstilelaw18.SchedPlays', WHERE WHAT IT READS IS OF BULK AT MOST 1048576: true; the input reads as it did. -/
def schedPlaysUptoRow : OpenClaim := { program := "ytgophanpnaenkaa", sum := "1ab0476c847d8f2e6d8efb31c0656076cd2cb96c5784e266a88be9f78271f94d", func := "turnstile/turnstilelaw18.SchedPlays", spec := "schedPlays", plainKeys := false, apart := false, narrowed := true }
def SchedPlaysUptoSaid : Prop := schedPlaysUptoRow.holds Try.pinned (OpenSpec.upto schedPlaysSpec)

/-- 'turnstilelaw7.CoreTypes', WHERE WHAT IT READS IS OF BULK AT MOST 1048576: true; the input reads as it did. -/
def coreTypesUptoRow : OpenClaim := { program := "ytgophanpnaenkaa", sum := "1ab0476c847d8f2e6d8efb31c0656076cd2cb96c5784e266a88be9f78271f94d", func := "turnstile/turnstilelaw7.CoreTypes", spec := "coreTypes", unfollowed := true, recurses := true, plainKeys := false, apart := false, narrowed := true }
def CoreTypesUptoSaid : Prop := coreTypesUptoRow.holds Try.pinned (OpenSpec.upto coreTypesSpec)

/-- 'turnstilelaw18.SchedRound', WHERE WHAT IT READS IS OF BULK AT MOST 1048576: true; the input reads as it did. -/
def schedRoundUptoRow : OpenClaim := { program := "ytgophanpnaenkaa", sum := "1ab0476c847d8f2e6d8efb31c0656076cd2cb96c5784e266a88be9f78271f94d", func := "turnstile/turnstilelaw18.SchedRound", spec := "schedRound", plainKeys := false, apart := false, narrowed := true }
def SchedRoundUptoSaid : Prop := schedRoundUptoRow.holds Try.pinned (OpenSpec.upto schedRoundSpec)

/-- 'turnstilelaw18.SchedRing', WHERE WHAT IT READS IS OF BULK AT MOST 1048576: true; the input reads as it did. -/
def schedRingUptoRow : OpenClaim := { program := "ytgophanpnaenkaa", sum := "1ab0476c847d8f2e6d8efb31c0656076cd2cb96c5784e266a88be9f78271f94d", func := "turnstile/turnstilelaw18.SchedRing", spec := "schedRing", plainKeys := false, apart := false, narrowed := true }
def SchedRingUptoSaid : Prop := schedRingUptoRow.holds Try.pinned (OpenSpec.upto schedRingSpec)

/-- 'turnstilelaw15.HeapFull', WHERE WHAT IT READS IS OF BULK AT MOST 1048576: true; the input reads as it did. -/
def heapFullUptoRow : OpenClaim := { program := "ytgophanpnaenkaa", sum := "1ab0476c847d8f2e6d8efb31c0656076cd2cb96c5784e266a88be9f78271f94d", func := "turnstile/turnstilelaw15.HeapFull", spec := "heapFull", unfollowed := true, recurses := true, plainKeys := false, apart := false, narrowed := true }
def HeapFullUptoSaid : Prop := heapFullUptoRow.holds Try.pinned (OpenSpec.upto heapFullSpec)

/-- 'turnstilelaw16.StackPlays', WHERE WHAT IT READS IS OF BULK AT MOST 1048576: true; the input reads as it did. -/
def stackPlaysUptoRow : OpenClaim := { program := "ytgophanpnaenkaa", sum := "1ab0476c847d8f2e6d8efb31c0656076cd2cb96c5784e266a88be9f78271f94d", func := "turnstile/turnstilelaw16.StackPlays", spec := "stackPlays", plainKeys := false, apart := false, narrowed := true }
def StackPlaysUptoSaid : Prop := stackPlaysUptoRow.holds Try.pinned (OpenSpec.upto stackPlaysSpec)

/-- 'turnstilelaw15.HeapPlays', WHERE WHAT IT READS IS OF BULK AT MOST 1048576: true; the input reads as it did. -/
def heapPlaysUptoRow : OpenClaim := { program := "ytgophanpnaenkaa", sum := "1ab0476c847d8f2e6d8efb31c0656076cd2cb96c5784e266a88be9f78271f94d", func := "turnstile/turnstilelaw15.HeapPlays", spec := "heapPlays", unfollowed := true, recurses := true, plainKeys := false, apart := false, narrowed := true }
def HeapPlaysUptoSaid : Prop := heapPlaysUptoRow.holds Try.pinned (OpenSpec.upto heapPlaysSpec)

end Rows
end Go.Proofs.Ytgophanpnaenkaa
