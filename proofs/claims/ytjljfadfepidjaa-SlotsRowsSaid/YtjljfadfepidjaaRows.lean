/-
  No cell of these rows narrows 'for every input' (looked for: loops, veiled, ifaces, maps, wideKeys, modest, calm, conditions, laid).
  DERIVED. THE GIVEN ROWS OF THIS SEAT. 5 by the template 'for every input the law returns true; each argument reads behind the call as it read before'; 0 by the template 'total and deterministic' (their statements: YtjljfadfepidjaaTotals.lean).
  GIVEN WITH THE SEED: the statements are not yours to turn. If you find one false, say at which input.
  Laid BY PROGRAM, IN A SANDBOX (cutbox-rows.mjs): the forced cells as the released guide's own fill.sh prints them over the translation a4d2c7e310599267… (all of the seat's roots in one cut). By AI agents, Wed Nov 11 2026. No macro, syntax, notation, axiom, sorry.
-/
import Derived.Test.YtjljfadfepidjaaChecked
import GoSem.Claim
import GoSem.ClaimJoined
import GoSem.ClaimMapViews
import Derived.JoinedTies
import Derived.KernelRfl
namespace Go.Proofs.Ytjljfadfepidjaa
/- THE CELL 'sum', in the pinned program and in every row, IS THE sha256 OF THE DUMP (.gsa) THAT YtjljfadfepidjaaProg.lean LOADS. Nothing in Lean hashes anything: it is a label: what it is worth is what the hold of that sum in a sandbox is worth. -/
noncomputable def Try.pinned : Pinned := { name := "ytjljfadfepidjaa", sum := "a4d2c7e31059926783b72a71a8edfb903e03c028706c6cf33766c47d8ed5e588", checked := Try.checked }
namespace Rows
def none {H : Type} : Left H := { results := [], args := [] }

/-- 'turnstilelaw11.SlotsRows': WHATEVER THE INPUT: true; the input reads as it did. -/
def slotsRowsSpec : ChangeSpec := { name := "slotsRows", fn := fun _ => fun
  | [d1, d2, d3, d4] => { results := [.lit (.bool true)], args := [d1, d2, d3, d4] }
  | _ => none }
def slotsRowsRow : OpenClaim := { program := "ytjljfadfepidjaa", sum := "a4d2c7e31059926783b72a71a8edfb903e03c028706c6cf33766c47d8ed5e588", func := "turnstile/turnstilelaw11.SlotsRows", spec := "slotsRows", unfollowed := true, recurses := true, plainKeys := false, apart := false }
def SlotsRowsSaid : Prop := slotsRowsRow.holds Try.pinned (OpenSpec.ofChange slotsRowsSpec)

/-- ITS FALSE NEIGHBOUR: 'it returns false'. Refute it at one input. -/
def slotsRowsWrong : ChangeSpec := { name := "slotsRows", fn := fun _ => fun
  | [d1, d2, d3, d4] => { results := [.lit (.bool false)], args := [d1, d2, d3, d4] }
  | _ => none }
def SlotsRowsWrongFalsely : Prop := slotsRowsRow.holds Try.pinned (OpenSpec.ofChange slotsRowsWrong)

/-- 'turnstilelaw9.KinChain': WHATEVER THE INPUT: true; the input reads as it did. -/
def kinChainSpec : ChangeSpec := { name := "kinChain", fn := fun _ => fun
  | [d1, d2, d3] => { results := [.lit (.bool true)], args := [d1, d2, d3] }
  | _ => none }
def kinChainRow : OpenClaim := { program := "ytjljfadfepidjaa", sum := "a4d2c7e31059926783b72a71a8edfb903e03c028706c6cf33766c47d8ed5e588", func := "turnstile/turnstilelaw9.KinChain", spec := "kinChain", unfollowed := true, recurses := true, plainKeys := false, apart := false }
def KinChainSaid : Prop := kinChainRow.holds Try.pinned (OpenSpec.ofChange kinChainSpec)

/-- ITS FALSE NEIGHBOUR: 'it returns false'. Refute it at one input. -/
def kinChainWrong : ChangeSpec := { name := "kinChain", fn := fun _ => fun
  | [d1, d2, d3] => { results := [.lit (.bool false)], args := [d1, d2, d3] }
  | _ => none }
def KinChainWrongFalsely : Prop := kinChainRow.holds Try.pinned (OpenSpec.ofChange kinChainWrong)

/-- 'turnstilelaw9.KinRows': WHATEVER THE INPUT: true; the input reads as it did. -/
def kinRowsSpec : ChangeSpec := { name := "kinRows", fn := fun _ => fun
  | [d1, d2, d3] => { results := [.lit (.bool true)], args := [d1, d2, d3] }
  | _ => none }
def kinRowsRow : OpenClaim := { program := "ytjljfadfepidjaa", sum := "a4d2c7e31059926783b72a71a8edfb903e03c028706c6cf33766c47d8ed5e588", func := "turnstile/turnstilelaw9.KinRows", spec := "kinRows", unfollowed := true, recurses := true, plainKeys := false, apart := false }
def KinRowsSaid : Prop := kinRowsRow.holds Try.pinned (OpenSpec.ofChange kinRowsSpec)

/-- ITS FALSE NEIGHBOUR: 'it returns false'. Refute it at one input. -/
def kinRowsWrong : ChangeSpec := { name := "kinRows", fn := fun _ => fun
  | [d1, d2, d3] => { results := [.lit (.bool false)], args := [d1, d2, d3] }
  | _ => none }
def KinRowsWrongFalsely : Prop := kinRowsRow.holds Try.pinned (OpenSpec.ofChange kinRowsWrong)

/-- 'turnstilelaw9.KinLaws': WHATEVER THE INPUT: true; the input reads as it did. -/
def kinLawsSpec : ChangeSpec := { name := "kinLaws", fn := fun _ => fun
  | [d1, d2] => { results := [.lit (.bool true)], args := [d1, d2] }
  | _ => none }
def kinLawsRow : OpenClaim := { program := "ytjljfadfepidjaa", sum := "a4d2c7e31059926783b72a71a8edfb903e03c028706c6cf33766c47d8ed5e588", func := "turnstile/turnstilelaw9.KinLaws", spec := "kinLaws", unfollowed := true, recurses := true, plainKeys := false, apart := false }
def KinLawsSaid : Prop := kinLawsRow.holds Try.pinned (OpenSpec.ofChange kinLawsSpec)

/-- ITS FALSE NEIGHBOUR: 'it returns false'. Refute it at one input. -/
def kinLawsWrong : ChangeSpec := { name := "kinLaws", fn := fun _ => fun
  | [d1, d2] => { results := [.lit (.bool false)], args := [d1, d2] }
  | _ => none }
def KinLawsWrongFalsely : Prop := kinLawsRow.holds Try.pinned (OpenSpec.ofChange kinLawsWrong)

/-- 'turnstilelaw9.KinDiamond': WHATEVER THE INPUT: true; the input reads as it did. -/
def kinDiamondSpec : ChangeSpec := { name := "kinDiamond", fn := fun _ => fun
  | [d] => { results := [.lit (.bool true)], args := [d] }
  | _ => none }
def kinDiamondRow : OpenClaim := { program := "ytjljfadfepidjaa", sum := "a4d2c7e31059926783b72a71a8edfb903e03c028706c6cf33766c47d8ed5e588", func := "turnstile/turnstilelaw9.KinDiamond", spec := "kinDiamond", unfollowed := true, recurses := true, plainKeys := false, apart := false }
def KinDiamondSaid : Prop := kinDiamondRow.holds Try.pinned (OpenSpec.ofChange kinDiamondSpec)

/-- ITS FALSE NEIGHBOUR: 'it returns false'. Refute it at one input. -/
def kinDiamondWrong : ChangeSpec := { name := "kinDiamond", fn := fun _ => fun
  | [d] => { results := [.lit (.bool false)], args := [d] }
  | _ => none }
def KinDiamondWrongFalsely : Prop := kinDiamondRow.holds Try.pinned (OpenSpec.ofChange kinDiamondWrong)

/- THE SECOND FORM. 'bulk': how many values and letters a reading holds, each counted each time it is reached (what is shared counts as often as it is met; a slice's spare places count too). A statement '..UptoSaid' is the law's where the arguments, and the package variables that the reading takes, are together of bulk at most 1048576: NARROWER than '..Said'. Prove '..Said' where nothing that the law and all that it calls make is longer than what came in: it says more and counts as full. Else prove '..UptoSaid'. A law counts once. -/
mutual
def uptoBulk {H : Type} : DataW H → Nat
  | .lit (.string bytes) => bytes.length + 1
  | .lit _ => 1
  | .nil => 1
  | .ptr d => uptoBulk d + 1
  | .slice elems spare => uptoBulkAll elems + uptoBulkAll spare + 1
  | .agg parts => uptoBulkAll parts + 1
  | .iface _ d => uptoBulk d + 1
  | .map entries => uptoBulkEntries entries + 1
  | .held _ => 1
def uptoBulkAll {H : Type} : List (DataW H) → Nat
  | [] => 0
  | d :: r => uptoBulk d + uptoBulkAll r
def uptoBulkEntries {H : Type} : List (Lit × DataW H) → Nat
  | [] => 0
  | x :: r => uptoBulkEntry x + uptoBulkEntries r
def uptoBulkEntry {H : Type} : Lit × DataW H → Nat
  | (.string bytes, d) => bytes.length + uptoBulk d + 1
  | (_, d) => uptoBulk d + 1
 end
def uptoSmall : (H : Type) → List (DataW H) → Bool := fun _ ds => decide (uptoBulkAll ds ≤ 1048576)
def OpenSpec.upto (s : _root_.Go.ChangeSpec) : _root_.Go.OpenSpec := { _root_.Go.OpenSpec.ofChange s with cond := some uptoSmall }

/-- 'turnstilelaw11.SlotsRows', WHERE WHAT IT READS IS OF BULK AT MOST 1048576: true; the input reads as it did. -/
def slotsRowsUptoRow : OpenClaim := { program := "ytjljfadfepidjaa", sum := "a4d2c7e31059926783b72a71a8edfb903e03c028706c6cf33766c47d8ed5e588", func := "turnstile/turnstilelaw11.SlotsRows", spec := "slotsRows", unfollowed := true, recurses := true, plainKeys := false, apart := false, narrowed := true }
def SlotsRowsUptoSaid : Prop := slotsRowsUptoRow.holds Try.pinned (OpenSpec.upto slotsRowsSpec)

/-- 'turnstilelaw9.KinChain', WHERE WHAT IT READS IS OF BULK AT MOST 1048576: true; the input reads as it did. -/
def kinChainUptoRow : OpenClaim := { program := "ytjljfadfepidjaa", sum := "a4d2c7e31059926783b72a71a8edfb903e03c028706c6cf33766c47d8ed5e588", func := "turnstile/turnstilelaw9.KinChain", spec := "kinChain", unfollowed := true, recurses := true, plainKeys := false, apart := false, narrowed := true }
def KinChainUptoSaid : Prop := kinChainUptoRow.holds Try.pinned (OpenSpec.upto kinChainSpec)

/-- 'turnstilelaw9.KinRows', WHERE WHAT IT READS IS OF BULK AT MOST 1048576: true; the input reads as it did. -/
def kinRowsUptoRow : OpenClaim := { program := "ytjljfadfepidjaa", sum := "a4d2c7e31059926783b72a71a8edfb903e03c028706c6cf33766c47d8ed5e588", func := "turnstile/turnstilelaw9.KinRows", spec := "kinRows", unfollowed := true, recurses := true, plainKeys := false, apart := false, narrowed := true }
def KinRowsUptoSaid : Prop := kinRowsUptoRow.holds Try.pinned (OpenSpec.upto kinRowsSpec)

/-- 'turnstilelaw9.KinLaws', WHERE WHAT IT READS IS OF BULK AT MOST 1048576: true; the input reads as it did. -/
def kinLawsUptoRow : OpenClaim := { program := "ytjljfadfepidjaa", sum := "a4d2c7e31059926783b72a71a8edfb903e03c028706c6cf33766c47d8ed5e588", func := "turnstile/turnstilelaw9.KinLaws", spec := "kinLaws", unfollowed := true, recurses := true, plainKeys := false, apart := false, narrowed := true }
def KinLawsUptoSaid : Prop := kinLawsUptoRow.holds Try.pinned (OpenSpec.upto kinLawsSpec)

/-- 'turnstilelaw9.KinDiamond', WHERE WHAT IT READS IS OF BULK AT MOST 1048576: true; the input reads as it did. -/
def kinDiamondUptoRow : OpenClaim := { program := "ytjljfadfepidjaa", sum := "a4d2c7e31059926783b72a71a8edfb903e03c028706c6cf33766c47d8ed5e588", func := "turnstile/turnstilelaw9.KinDiamond", spec := "kinDiamond", unfollowed := true, recurses := true, plainKeys := false, apart := false, narrowed := true }
def KinDiamondUptoSaid : Prop := kinDiamondUptoRow.holds Try.pinned (OpenSpec.upto kinDiamondSpec)

end Rows
end Go.Proofs.Ytjljfadfepidjaa
