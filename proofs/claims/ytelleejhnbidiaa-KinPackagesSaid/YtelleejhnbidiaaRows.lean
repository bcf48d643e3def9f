/-
  No cell of these rows narrows 'for every input' (looked for: loops, veiled, ifaces, maps, wideKeys, modest, calm, conditions, laid).
  DERIVED. THE GIVEN ROWS OF THIS SEAT. 9 by the template 'for every input the law returns true; each argument reads behind the call as it read before'; 0 by the template 'total and deterministic' (their statements: YtelleejhnbidiaaTotals.lean).
  GIVEN WITH THE SEED: the statements are not yours to turn. If you find one false, say at which input.
  Laid BY PROGRAM, IN A SANDBOX (cutbox-rows.mjs): the forced cells as the released guide's own fill.sh prints them over the translation f647c1b9a4bb57ad… (all of the seat's roots in one cut). By AI agents, Wed Nov 11 2026. No macro, syntax, notation, axiom, sorry.
-/
import Derived.Test.YtelleejhnbidiaaChecked
import GoSem.Claim
import GoSem.ClaimJoined
import GoSem.ClaimMapViews
import Derived.JoinedTies
import Derived.KernelRfl
namespace Go.Proofs.Ytelleejhnbidiaa
/- THE CELL 'sum', in the pinned program and in every row, IS THE sha256 OF THE DUMP (.gsa) THAT YtelleejhnbidiaaProg.lean LOADS. Nothing in Lean hashes anything: it is a label: what it is worth is what the hold of that sum in a sandbox is worth. -/
noncomputable def Try.pinned : Pinned := { name := "ytelleejhnbidiaa", sum := "f647c1b9a4bb57ad1a2bea8c86fa57fa1a4c390a2e684747526cf5c517f3ae65", checked := Try.checked }
namespace Rows
def none {H : Type} : Left H := { results := [], args := [] }

/-- 'turnstilelaw11.SlotsStatics': WHATEVER THE INPUT: true; the input reads as it did. -/
def slotsStaticsSpec : ChangeSpec := { name := "slotsStatics", fn := fun _ => fun
  | [d1, d2, d3] => { results := [.lit (.bool true)], args := [d1, d2, d3] }
  | _ => none }
def slotsStaticsRow : OpenClaim := { program := "ytelleejhnbidiaa", sum := "f647c1b9a4bb57ad1a2bea8c86fa57fa1a4c390a2e684747526cf5c517f3ae65", func := "turnstile/turnstilelaw11.SlotsStatics", spec := "slotsStatics", unfollowed := true, recurses := true, plainKeys := false, apart := false }
def SlotsStaticsSaid : Prop := slotsStaticsRow.holds Try.pinned (OpenSpec.ofChange slotsStaticsSpec)

/-- ITS FALSE NEIGHBOUR: 'it returns false'. Refute it at one input. -/
def slotsStaticsWrong : ChangeSpec := { name := "slotsStatics", fn := fun _ => fun
  | [d1, d2, d3] => { results := [.lit (.bool false)], args := [d1, d2, d3] }
  | _ => none }
def SlotsStaticsWrongFalsely : Prop := slotsStaticsRow.holds Try.pinned (OpenSpec.ofChange slotsStaticsWrong)

/-- 'turnstilelaw11.SlotsRows': WHATEVER THE INPUT: true; the input reads as it did. -/
def slotsRowsSpec : ChangeSpec := { name := "slotsRows", fn := fun _ => fun
  | [d1, d2, d3, d4] => { results := [.lit (.bool true)], args := [d1, d2, d3, d4] }
  | _ => none }
def slotsRowsRow : OpenClaim := { program := "ytelleejhnbidiaa", sum := "f647c1b9a4bb57ad1a2bea8c86fa57fa1a4c390a2e684747526cf5c517f3ae65", func := "turnstile/turnstilelaw11.SlotsRows", spec := "slotsRows", unfollowed := true, recurses := true, plainKeys := false, apart := false }
def SlotsRowsSaid : Prop := slotsRowsRow.holds Try.pinned (OpenSpec.ofChange slotsRowsSpec)

/-- ITS FALSE NEIGHBOUR: 'it returns false'. Refute it at one input. -/
def slotsRowsWrong : ChangeSpec := { name := "slotsRows", fn := fun _ => fun
  | [d1, d2, d3, d4] => { results := [.lit (.bool false)], args := [d1, d2, d3, d4] }
  | _ => none }
def SlotsRowsWrongFalsely : Prop := slotsRowsRow.holds Try.pinned (OpenSpec.ofChange slotsRowsWrong)

/-- 'turnstilelaw9.KinChain': WHATEVER THE INPUT: true; the input reads as it did. -/
def kinChainSpec : ChangeSpec := { name := "kinChain", fn := fun _ => fun
  | [d1, d2, d3] => { results := [.lit (.bool true)], args := [d1, d2, d3] }
  | _ => none }
def kinChainRow : OpenClaim := { program := "ytelleejhnbidiaa", sum := "f647c1b9a4bb57ad1a2bea8c86fa57fa1a4c390a2e684747526cf5c517f3ae65", func := "turnstile/turnstilelaw9.KinChain", spec := "kinChain", unfollowed := true, recurses := true, plainKeys := false, apart := false }
def KinChainSaid : Prop := kinChainRow.holds Try.pinned (OpenSpec.ofChange kinChainSpec)

/-- ITS FALSE NEIGHBOUR: 'it returns false'. Refute it at one input. -/
def kinChainWrong : ChangeSpec := { name := "kinChain", fn := fun _ => fun
  | [d1, d2, d3] => { results := [.lit (.bool false)], args := [d1, d2, d3] }
  | _ => none }
def KinChainWrongFalsely : Prop := kinChainRow.holds Try.pinned (OpenSpec.ofChange kinChainWrong)

/-- 'turnstilelaw9.KinRows': WHATEVER THE INPUT: true; the input reads as it did. -/
def kinRowsSpec : ChangeSpec := { name := "kinRows", fn := fun _ => fun
  | [d1, d2, d3] => { results := [.lit (.bool true)], args := [d1, d2, d3] }
  | _ => none }
def kinRowsRow : OpenClaim := { program := "ytelleejhnbidiaa", sum := "f647c1b9a4bb57ad1a2bea8c86fa57fa1a4c390a2e684747526cf5c517f3ae65", func := "turnstile/turnstilelaw9.KinRows", spec := "kinRows", unfollowed := true, recurses := true, plainKeys := false, apart := false }
def KinRowsSaid : Prop := kinRowsRow.holds Try.pinned (OpenSpec.ofChange kinRowsSpec)

/-- ITS FALSE NEIGHBOUR: 'it returns false'. Refute it at one input. -/
def kinRowsWrong : ChangeSpec := { name := "kinRows", fn := fun _ => fun
  | [d1, d2, d3] => { results := [.lit (.bool false)], args := [d1, d2, d3] }
  | _ => none }
def KinRowsWrongFalsely : Prop := kinRowsRow.holds Try.pinned (OpenSpec.ofChange kinRowsWrong)

/-- 'turnstilelaw9.KinLaws': WHATEVER THE INPUT: true; the input reads as it did. -/
def kinLawsSpec : ChangeSpec := { name := "kinLaws", fn := fun _ => fun
  | [d1, d2] => { results := [.lit (.bool true)], args := [d1, d2] }
  | _ => none }
def kinLawsRow : OpenClaim := { program := "ytelleejhnbidiaa", sum := "f647c1b9a4bb57ad1a2bea8c86fa57fa1a4c390a2e684747526cf5c517f3ae65", func := "turnstile/turnstilelaw9.KinLaws", spec := "kinLaws", unfollowed := true, recurses := true, plainKeys := false, apart := false }
def KinLawsSaid : Prop := kinLawsRow.holds Try.pinned (OpenSpec.ofChange kinLawsSpec)

/-- ITS FALSE NEIGHBOUR: 'it returns false'. Refute it at one input. -/
def kinLawsWrong : ChangeSpec := { name := "kinLaws", fn := fun _ => fun
  | [d1, d2] => { results := [.lit (.bool false)], args := [d1, d2] }
  | _ => none }
def KinLawsWrongFalsely : Prop := kinLawsRow.holds Try.pinned (OpenSpec.ofChange kinLawsWrong)

/-- 'turnstilelaw9.KinDiamond': WHATEVER THE INPUT: true; the input reads as it did. -/
def kinDiamondSpec : ChangeSpec := { name := "kinDiamond", fn := fun _ => fun
  | [d] => { results := [.lit (.bool true)], args := [d] }
  | _ => none }
def kinDiamondRow : OpenClaim := { program := "ytelleejhnbidiaa", sum := "f647c1b9a4bb57ad1a2bea8c86fa57fa1a4c390a2e684747526cf5c517f3ae65", func := "turnstile/turnstilelaw9.KinDiamond", spec := "kinDiamond", unfollowed := true, recurses := true, plainKeys := false, apart := false }
def KinDiamondSaid : Prop := kinDiamondRow.holds Try.pinned (OpenSpec.ofChange kinDiamondSpec)

/-- ITS FALSE NEIGHBOUR: 'it returns false'. Refute it at one input. -/
def kinDiamondWrong : ChangeSpec := { name := "kinDiamond", fn := fun _ => fun
  | [d] => { results := [.lit (.bool false)], args := [d] }
  | _ => none }
def KinDiamondWrongFalsely : Prop := kinDiamondRow.holds Try.pinned (OpenSpec.ofChange kinDiamondWrong)

/-- 'turnstilelaw9.KinSubs': WHATEVER THE INPUT: true; the input reads as it did. -/
def kinSubsSpec : ChangeSpec := { name := "kinSubs", fn := fun _ => fun
  | [d1, d2, d3] => { results := [.lit (.bool true)], args := [d1, d2, d3] }
  | _ => none }
def kinSubsRow : OpenClaim := { program := "ytelleejhnbidiaa", sum := "f647c1b9a4bb57ad1a2bea8c86fa57fa1a4c390a2e684747526cf5c517f3ae65", func := "turnstile/turnstilelaw9.KinSubs", spec := "kinSubs", unfollowed := true, recurses := true, plainKeys := false, apart := false }
def KinSubsSaid : Prop := kinSubsRow.holds Try.pinned (OpenSpec.ofChange kinSubsSpec)

/-- ITS FALSE NEIGHBOUR: 'it returns false'. Refute it at one input. -/
def kinSubsWrong : ChangeSpec := { name := "kinSubs", fn := fun _ => fun
  | [d1, d2, d3] => { results := [.lit (.bool false)], args := [d1, d2, d3] }
  | _ => none }
def KinSubsWrongFalsely : Prop := kinSubsRow.holds Try.pinned (OpenSpec.ofChange kinSubsWrong)

/-- 'turnstilelaw9.KinViews': WHATEVER THE INPUT: true; the input reads as it did. -/
def kinViewsSpec : ChangeSpec := { name := "kinViews", fn := fun _ => fun
  | [d1, d2, d3, d4] => { results := [.lit (.bool true)], args := [d1, d2, d3, d4] }
  | _ => none }
def kinViewsRow : OpenClaim := { program := "ytelleejhnbidiaa", sum := "f647c1b9a4bb57ad1a2bea8c86fa57fa1a4c390a2e684747526cf5c517f3ae65", func := "turnstile/turnstilelaw9.KinViews", spec := "kinViews", unfollowed := true, recurses := true, plainKeys := false, apart := false }
def KinViewsSaid : Prop := kinViewsRow.holds Try.pinned (OpenSpec.ofChange kinViewsSpec)

/-- ITS FALSE NEIGHBOUR: 'it returns false'. Refute it at one input. -/
def kinViewsWrong : ChangeSpec := { name := "kinViews", fn := fun _ => fun
  | [d1, d2, d3, d4] => { results := [.lit (.bool false)], args := [d1, d2, d3, d4] }
  | _ => none }
def KinViewsWrongFalsely : Prop := kinViewsRow.holds Try.pinned (OpenSpec.ofChange kinViewsWrong)

/-- 'turnstilelaw9.KinPackages': WHATEVER THE INPUT: true; the input reads as it did. -/
def kinPackagesSpec : ChangeSpec := { name := "kinPackages", fn := fun _ => fun
  | [d] => { results := [.lit (.bool true)], args := [d] }
  | _ => none }
def kinPackagesRow : OpenClaim := { program := "ytelleejhnbidiaa", sum := "f647c1b9a4bb57ad1a2bea8c86fa57fa1a4c390a2e684747526cf5c517f3ae65", func := "turnstile/turnstilelaw9.KinPackages", spec := "kinPackages", unfollowed := true, recurses := true, plainKeys := false, apart := false }
def KinPackagesSaid : Prop := kinPackagesRow.holds Try.pinned (OpenSpec.ofChange kinPackagesSpec)

/-- ITS FALSE NEIGHBOUR: 'it returns false'. Refute it at one input. -/
def kinPackagesWrong : ChangeSpec := { name := "kinPackages", fn := fun _ => fun
  | [d] => { results := [.lit (.bool false)], args := [d] }
  | _ => none }
def KinPackagesWrongFalsely : Prop := kinPackagesRow.holds Try.pinned (OpenSpec.ofChange kinPackagesWrong)

/- THE SECOND FORM. 'bulk': how many values and letters a reading holds, each counted each time it is reached (what is shared counts as often as it is met; a slice's spare places count too). A statement '..UptoSaid' is the law's where the arguments, and the package variables that the reading takes, are together of bulk at most 1048576: NARROWER than '..Said'. Prove '..Said' where nothing that the law and all that it calls make is longer than what came in: it says more and counts as full. Else prove '..UptoSaid'. A law counts once. -/
mutual
def uptoBulk {H : Type} : DataW H → Nat
  | .lit (.string bytes) => bytes.length + 1
  | .lit _ => 1
  | .nil => 1
  | .ptr d => uptoBulk d + 1
  | .slice elems spare => uptoBulkAll elems + uptoBulkAll spare + 1
  | .agg parts => uptoBulkAll parts + 1
  | .iface _ d => uptoBulk d + 1
  | .map entries => uptoBulkEntries entries + 1
  | .held _ => 1
def uptoBulkAll {H : Type} : List (DataW H) → Nat
  | [] => 0
  | d :: r => uptoBulk d + uptoBulkAll r
def uptoBulkEntries {H : Type} : List (Lit × DataW H) → Nat
  | [] => 0
  | x :: r => uptoBulkEntry x + uptoBulkEntries r
def uptoBulkEntry {H : Type} : Lit × DataW H → Nat
  | (.string bytes, d) => bytes.length + uptoBulk d + 1
  | (_, d) => uptoBulk d + 1
 end
def uptoSmall : (H : Type) → List (DataW H) → Bool := fun _ ds => decide (uptoBulkAll ds ≤ 1048576)
def OpenSpec.upto (s : _root_.Go.ChangeSpec) : _root_.Go.OpenSpec := { _root_.Go.OpenSpec.ofChange s with cond := some uptoSmall }

/-- 'turnstilelaw11.SlotsStatics', WHERE WHAT IT READS IS OF BULK AT MOST 1048576: true; the input reads as it did. -/
def slotsStaticsUptoRow : OpenClaim := { program := "ytelleejhnbidiaa", sum := "f647c1b9a4bb57ad1a2bea8c86fa57fa1a4c390a2e684747526cf5c517f3ae65", func := "turnstile/turnstilelaw11.SlotsStatics", spec := "slotsStatics", unfollowed := true, recurses := true, plainKeys := false, apart := false, narrowed := true }
def SlotsStaticsUptoSaid : Prop := slotsStaticsUptoRow.holds Try.pinned (OpenSpec.upto slotsStaticsSpec)

/-- 'turnstilelaw11.SlotsRows', WHERE WHAT IT READS IS OF BULK AT MOST 1048576: true; the input reads as it did. -/
def slotsRowsUptoRow : OpenClaim := { program := "ytelleejhnbidiaa", sum := "f647c1b9a4bb57ad1a2bea8c86fa57fa1a4c390a2e684747526cf5c517f3ae65", func := "turnstile/turnstilelaw11.SlotsRows", spec := "slotsRows", unfollowed := true, recurses := true, plainKeys := false, apart := false, narrowed := true }
def SlotsRowsUptoSaid : Prop := slotsRowsUptoRow.holds Try.pinned (OpenSpec.upto slotsRowsSpec)

/-- 'turnstilelaw9.KinChain', WHERE WHAT IT READS IS OF BULK AT MOST 1048576: true; the input reads as it did. -/
def kinChainUptoRow : OpenClaim := { program := "ytelleejhnbidiaa", sum := "f647c1b9a4bb57ad1a2bea8c86fa57fa1a4c390a2e684747526cf5c517f3ae65", func := "turnstile/turnstilelaw9.KinChain", spec := "kinChain", unfollowed := true, recurses := true, plainKeys := false, apart := false, narrowed := true }
def KinChainUptoSaid : Prop := kinChainUptoRow.holds Try.pinned (OpenSpec.upto kinChainSpec)

/-- 'turnstilelaw9.KinRows', WHERE WHAT IT READS IS OF BULK AT MOST 1048576: true; the input reads as it did. -/
def kinRowsUptoRow : OpenClaim := { program := "ytelleejhnbidiaa", sum := "f647c1b9a4bb57ad1a2bea8c86fa57fa1a4c390a2e684747526cf5c517f3ae65", func := "turnstile/turnstilelaw9.KinRows", spec := "kinRows", unfollowed := true, recurses := true, plainKeys := false, apart := false, narrowed := true }
def KinRowsUptoSaid : Prop := kinRowsUptoRow.holds Try.pinned (OpenSpec.upto kinRowsSpec)

/-- 'turnstilelaw9.KinLaws', WHERE WHAT IT READS IS OF BULK AT MOST 1048576: true; the input reads as it did. -/
def kinLawsUptoRow : OpenClaim := { program := "ytelleejhnbidiaa", sum := "f647c1b9a4bb57ad1a2bea8c86fa57fa1a4c390a2e684747526cf5c517f3ae65", func := "turnstile/turnstilelaw9.KinLaws", spec := "kinLaws", unfollowed := true, recurses := true, plainKeys := false, apart := false, narrowed := true }
def KinLawsUptoSaid : Prop := kinLawsUptoRow.holds Try.pinned (OpenSpec.upto kinLawsSpec)

/-- 'turnstilelaw9.KinDiamond', WHERE WHAT IT READS IS OF BULK AT MOST 1048576: true; the input reads as it did. -/
def kinDiamondUptoRow : OpenClaim := { program := "ytelleejhnbidiaa", sum := "f647c1b9a4bb57ad1a2bea8c86fa57fa1a4c390a2e684747526cf5c517f3ae65", func := "turnstile/turnstilelaw9.KinDiamond", spec := "kinDiamond", unfollowed := true, recurses := true, plainKeys := false, apart := false, narrowed := true }
def KinDiamondUptoSaid : Prop := kinDiamondUptoRow.holds Try.pinned (OpenSpec.upto kinDiamondSpec)

/-- 'turnstilelaw9.KinSubs', WHERE WHAT IT READS IS OF BULK AT MOST 1048576: true; the input reads as it did. -/
def kinSubsUptoRow : OpenClaim := { program := "ytelleejhnbidiaa", sum := "f647c1b9a4bb57ad1a2bea8c86fa57fa1a4c390a2e684747526cf5c517f3ae65", func := "turnstile/turnstilelaw9.KinSubs", spec := "kinSubs", unfollowed := true, recurses := true, plainKeys := false, apart := false, narrowed := true }
def KinSubsUptoSaid : Prop := kinSubsUptoRow.holds Try.pinned (OpenSpec.upto kinSubsSpec)

/-- 'turnstilelaw9.KinViews', WHERE WHAT IT READS IS OF BULK AT MOST 1048576: true; the input reads as it did. -/
def kinViewsUptoRow : OpenClaim := { program := "ytelleejhnbidiaa", sum := "f647c1b9a4bb57ad1a2bea8c86fa57fa1a4c390a2e684747526cf5c517f3ae65", func := "turnstile/turnstilelaw9.KinViews", spec := "kinViews", unfollowed := true, recurses := true, plainKeys := false, apart := false, narrowed := true }
def KinViewsUptoSaid : Prop := kinViewsUptoRow.holds Try.pinned (OpenSpec.upto kinViewsSpec)

/-- 'turnstilelaw9.KinPackages', WHERE WHAT IT READS IS OF BULK AT MOST 1048576: true; the input reads as it did. -/
def kinPackagesUptoRow : OpenClaim := { program := "ytelleejhnbidiaa", sum := "f647c1b9a4bb57ad1a2bea8c86fa57fa1a4c390a2e684747526cf5c517f3ae65", func := "turnstile/turnstilelaw9.KinPackages", spec := "kinPackages", unfollowed := true, recurses := true, plainKeys := false, apart := false, narrowed := true }
def KinPackagesUptoSaid : Prop := kinPackagesUptoRow.holds Try.pinned (OpenSpec.upto kinPackagesSpec)

end Rows
end Go.Proofs.Ytelleejhnbidiaa
