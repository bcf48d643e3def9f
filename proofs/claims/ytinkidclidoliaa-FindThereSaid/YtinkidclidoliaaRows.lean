/-
  No cell of these rows narrows 'for every input' (looked for: loops, veiled, ifaces, maps, wideKeys, modest, calm, conditions, laid).
  DERIVED. THE GIVEN ROWS OF THIS SEAT. 10 by the template 'for every input the law returns true; each argument reads behind the call as it read before'; 0 by the template 'total and deterministic' (their statements: YtinkidclidoliaaTotals.lean).
  GIVEN WITH THE SEED: the statements are not yours to turn. If you find one false, say at which input.
  Laid BY PROGRAM, IN A SANDBOX (cutbox-rows.mjs): the forced cells as the released guide's own fill.sh prints them over the translation 9c4aa26e09207079… (all of the seat's roots in one cut). By AI agents, Wed Nov 11 2026. No macro, syntax, notation, axiom, sorry.
-/
import Derived.Test.YtinkidclidoliaaChecked
import GoSem.Claim
import GoSem.ClaimJoined
import GoSem.ClaimMapViews
import Derived.JoinedTies
import Derived.KernelRfl
namespace Go.Proofs.Ytinkidclidoliaa
/- THE CELL 'sum', in the pinned program and in every row, IS THE sha256 OF THE DUMP (.gsa) THAT YtinkidclidoliaaProg.lean LOADS. Nothing in Lean hashes anything: it is a label: what it is worth is what the hold of that sum in a sandbox is worth. -/
noncomputable def Try.pinned : Pinned := { name := "ytinkidclidoliaa", sum := "9c4aa26e09207079f743a102946c4374a94077ea15332e120628a78336bc06e3", checked := Try.checked }
namespace Rows
def none {H : Type} : Left H := { results := [], args := [] }

/-- 'turnstilelaw12.FindMost': WHATEVER THE INPUT: true; the input reads as it did. -/
def findMostSpec : ChangeSpec := { name := "findMost", fn := fun _ => fun
  | [d1, d2, d3, d4] => { results := [.lit (.bool true)], args := [d1, d2, d3, d4] }
  | _ => none }
def findMostRow : OpenClaim := { program := "ytinkidclidoliaa", sum := "9c4aa26e09207079f743a102946c4374a94077ea15332e120628a78336bc06e3", func := "turnstile/turnstilelaw12.FindMost", spec := "findMost", unfollowed := true, recurses := true, plainKeys := false, apart := false }
def FindMostSaid : Prop := findMostRow.holds Try.pinned (OpenSpec.ofChange findMostSpec)

/-- ITS FALSE NEIGHBOUR: 'it returns false'. Refute it at one input. -/
def findMostWrong : ChangeSpec := { name := "findMost", fn := fun _ => fun
  | [d1, d2, d3, d4] => { results := [.lit (.bool false)], args := [d1, d2, d3, d4] }
  | _ => none }
def FindMostWrongFalsely : Prop := findMostRow.holds Try.pinned (OpenSpec.ofChange findMostWrong)

/-- 'turnstilelaw12.FindSpecific': WHATEVER THE INPUT: true; the input reads as it did. -/
def findSpecificSpec : ChangeSpec := { name := "findSpecific", fn := fun _ => fun
  | [d1, d2, d3] => { results := [.lit (.bool true)], args := [d1, d2, d3] }
  | _ => none }
def findSpecificRow : OpenClaim := { program := "ytinkidclidoliaa", sum := "9c4aa26e09207079f743a102946c4374a94077ea15332e120628a78336bc06e3", func := "turnstile/turnstilelaw12.FindSpecific", spec := "findSpecific", unfollowed := true, recurses := true, plainKeys := false, apart := false }
def FindSpecificSaid : Prop := findSpecificRow.holds Try.pinned (OpenSpec.ofChange findSpecificSpec)

/-- ITS FALSE NEIGHBOUR: 'it returns false'. Refute it at one input. -/
def findSpecificWrong : ChangeSpec := { name := "findSpecific", fn := fun _ => fun
  | [d1, d2, d3] => { results := [.lit (.bool false)], args := [d1, d2, d3] }
  | _ => none }
def FindSpecificWrongFalsely : Prop := findSpecificRow.holds Try.pinned (OpenSpec.ofChange findSpecificWrong)

/-- 'turnstilelaw12.FindNear': WHATEVER THE INPUT: true; the input reads as it did. -/
def findNearSpec : ChangeSpec := { name := "findNear", fn := fun _ => fun
  | [d1, d2, d3, d4] => { results := [.lit (.bool true)], args := [d1, d2, d3, d4] }
  | _ => none }
def findNearRow : OpenClaim := { program := "ytinkidclidoliaa", sum := "9c4aa26e09207079f743a102946c4374a94077ea15332e120628a78336bc06e3", func := "turnstile/turnstilelaw12.FindNear", spec := "findNear", unfollowed := true, recurses := true, plainKeys := false, apart := false }
def FindNearSaid : Prop := findNearRow.holds Try.pinned (OpenSpec.ofChange findNearSpec)

/-- ITS FALSE NEIGHBOUR: 'it returns false'. Refute it at one input. -/
def findNearWrong : ChangeSpec := { name := "findNear", fn := fun _ => fun
  | [d1, d2, d3, d4] => { results := [.lit (.bool false)], args := [d1, d2, d3, d4] }
  | _ => none }
def FindNearWrongFalsely : Prop := findNearRow.holds Try.pinned (OpenSpec.ofChange findNearWrong)

/-- 'turnstilelaw12.FindMembers': WHATEVER THE INPUT: true; the input reads as it did. -/
def findMembersSpec : ChangeSpec := { name := "findMembers", fn := fun _ => fun
  | [d1, d2] => { results := [.lit (.bool true)], args := [d1, d2] }
  | _ => none }
def findMembersRow : OpenClaim := { program := "ytinkidclidoliaa", sum := "9c4aa26e09207079f743a102946c4374a94077ea15332e120628a78336bc06e3", func := "turnstile/turnstilelaw12.FindMembers", spec := "findMembers", unfollowed := true, recurses := true, plainKeys := false, apart := false }
def FindMembersSaid : Prop := findMembersRow.holds Try.pinned (OpenSpec.ofChange findMembersSpec)

/-- ITS FALSE NEIGHBOUR: 'it returns false'. Refute it at one input. -/
def findMembersWrong : ChangeSpec := { name := "findMembers", fn := fun _ => fun
  | [d1, d2] => { results := [.lit (.bool false)], args := [d1, d2] }
  | _ => none }
def FindMembersWrongFalsely : Prop := findMembersRow.holds Try.pinned (OpenSpec.ofChange findMembersWrong)

/-- 'turnstilelaw12.FindThere': WHATEVER THE INPUT: true; the input reads as it did. -/
def findThereSpec : ChangeSpec := { name := "findThere", fn := fun _ => fun
  | [d1, d2] => { results := [.lit (.bool true)], args := [d1, d2] }
  | _ => none }
def findThereRow : OpenClaim := { program := "ytinkidclidoliaa", sum := "9c4aa26e09207079f743a102946c4374a94077ea15332e120628a78336bc06e3", func := "turnstile/turnstilelaw12.FindThere", spec := "findThere", unfollowed := true, recurses := true, plainKeys := false, apart := false }
def FindThereSaid : Prop := findThereRow.holds Try.pinned (OpenSpec.ofChange findThereSpec)

/-- ITS FALSE NEIGHBOUR: 'it returns false'. Refute it at one input. -/
def findThereWrong : ChangeSpec := { name := "findThere", fn := fun _ => fun
  | [d1, d2] => { results := [.lit (.bool false)], args := [d1, d2] }
  | _ => none }
def FindThereWrongFalsely : Prop := findThereRow.holds Try.pinned (OpenSpec.ofChange findThereWrong)

/-- 'turnstilelaw13.ChooseVirtual': WHATEVER THE INPUT: true; the input reads as it did. -/
def chooseVirtualSpec : ChangeSpec := { name := "chooseVirtual", fn := fun _ => fun
  | [d1, d2, d3] => { results := [.lit (.bool true)], args := [d1, d2, d3] }
  | _ => none }
def chooseVirtualRow : OpenClaim := { program := "ytinkidclidoliaa", sum := "9c4aa26e09207079f743a102946c4374a94077ea15332e120628a78336bc06e3", func := "turnstile/turnstilelaw13.ChooseVirtual", spec := "chooseVirtual", unfollowed := true, recurses := true, plainKeys := false, apart := false }
def ChooseVirtualSaid : Prop := chooseVirtualRow.holds Try.pinned (OpenSpec.ofChange chooseVirtualSpec)

/-- ITS FALSE NEIGHBOUR: 'it returns false'. Refute it at one input. -/
def chooseVirtualWrong : ChangeSpec := { name := "chooseVirtual", fn := fun _ => fun
  | [d1, d2, d3] => { results := [.lit (.bool false)], args := [d1, d2, d3] }
  | _ => none }
def ChooseVirtualWrongFalsely : Prop := chooseVirtualRow.holds Try.pinned (OpenSpec.ofChange chooseVirtualWrong)

/-- 'turnstilelaw13.ChooseReal': WHATEVER THE INPUT: true; the input reads as it did. -/
def chooseRealSpec : ChangeSpec := { name := "chooseReal", fn := fun _ => fun
  | [d1, d2, d3] => { results := [.lit (.bool true)], args := [d1, d2, d3] }
  | _ => none }
def chooseRealRow : OpenClaim := { program := "ytinkidclidoliaa", sum := "9c4aa26e09207079f743a102946c4374a94077ea15332e120628a78336bc06e3", func := "turnstile/turnstilelaw13.ChooseReal", spec := "chooseReal", unfollowed := true, recurses := true, plainKeys := false, apart := false }
def ChooseRealSaid : Prop := chooseRealRow.holds Try.pinned (OpenSpec.ofChange chooseRealSpec)

/-- ITS FALSE NEIGHBOUR: 'it returns false'. Refute it at one input. -/
def chooseRealWrong : ChangeSpec := { name := "chooseReal", fn := fun _ => fun
  | [d1, d2, d3] => { results := [.lit (.bool false)], args := [d1, d2, d3] }
  | _ => none }
def ChooseRealWrongFalsely : Prop := chooseRealRow.holds Try.pinned (OpenSpec.ofChange chooseRealWrong)

/-- 'turnstilelaw13.ChooseNear': WHATEVER THE INPUT: true; the input reads as it did. -/
def chooseNearSpec : ChangeSpec := { name := "chooseNear", fn := fun _ => fun
  | [d1, d2, d3] => { results := [.lit (.bool true)], args := [d1, d2, d3] }
  | _ => none }
def chooseNearRow : OpenClaim := { program := "ytinkidclidoliaa", sum := "9c4aa26e09207079f743a102946c4374a94077ea15332e120628a78336bc06e3", func := "turnstile/turnstilelaw13.ChooseNear", spec := "chooseNear", unfollowed := true, recurses := true, plainKeys := false, apart := false }
def ChooseNearSaid : Prop := chooseNearRow.holds Try.pinned (OpenSpec.ofChange chooseNearSpec)

/-- ITS FALSE NEIGHBOUR: 'it returns false'. Refute it at one input. -/
def chooseNearWrong : ChangeSpec := { name := "chooseNear", fn := fun _ => fun
  | [d1, d2, d3] => { results := [.lit (.bool false)], args := [d1, d2, d3] }
  | _ => none }
def ChooseNearWrongFalsely : Prop := chooseNearRow.holds Try.pinned (OpenSpec.ofChange chooseNearWrong)

/-- 'turnstilelaw13.ChooseSpecial': WHATEVER THE INPUT: true; the input reads as it did. -/
def chooseSpecialSpec : ChangeSpec := { name := "chooseSpecial", fn := fun _ => fun
  | [d1, d2, d3] => { results := [.lit (.bool true)], args := [d1, d2, d3] }
  | _ => none }
def chooseSpecialRow : OpenClaim := { program := "ytinkidclidoliaa", sum := "9c4aa26e09207079f743a102946c4374a94077ea15332e120628a78336bc06e3", func := "turnstile/turnstilelaw13.ChooseSpecial", spec := "chooseSpecial", unfollowed := true, recurses := true, plainKeys := false, apart := false }
def ChooseSpecialSaid : Prop := chooseSpecialRow.holds Try.pinned (OpenSpec.ofChange chooseSpecialSpec)

/-- ITS FALSE NEIGHBOUR: 'it returns false'. Refute it at one input. -/
def chooseSpecialWrong : ChangeSpec := { name := "chooseSpecial", fn := fun _ => fun
  | [d1, d2, d3] => { results := [.lit (.bool false)], args := [d1, d2, d3] }
  | _ => none }
def ChooseSpecialWrongFalsely : Prop := chooseSpecialRow.holds Try.pinned (OpenSpec.ofChange chooseSpecialWrong)

/-- 'turnstilelaw13.ChooseAbove': WHATEVER THE INPUT: true; the input reads as it did. -/
def chooseAboveSpec : ChangeSpec := { name := "chooseAbove", fn := fun _ => fun
  | [d1, d2, d3, d4] => { results := [.lit (.bool true)], args := [d1, d2, d3, d4] }
  | _ => none }
def chooseAboveRow : OpenClaim := { program := "ytinkidclidoliaa", sum := "9c4aa26e09207079f743a102946c4374a94077ea15332e120628a78336bc06e3", func := "turnstile/turnstilelaw13.ChooseAbove", spec := "chooseAbove", unfollowed := true, recurses := true, plainKeys := false, apart := false }
def ChooseAboveSaid : Prop := chooseAboveRow.holds Try.pinned (OpenSpec.ofChange chooseAboveSpec)

/-- ITS FALSE NEIGHBOUR: 'it returns false'. Refute it at one input. -/
def chooseAboveWrong : ChangeSpec := { name := "chooseAbove", fn := fun _ => fun
  | [d1, d2, d3, d4] => { results := [.lit (.bool false)], args := [d1, d2, d3, d4] }
  | _ => none }
def ChooseAboveWrongFalsely : Prop := chooseAboveRow.holds Try.pinned (OpenSpec.ofChange chooseAboveWrong)

/- THE SECOND FORM. 'bulk': how many values and letters a reading holds, each counted each time it is reached (what is shared counts as often as it is met; a slice's spare places count too). A statement '..UptoSaid' is the law's where the arguments, and the package variables that the reading takes, are together of bulk at most 1048576: NARROWER than '..Said'. Prove '..Said' where nothing that the law and all that it calls make is longer than what came in: it says more and counts as full. Else prove '..UptoSaid'. A law counts once. -/
mutual
def uptoBulk {H : Type} : DataW H → Nat
  | .lit (.string bytes) => bytes.length + 1
  | .lit _ => 1
  | .nil => 1
  | .ptr d => uptoBulk d + 1
  | .slice elems spare => uptoBulkAll elems + uptoBulkAll spare + 1
  | .agg parts => uptoBulkAll parts + 1
  | .iface _ d => uptoBulk d + 1
  | .map entries => uptoBulkEntries entries + 1
  | .held _ => 1
def uptoBulkAll {H : Type} : List (DataW H) → Nat
  | [] => 0
  | d :: r => uptoBulk d + uptoBulkAll r
def uptoBulkEntries {H : Type} : List (Lit × DataW H) → Nat
  | [] => 0
  | x :: r => uptoBulkEntry x + uptoBulkEntries r
def uptoBulkEntry {H : Type} : Lit × DataW H → Nat
  | (.string bytes, d) => bytes.length + uptoBulk d + 1
  | (_, d) => uptoBulk d + 1
 end
def uptoSmall : (H : Type) → List (DataW H) → Bool := fun _ ds => decide (uptoBulkAll ds ≤ 1048576)
def OpenSpec.upto (s : _root_.Go.ChangeSpec) : _root_.Go.OpenSpec := { _root_.Go.OpenSpec.ofChange s with cond := some uptoSmall }

/-- 'turnstilelaw12.FindMost', WHERE WHAT IT READS IS OF BULK AT MOST 1048576: true; the input reads as it did. -/
def findMostUptoRow : OpenClaim := { program := "ytinkidclidoliaa", sum := "9c4aa26e09207079f743a102946c4374a94077ea15332e120628a78336bc06e3", func := "turnstile/turnstilelaw12.FindMost", spec := "findMost", unfollowed := true, recurses := true, plainKeys := false, apart := false, narrowed := true }
def FindMostUptoSaid : Prop := findMostUptoRow.holds Try.pinned (OpenSpec.upto findMostSpec)

/-- 'turnstilelaw12.FindSpecific', WHERE WHAT IT READS IS OF BULK AT MOST 1048576: true; the input reads as it did. -/
def findSpecificUptoRow : OpenClaim := { program := "ytinkidclidoliaa", sum := "9c4aa26e09207079f743a102946c4374a94077ea15332e120628a78336bc06e3", func := "turnstile/turnstilelaw12.FindSpecific", spec := "findSpecific", unfollowed := true, recurses := true, plainKeys := false, apart := false, narrowed := true }
def FindSpecificUptoSaid : Prop := findSpecificUptoRow.holds Try.pinned (OpenSpec.upto findSpecificSpec)

/-- 'turnstilelaw12.FindNear', WHERE WHAT IT READS IS OF BULK AT MOST 1048576: true; the input reads as it did. -/
def findNearUptoRow : OpenClaim := { program := "ytinkidclidoliaa", sum := "9c4aa26e09207079f743a102946c4374a94077ea15332e120628a78336bc06e3", func := "turnstile/turnstilelaw12.FindNear", spec := "findNear", unfollowed := true, recurses := true, plainKeys := false, apart := false, narrowed := true }
def FindNearUptoSaid : Prop := findNearUptoRow.holds Try.pinned (OpenSpec.upto findNearSpec)

/-- 'turnstilelaw12.FindMembers', WHERE WHAT IT READS IS OF BULK AT MOST 1048576: true; the input reads as it did. -/
def findMembersUptoRow : OpenClaim := { program := "ytinkidclidoliaa", sum := "9c4aa26e09207079f743a102946c4374a94077ea15332e120628a78336bc06e3", func := "turnstile/turnstilelaw12.FindMembers", spec := "findMembers", unfollowed := true, recurses := true, plainKeys := false, apart := false, narrowed := true }
def FindMembersUptoSaid : Prop := findMembersUptoRow.holds Try.pinned (OpenSpec.upto findMembersSpec)

/-- 'turnstilelaw12.FindThere', WHERE WHAT IT READS IS OF BULK AT MOST 1048576: true; the input reads as it did. -/
def findThereUptoRow : OpenClaim := { program := "ytinkidclidoliaa", sum := "9c4aa26e09207079f743a102946c4374a94077ea15332e120628a78336bc06e3", func := "turnstile/turnstilelaw12.FindThere", spec := "findThere", unfollowed := true, recurses := true, plainKeys := false, apart := false, narrowed := true }
def FindThereUptoSaid : Prop := findThereUptoRow.holds Try.pinned (OpenSpec.upto findThereSpec)

/-- 'turnstilelaw13.ChooseVirtual', WHERE WHAT IT READS IS OF BULK AT MOST 1048576: true; the input reads as it did. -/
def chooseVirtualUptoRow : OpenClaim := { program := "ytinkidclidoliaa", sum := "9c4aa26e09207079f743a102946c4374a94077ea15332e120628a78336bc06e3", func := "turnstile/turnstilelaw13.ChooseVirtual", spec := "chooseVirtual", unfollowed := true, recurses := true, plainKeys := false, apart := false, narrowed := true }
def ChooseVirtualUptoSaid : Prop := chooseVirtualUptoRow.holds Try.pinned (OpenSpec.upto chooseVirtualSpec)

/-- 'turnstilelaw13.ChooseReal', WHERE WHAT IT READS IS OF BULK AT MOST 1048576: true; the input reads as it did. -/
def chooseRealUptoRow : OpenClaim := { program := "ytinkidclidoliaa", sum := "9c4aa26e09207079f743a102946c4374a94077ea15332e120628a78336bc06e3", func := "turnstile/turnstilelaw13.ChooseReal", spec := "chooseReal", unfollowed := true, recurses := true, plainKeys := false, apart := false, narrowed := true }
def ChooseRealUptoSaid : Prop := chooseRealUptoRow.holds Try.pinned (OpenSpec.upto chooseRealSpec)

/-- 'turnstilelaw13.ChooseNear', WHERE WHAT IT READS IS OF BULK AT MOST 1048576: true; the input reads as it did. -/
def chooseNearUptoRow : OpenClaim := { program := "ytinkidclidoliaa", sum := "9c4aa26e09207079f743a102946c4374a94077ea15332e120628a78336bc06e3", func := "turnstile/turnstilelaw13.ChooseNear", spec := "chooseNear", unfollowed := true, recurses := true, plainKeys := false, apart := false, narrowed := true }
def ChooseNearUptoSaid : Prop := chooseNearUptoRow.holds Try.pinned (OpenSpec.upto chooseNearSpec)

/-- 'turnstilelaw13.ChooseSpecial', WHERE WHAT IT READS IS OF BULK AT MOST 1048576: true; the input reads as it did. -/
def chooseSpecialUptoRow : OpenClaim := { program := "ytinkidclidoliaa", sum := "9c4aa26e09207079f743a102946c4374a94077ea15332e120628a78336bc06e3", func := "turnstile/turnstilelaw13.ChooseSpecial", spec := "chooseSpecial", unfollowed := true, recurses := true, plainKeys := false, apart := false, narrowed := true }
def ChooseSpecialUptoSaid : Prop := chooseSpecialUptoRow.holds Try.pinned (OpenSpec.upto chooseSpecialSpec)

/-- 'turnstilelaw13.ChooseAbove', WHERE WHAT IT READS IS OF BULK AT MOST 1048576: true; the input reads as it did. -/
def chooseAboveUptoRow : OpenClaim := { program := "ytinkidclidoliaa", sum := "9c4aa26e09207079f743a102946c4374a94077ea15332e120628a78336bc06e3", func := "turnstile/turnstilelaw13.ChooseAbove", spec := "chooseAbove", unfollowed := true, recurses := true, plainKeys := false, apart := false, narrowed := true }
def ChooseAboveUptoSaid : Prop := chooseAboveUptoRow.holds Try.pinned (OpenSpec.upto chooseAboveSpec)

end Rows
end Go.Proofs.Ytinkidclidoliaa
