/-
  No cell of these rows narrows 'for every input' (looked for: loops, veiled, ifaces, maps, wideKeys, modest, calm, conditions, laid).
  DERIVED. THE GIVEN ROWS OF THIS SEAT. 5 by the template 'for every input the law returns true; each argument reads behind the call as it read before'; 0 by the template 'total and deterministic' (their statements: YteblpdcedlaedaaTotals.lean).
  GIVEN WITH THE SEED: the statements are not yours to turn. If you find one false, say at which input.
  Laid BY PROGRAM, IN A SANDBOX (cutbox-rows.mjs): the forced cells as the released guide's own fill.sh prints them over the translation ec24063bc403c36a… (all of the seat's roots in one cut). By AI agents, Wed Nov 11 2026. No macro, syntax, notation, axiom, sorry.
-/
import Derived.Test.YteblpdcedlaedaaChecked
import GoSem.Claim
import GoSem.ClaimJoined
import GoSem.ClaimMapViews
import Derived.JoinedTies
import Derived.KernelRfl
namespace Go.Proofs.Yteblpdcedlaedaa
/- THE CELL 'sum', in the pinned program and in every row, IS THE sha256 OF THE DUMP (.gsa) THAT YteblpdcedlaedaaProg.lean LOADS. Nothing in Lean hashes anything: it is a label: what it is worth is what the hold of that sum in a sandbox is worth. -/
noncomputable def Try.pinned : Pinned := { name := "yteblpdcedlaedaa", sum := "ec24063bc403c36a01f1c2198e43b9ea592c5d2ef66758b75051559d292b06da", checked := Try.checked }
namespace Rows
def none {H : Type} : Left H := { results := [], args := [] }

/-- 'turnstilelaw13.ChooseVirtual': WHATEVER THE INPUT: true; the input reads as it did. -/
def chooseVirtualSpec : ChangeSpec := { name := "chooseVirtual", fn := fun _ => fun
  | [d1, d2, d3] => { results := [.lit (.bool true)], args := [d1, d2, d3] }
  | _ => none }
def chooseVirtualRow : OpenClaim := { program := "yteblpdcedlaedaa", sum := "ec24063bc403c36a01f1c2198e43b9ea592c5d2ef66758b75051559d292b06da", func := "turnstile/turnstilelaw13.ChooseVirtual", spec := "chooseVirtual", unfollowed := true, recurses := true, apart := false }
def ChooseVirtualSaid : Prop := chooseVirtualRow.holds Try.pinned (OpenSpec.ofChange chooseVirtualSpec)

/-- ITS FALSE NEIGHBOUR: 'it returns false'. Refute it at one input. -/
def chooseVirtualWrong : ChangeSpec := { name := "chooseVirtual", fn := fun _ => fun
  | [d1, d2, d3] => { results := [.lit (.bool false)], args := [d1, d2, d3] }
  | _ => none }
def ChooseVirtualWrongFalsely : Prop := chooseVirtualRow.holds Try.pinned (OpenSpec.ofChange chooseVirtualWrong)

/-- 'turnstilelaw13.ChooseReal': WHATEVER THE INPUT: true; the input reads as it did. -/
def chooseRealSpec : ChangeSpec := { name := "chooseReal", fn := fun _ => fun
  | [d1, d2, d3] => { results := [.lit (.bool true)], args := [d1, d2, d3] }
  | _ => none }
def chooseRealRow : OpenClaim := { program := "yteblpdcedlaedaa", sum := "ec24063bc403c36a01f1c2198e43b9ea592c5d2ef66758b75051559d292b06da", func := "turnstile/turnstilelaw13.ChooseReal", spec := "chooseReal", unfollowed := true, recurses := true, apart := false }
def ChooseRealSaid : Prop := chooseRealRow.holds Try.pinned (OpenSpec.ofChange chooseRealSpec)

/-- ITS FALSE NEIGHBOUR: 'it returns false'. Refute it at one input. -/
def chooseRealWrong : ChangeSpec := { name := "chooseReal", fn := fun _ => fun
  | [d1, d2, d3] => { results := [.lit (.bool false)], args := [d1, d2, d3] }
  | _ => none }
def ChooseRealWrongFalsely : Prop := chooseRealRow.holds Try.pinned (OpenSpec.ofChange chooseRealWrong)

/-- 'turnstilelaw13.ChooseNear': WHATEVER THE INPUT: true; the input reads as it did. -/
def chooseNearSpec : ChangeSpec := { name := "chooseNear", fn := fun _ => fun
  | [d1, d2, d3] => { results := [.lit (.bool true)], args := [d1, d2, d3] }
  | _ => none }
def chooseNearRow : OpenClaim := { program := "yteblpdcedlaedaa", sum := "ec24063bc403c36a01f1c2198e43b9ea592c5d2ef66758b75051559d292b06da", func := "turnstile/turnstilelaw13.ChooseNear", spec := "chooseNear", unfollowed := true, recurses := true, apart := false }
def ChooseNearSaid : Prop := chooseNearRow.holds Try.pinned (OpenSpec.ofChange chooseNearSpec)

/-- ITS FALSE NEIGHBOUR: 'it returns false'. Refute it at one input. -/
def chooseNearWrong : ChangeSpec := { name := "chooseNear", fn := fun _ => fun
  | [d1, d2, d3] => { results := [.lit (.bool false)], args := [d1, d2, d3] }
  | _ => none }
def ChooseNearWrongFalsely : Prop := chooseNearRow.holds Try.pinned (OpenSpec.ofChange chooseNearWrong)

/-- 'turnstilelaw13.ChooseSpecial': WHATEVER THE INPUT: true; the input reads as it did. -/
def chooseSpecialSpec : ChangeSpec := { name := "chooseSpecial", fn := fun _ => fun
  | [d1, d2, d3] => { results := [.lit (.bool true)], args := [d1, d2, d3] }
  | _ => none }
def chooseSpecialRow : OpenClaim := { program := "yteblpdcedlaedaa", sum := "ec24063bc403c36a01f1c2198e43b9ea592c5d2ef66758b75051559d292b06da", func := "turnstile/turnstilelaw13.ChooseSpecial", spec := "chooseSpecial", unfollowed := true, recurses := true, apart := false }
def ChooseSpecialSaid : Prop := chooseSpecialRow.holds Try.pinned (OpenSpec.ofChange chooseSpecialSpec)

/-- ITS FALSE NEIGHBOUR: 'it returns false'. Refute it at one input. -/
def chooseSpecialWrong : ChangeSpec := { name := "chooseSpecial", fn := fun _ => fun
  | [d1, d2, d3] => { results := [.lit (.bool false)], args := [d1, d2, d3] }
  | _ => none }
def ChooseSpecialWrongFalsely : Prop := chooseSpecialRow.holds Try.pinned (OpenSpec.ofChange chooseSpecialWrong)

/-- 'turnstilelaw13.ChooseAbove': WHATEVER THE INPUT: true; the input reads as it did. -/
def chooseAboveSpec : ChangeSpec := { name := "chooseAbove", fn := fun _ => fun
  | [d1, d2, d3, d4] => { results := [.lit (.bool true)], args := [d1, d2, d3, d4] }
  | _ => none }
def chooseAboveRow : OpenClaim := { program := "yteblpdcedlaedaa", sum := "ec24063bc403c36a01f1c2198e43b9ea592c5d2ef66758b75051559d292b06da", func := "turnstile/turnstilelaw13.ChooseAbove", spec := "chooseAbove", unfollowed := true, recurses := true, apart := false }
def ChooseAboveSaid : Prop := chooseAboveRow.holds Try.pinned (OpenSpec.ofChange chooseAboveSpec)

/-- ITS FALSE NEIGHBOUR: 'it returns false'. Refute it at one input. -/
def chooseAboveWrong : ChangeSpec := { name := "chooseAbove", fn := fun _ => fun
  | [d1, d2, d3, d4] => { results := [.lit (.bool false)], args := [d1, d2, d3, d4] }
  | _ => none }
def ChooseAboveWrongFalsely : Prop := chooseAboveRow.holds Try.pinned (OpenSpec.ofChange chooseAboveWrong)

/- THE SECOND FORM. 'bulk': how many values and letters a reading holds, each counted each time it is reached (what is shared counts as often as it is met; a slice's spare places count too). A statement '..UptoSaid' is the law's where the arguments, and the package variables that the reading takes, are together of bulk at most 1048576: NARROWER than '..Said'. Prove '..Said' where nothing that the law and all that it calls make is longer than what came in: it says more and counts as full. Else prove '..UptoSaid'. A law counts once. -/
mutual
def uptoBulk {H : Type} : DataW H → Nat
  | .lit (.string bytes) => bytes.length + 1
  | .lit _ => 1
  | .nil => 1
  | .ptr d => uptoBulk d + 1
  | .slice elems spare => uptoBulkAll elems + uptoBulkAll spare + 1
  | .agg parts => uptoBulkAll parts + 1
  | .iface _ d => uptoBulk d + 1
  | .map entries => uptoBulkEntries entries + 1
  | .held _ => 1
def uptoBulkAll {H : Type} : List (DataW H) → Nat
  | [] => 0
  | d :: r => uptoBulk d + uptoBulkAll r
def uptoBulkEntries {H : Type} : List (Lit × DataW H) → Nat
  | [] => 0
  | x :: r => uptoBulkEntry x + uptoBulkEntries r
def uptoBulkEntry {H : Type} : Lit × DataW H → Nat
  | (.string bytes, d) => bytes.length + uptoBulk d + 1
  | (_, d) => uptoBulk d + 1
 end
def uptoSmall : (H : Type) → List (DataW H) → Bool := fun _ ds => decide (uptoBulkAll ds ≤ 1048576)
def OpenSpec.upto (s : _root_.Go.ChangeSpec) : _root_.Go.OpenSpec := { _root_.Go.OpenSpec.ofChange s with cond := some uptoSmall }

/-- 'turnstilelaw13.ChooseVirtual', WHERE WHAT IT READS IS OF BULK AT MOST 1048576: true; the input reads as it did. -/
def chooseVirtualUptoRow : OpenClaim := { program := "yteblpdcedlaedaa", sum := "ec24063bc403c36a01f1c2198e43b9ea592c5d2ef66758b75051559d292b06da", func := "turnstile/turnstilelaw13.ChooseVirtual", spec := "chooseVirtual", unfollowed := true, recurses := true, apart := false, narrowed := true }
def ChooseVirtualUptoSaid : Prop := chooseVirtualUptoRow.holds Try.pinned (OpenSpec.upto chooseVirtualSpec)

/-- 'turnstilelaw13.ChooseReal', WHERE WHAT IT READS IS OF BULK AT MOST 1048576: true; the input reads as it did. -/
def chooseRealUptoRow : OpenClaim := { program := "yteblpdcedlaedaa", sum := "ec24063bc403c36a01f1c2198e43b9ea592c5d2ef66758b75051559d292b06da", func := "turnstile/turnstilelaw13.ChooseReal", spec := "chooseReal", unfollowed := true, recurses := true, apart := false, narrowed := true }
def ChooseRealUptoSaid : Prop := chooseRealUptoRow.holds Try.pinned (OpenSpec.upto chooseRealSpec)

/-- 'turnstilelaw13.ChooseNear', WHERE WHAT IT READS IS OF BULK AT MOST 1048576: true; the input reads as it did. -/
def chooseNearUptoRow : OpenClaim := { program := "yteblpdcedlaedaa", sum := "ec24063bc403c36a01f1c2198e43b9ea592c5d2ef66758b75051559d292b06da", func := "turnstile/turnstilelaw13.ChooseNear", spec := "chooseNear", unfollowed := true, recurses := true, apart := false, narrowed := true }
def ChooseNearUptoSaid : Prop := chooseNearUptoRow.holds Try.pinned (OpenSpec.upto chooseNearSpec)

/-- 'turnstilelaw13.ChooseSpecial', WHERE WHAT IT READS IS OF BULK AT MOST 1048576: true; the input reads as it did. -/
def chooseSpecialUptoRow : OpenClaim := { program := "yteblpdcedlaedaa", sum := "ec24063bc403c36a01f1c2198e43b9ea592c5d2ef66758b75051559d292b06da", func := "turnstile/turnstilelaw13.ChooseSpecial", spec := "chooseSpecial", unfollowed := true, recurses := true, apart := false, narrowed := true }
def ChooseSpecialUptoSaid : Prop := chooseSpecialUptoRow.holds Try.pinned (OpenSpec.upto chooseSpecialSpec)

/-- 'turnstilelaw13.ChooseAbove', WHERE WHAT IT READS IS OF BULK AT MOST 1048576: true; the input reads as it did. -/
def chooseAboveUptoRow : OpenClaim := { program := "yteblpdcedlaedaa", sum := "ec24063bc403c36a01f1c2198e43b9ea592c5d2ef66758b75051559d292b06da", func := "turnstile/turnstilelaw13.ChooseAbove", spec := "chooseAbove", unfollowed := true, recurses := true, apart := false, narrowed := true }
def ChooseAboveUptoSaid : Prop := chooseAboveUptoRow.holds Try.pinned (OpenSpec.upto chooseAboveSpec)

end Rows
end Go.Proofs.Yteblpdcedlaedaa
