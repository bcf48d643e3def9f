/-
  No cell of these rows narrows 'for every input' (looked for: loops, veiled, ifaces, maps, wideKeys, modest, calm, conditions, laid).
  DERIVED. THE GIVEN ROWS OF THIS SEAT. 4 by the template 'for every input the law returns true; each argument reads behind the call as it read before'; 0 by the template 'total and deterministic' (their statements: YtdgpnfjneioahaaTotals.lean).
  GIVEN WITH THE SEED: the statements are not yours to turn. If you find one false, say at which input.
  Laid BY PROGRAM, IN A SANDBOX (cutbox-rows.mjs): the forced cells as the released guide's own fill.sh prints them over the translation c9251e4594ae6fa9… (all of the seat's roots in one cut). By AI agents, Wed Nov 11 2026. No macro, syntax, notation, axiom, sorry.
-/
import Derived.Test.YtdgpnfjneioahaaChecked
import GoSem.Claim
import GoSem.ClaimJoined
import GoSem.ClaimMapViews
import Derived.JoinedTies
import Derived.KernelRfl
namespace Go.Proofs.Ytdgpnfjneioahaa
/- THE CELL 'sum', in the pinned program and in every row, IS THE sha256 OF THE DUMP (.gsa) THAT YtdgpnfjneioahaaProg.lean LOADS. Nothing in Lean hashes anything: it is a label: what it is worth is what the hold of that sum in a sandbox is worth. -/
noncomputable def Try.pinned : Pinned := { name := "ytdgpnfjneioahaa", sum := "c9251e4594ae6fa9245996a0d92516bb3bb901fecb69e07b40617b525bb96fde", checked := Try.checked }
namespace Rows
def none {H : Type} : Left H := { results := [], args := [] }

/-- 'turnstilelaw2.DescKinds': WHATEVER THE INPUT: true; the input reads as it did. -/
def descKindsSpec : ChangeSpec := { name := "descKinds", fn := fun _ => fun
  | [d] => { results := [.lit (.bool true)], args := [d] }
  | _ => none }
def descKindsRow : OpenClaim := { program := "ytdgpnfjneioahaa", sum := "c9251e4594ae6fa9245996a0d92516bb3bb901fecb69e07b40617b525bb96fde", func := "turnstile/turnstilelaw2.DescKinds", spec := "descKinds", inPlace := ["internal/bytealg.IndexByteString", "internal/bytealg.IndexString"], unfollowed := true, recurses := true, named := ["internal/bytealg.MaxLen"], apart := false }
def DescKindsSaid : Prop := descKindsRow.holds Try.pinned (OpenSpec.ofChange descKindsSpec)

/-- ITS FALSE NEIGHBOUR: 'it returns false'. Refute it at one input. -/
def descKindsWrong : ChangeSpec := { name := "descKinds", fn := fun _ => fun
  | [d] => { results := [.lit (.bool false)], args := [d] }
  | _ => none }
def DescKindsWrongFalsely : Prop := descKindsRow.holds Try.pinned (OpenSpec.ofChange descKindsWrong)

/-- 'turnstilelaw2.DescLong': WHATEVER THE INPUT: true; the input reads as it did. -/
def descLongSpec : ChangeSpec := { name := "descLong", fn := fun _ => fun
  | [d] => { results := [.lit (.bool true)], args := [d] }
  | _ => none }
def descLongRow : OpenClaim := { program := "ytdgpnfjneioahaa", sum := "c9251e4594ae6fa9245996a0d92516bb3bb901fecb69e07b40617b525bb96fde", func := "turnstile/turnstilelaw2.DescLong", spec := "descLong", inPlace := ["internal/bytealg.IndexByteString", "internal/bytealg.IndexString"], unfollowed := true, recurses := true, named := ["internal/bytealg.MaxLen"], apart := false }
def DescLongSaid : Prop := descLongRow.holds Try.pinned (OpenSpec.ofChange descLongSpec)

/-- ITS FALSE NEIGHBOUR: 'it returns false'. Refute it at one input. -/
def descLongWrong : ChangeSpec := { name := "descLong", fn := fun _ => fun
  | [d] => { results := [.lit (.bool false)], args := [d] }
  | _ => none }
def DescLongWrongFalsely : Prop := descLongRow.holds Try.pinned (OpenSpec.ofChange descLongWrong)

/-- 'turnstilelaw2.DescBytes': WHATEVER THE INPUT: true; the input reads as it did. -/
def descBytesSpec : ChangeSpec := { name := "descBytes", fn := fun _ => fun
  | [d] => { results := [.lit (.bool true)], args := [d] }
  | _ => none }
def descBytesRow : OpenClaim := { program := "ytdgpnfjneioahaa", sum := "c9251e4594ae6fa9245996a0d92516bb3bb901fecb69e07b40617b525bb96fde", func := "turnstile/turnstilelaw2.DescBytes", spec := "descBytes", inPlace := ["internal/bytealg.IndexByteString", "internal/bytealg.IndexString"], unfollowed := true, recurses := true, named := ["internal/bytealg.MaxLen"], apart := false }
def DescBytesSaid : Prop := descBytesRow.holds Try.pinned (OpenSpec.ofChange descBytesSpec)

/-- ITS FALSE NEIGHBOUR: 'it returns false'. Refute it at one input. -/
def descBytesWrong : ChangeSpec := { name := "descBytes", fn := fun _ => fun
  | [d] => { results := [.lit (.bool false)], args := [d] }
  | _ => none }
def DescBytesWrongFalsely : Prop := descBytesRow.holds Try.pinned (OpenSpec.ofChange descBytesWrong)

/-- 'turnstilelaw2.DescNames': WHATEVER THE INPUT: true; the input reads as it did. -/
def descNamesSpec : ChangeSpec := { name := "descNames", fn := fun _ => fun
  | [d] => { results := [.lit (.bool true)], args := [d] }
  | _ => none }
def descNamesRow : OpenClaim := { program := "ytdgpnfjneioahaa", sum := "c9251e4594ae6fa9245996a0d92516bb3bb901fecb69e07b40617b525bb96fde", func := "turnstile/turnstilelaw2.DescNames", spec := "descNames", inPlace := ["internal/bytealg.IndexByteString", "internal/bytealg.IndexString"], unfollowed := true, recurses := true, named := ["internal/bytealg.MaxLen"], apart := false }
def DescNamesSaid : Prop := descNamesRow.holds Try.pinned (OpenSpec.ofChange descNamesSpec)

/-- ITS FALSE NEIGHBOUR: 'it returns false'. Refute it at one input. -/
def descNamesWrong : ChangeSpec := { name := "descNames", fn := fun _ => fun
  | [d] => { results := [.lit (.bool false)], args := [d] }
  | _ => none }
def DescNamesWrongFalsely : Prop := descNamesRow.holds Try.pinned (OpenSpec.ofChange descNamesWrong)

/- THE SECOND FORM. 'bulk': how many values and letters a reading holds, each counted each time it is reached (what is shared counts as often as it is met; a slice's spare places count too). A statement '..UptoSaid' is the law's where the arguments, and the package variables that the reading takes, are together of bulk at most 1048576: NARROWER than '..Said'. Prove '..Said' where nothing that the law and all that it calls make is longer than what came in: it says more and counts as full. Else prove '..UptoSaid'. A law counts once. -/
mutual
def uptoBulk {H : Type} : DataW H → Nat
  | .lit (.string bytes) => bytes.length + 1
  | .lit _ => 1
  | .nil => 1
  | .ptr d => uptoBulk d + 1
  | .slice elems spare => uptoBulkAll elems + uptoBulkAll spare + 1
  | .agg parts => uptoBulkAll parts + 1
  | .iface _ d => uptoBulk d + 1
  | .map entries => uptoBulkEntries entries + 1
  | .held _ => 1
def uptoBulkAll {H : Type} : List (DataW H) → Nat
  | [] => 0
  | d :: r => uptoBulk d + uptoBulkAll r
def uptoBulkEntries {H : Type} : List (Lit × DataW H) → Nat
  | [] => 0
  | x :: r => uptoBulkEntry x + uptoBulkEntries r
def uptoBulkEntry {H : Type} : Lit × DataW H → Nat
  | (.string bytes, d) => bytes.length + uptoBulk d + 1
  | (_, d) => uptoBulk d + 1
 end
def uptoSmall : (H : Type) → List (DataW H) → Bool := fun _ ds => decide (uptoBulkAll ds ≤ 1048576)
def OpenSpec.upto (s : _root_.Go.ChangeSpec) : _root_.Go.OpenSpec := { _root_.Go.OpenSpec.ofChange s with cond := some uptoSmall }

/-- 'turnstilelaw2.DescKinds', WHERE WHAT IT READS IS OF BULK AT MOST 1048576: true; the input reads as it did. -/
def descKindsUptoRow : OpenClaim := { program := "ytdgpnfjneioahaa", sum := "c9251e4594ae6fa9245996a0d92516bb3bb901fecb69e07b40617b525bb96fde", func := "turnstile/turnstilelaw2.DescKinds", spec := "descKinds", inPlace := ["internal/bytealg.IndexByteString", "internal/bytealg.IndexString"], unfollowed := true, recurses := true, named := ["internal/bytealg.MaxLen"], apart := false, narrowed := true }
def DescKindsUptoSaid : Prop := descKindsUptoRow.holds Try.pinned (OpenSpec.upto descKindsSpec)

/-- 'turnstilelaw2.DescLong', WHERE WHAT IT READS IS OF BULK AT MOST 1048576: true; the input reads as it did. -/
def descLongUptoRow : OpenClaim := { program := "ytdgpnfjneioahaa", sum := "c9251e4594ae6fa9245996a0d92516bb3bb901fecb69e07b40617b525bb96fde", func := "turnstile/turnstilelaw2.DescLong", spec := "descLong", inPlace := ["internal/bytealg.IndexByteString", "internal/bytealg.IndexString"], unfollowed := true, recurses := true, named := ["internal/bytealg.MaxLen"], apart := false, narrowed := true }
def DescLongUptoSaid : Prop := descLongUptoRow.holds Try.pinned (OpenSpec.upto descLongSpec)

/-- 'turnstilelaw2.DescBytes', WHERE WHAT IT READS IS OF BULK AT MOST 1048576: true; the input reads as it did. -/
def descBytesUptoRow : OpenClaim := { program := "ytdgpnfjneioahaa", sum := "c9251e4594ae6fa9245996a0d92516bb3bb901fecb69e07b40617b525bb96fde", func := "turnstile/turnstilelaw2.DescBytes", spec := "descBytes", inPlace := ["internal/bytealg.IndexByteString", "internal/bytealg.IndexString"], unfollowed := true, recurses := true, named := ["internal/bytealg.MaxLen"], apart := false, narrowed := true }
def DescBytesUptoSaid : Prop := descBytesUptoRow.holds Try.pinned (OpenSpec.upto descBytesSpec)

/-- 'turnstilelaw2.DescNames', WHERE WHAT IT READS IS OF BULK AT MOST 1048576: true; the input reads as it did. -/
def descNamesUptoRow : OpenClaim := { program := "ytdgpnfjneioahaa", sum := "c9251e4594ae6fa9245996a0d92516bb3bb901fecb69e07b40617b525bb96fde", func := "turnstile/turnstilelaw2.DescNames", spec := "descNames", inPlace := ["internal/bytealg.IndexByteString", "internal/bytealg.IndexString"], unfollowed := true, recurses := true, named := ["internal/bytealg.MaxLen"], apart := false, narrowed := true }
def DescNamesUptoSaid : Prop := descNamesUptoRow.holds Try.pinned (OpenSpec.upto descNamesSpec)

end Rows
end Go.Proofs.Ytdgpnfjneioahaa
