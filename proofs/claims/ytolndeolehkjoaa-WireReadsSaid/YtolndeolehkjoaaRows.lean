/-
  No cell of these rows narrows 'for every input' (looked for: loops, veiled, ifaces, maps, wideKeys, modest, calm, conditions, laid).
  DERIVED. THE GIVEN ROWS OF THIS SEAT. 8 by the template 'for every input the law returns true; each argument reads behind the call as it read before'; 0 by the template 'total and deterministic' (their statements: YtolndeolehkjoaaTotals.lean).
  GIVEN WITH THE SEED: the statements are not yours to turn. If you find one false, say at which input.
  Laid BY PROGRAM, IN A SANDBOX (cutbox-rows.mjs): the forced cells as the released guide's own fill.sh prints them over the translation 2f35033fafdc2474… (all of the seat's roots in one cut). By AI agents, Wed Nov 11 2026. No macro, syntax, notation, axiom, sorry.
-/
import Derived.Test.YtolndeolehkjoaaChecked
import GoSem.Claim
import GoSem.ClaimJoined
import GoSem.ClaimMapViews
import Derived.JoinedTies
import Derived.KernelRfl
namespace Go.Proofs.Ytolndeolehkjoaa
/- THE CELL 'sum', in the pinned program and in every row, IS THE sha256 OF THE DUMP (.gsa) THAT YtolndeolehkjoaaProg.lean LOADS. Nothing in Lean hashes anything: it is a label: what it is worth is what the hold of that sum in a sandbox is worth. -/
noncomputable def Try.pinned : Pinned := { name := "ytolndeolehkjoaa", sum := "2f35033fafdc2474bcc3e8269d53936530deba37287724c944f61a7bb2f3d14e", checked := Try.checked }
namespace Rows
def none {H : Type} : Left H := { results := [], args := [] }

/-- 'platbooklaw15.CodecNumbers': WHATEVER THE INPUT: true; the input reads as it did. -/
def codecNumbersSpec : ChangeSpec := { name := "codecNumbers", fn := fun _ => fun
  | [d1, d2] => { results := [.lit (.bool true)], args := [d1, d2] }
  | _ => none }
def codecNumbersRow : OpenClaim := { program := "ytolndeolehkjoaa", sum := "2f35033fafdc2474bcc3e8269d53936530deba37287724c944f61a7bb2f3d14e", func := "platbook/platbooklaw15.CodecNumbers", spec := "codecNumbers", inPlace := ["internal/abi.NoEscape"], unfollowed := true, recurses := true, apart := false }
def CodecNumbersSaid : Prop := codecNumbersRow.holds Try.pinned (OpenSpec.ofChange codecNumbersSpec)

/-- ITS FALSE NEIGHBOUR: 'it returns false'. Refute it at one input. -/
def codecNumbersWrong : ChangeSpec := { name := "codecNumbers", fn := fun _ => fun
  | [d1, d2] => { results := [.lit (.bool false)], args := [d1, d2] }
  | _ => none }
def CodecNumbersWrongFalsely : Prop := codecNumbersRow.holds Try.pinned (OpenSpec.ofChange codecNumbersWrong)

/-- 'platbooklaw15.CodecShort': WHATEVER THE INPUT: true; the input reads as it did. -/
def codecShortSpec : ChangeSpec := { name := "codecShort", fn := fun _ => fun
  | [d1, d2] => { results := [.lit (.bool true)], args := [d1, d2] }
  | _ => none }
def codecShortRow : OpenClaim := { program := "ytolndeolehkjoaa", sum := "2f35033fafdc2474bcc3e8269d53936530deba37287724c944f61a7bb2f3d14e", func := "platbook/platbooklaw15.CodecShort", spec := "codecShort", inPlace := ["internal/abi.NoEscape"], unfollowed := true, recurses := true, apart := false }
def CodecShortSaid : Prop := codecShortRow.holds Try.pinned (OpenSpec.ofChange codecShortSpec)

/-- ITS FALSE NEIGHBOUR: 'it returns false'. Refute it at one input. -/
def codecShortWrong : ChangeSpec := { name := "codecShort", fn := fun _ => fun
  | [d1, d2] => { results := [.lit (.bool false)], args := [d1, d2] }
  | _ => none }
def CodecShortWrongFalsely : Prop := codecShortRow.holds Try.pinned (OpenSpec.ofChange codecShortWrong)

/-- 'platbooklaw15.CodecPacks': WHATEVER THE INPUT: true; the input reads as it did. -/
def codecPacksSpec : ChangeSpec := { name := "codecPacks", fn := fun _ => fun
  | [d1, d2] => { results := [.lit (.bool true)], args := [d1, d2] }
  | _ => none }
def codecPacksRow : OpenClaim := { program := "ytolndeolehkjoaa", sum := "2f35033fafdc2474bcc3e8269d53936530deba37287724c944f61a7bb2f3d14e", func := "platbook/platbooklaw15.CodecPacks", spec := "codecPacks", inPlace := ["internal/abi.NoEscape"], unfollowed := true, recurses := true, apart := false }
def CodecPacksSaid : Prop := codecPacksRow.holds Try.pinned (OpenSpec.ofChange codecPacksSpec)

/-- ITS FALSE NEIGHBOUR: 'it returns false'. Refute it at one input. -/
def codecPacksWrong : ChangeSpec := { name := "codecPacks", fn := fun _ => fun
  | [d1, d2] => { results := [.lit (.bool false)], args := [d1, d2] }
  | _ => none }
def CodecPacksWrongFalsely : Prop := codecPacksRow.holds Try.pinned (OpenSpec.ofChange codecPacksWrong)

/-- 'platbooklaw15.CodecReads': WHATEVER THE INPUT: true; the input reads as it did. -/
def codecReadsSpec : ChangeSpec := { name := "codecReads", fn := fun _ => fun
  | [d] => { results := [.lit (.bool true)], args := [d] }
  | _ => none }
def codecReadsRow : OpenClaim := { program := "ytolndeolehkjoaa", sum := "2f35033fafdc2474bcc3e8269d53936530deba37287724c944f61a7bb2f3d14e", func := "platbook/platbooklaw15.CodecReads", spec := "codecReads", inPlace := ["internal/abi.NoEscape"], unfollowed := true, recurses := true, apart := false }
def CodecReadsSaid : Prop := codecReadsRow.holds Try.pinned (OpenSpec.ofChange codecReadsSpec)

/-- ITS FALSE NEIGHBOUR: 'it returns false'. Refute it at one input. -/
def codecReadsWrong : ChangeSpec := { name := "codecReads", fn := fun _ => fun
  | [d] => { results := [.lit (.bool false)], args := [d] }
  | _ => none }
def CodecReadsWrongFalsely : Prop := codecReadsRow.holds Try.pinned (OpenSpec.ofChange codecReadsWrong)

/-- 'platbooklaw15.CodecLists': WHATEVER THE INPUT: true; the input reads as it did. -/
def codecListsSpec : ChangeSpec := { name := "codecLists", fn := fun _ => fun
  | [d1, d2] => { results := [.lit (.bool true)], args := [d1, d2] }
  | _ => none }
def codecListsRow : OpenClaim := { program := "ytolndeolehkjoaa", sum := "2f35033fafdc2474bcc3e8269d53936530deba37287724c944f61a7bb2f3d14e", func := "platbook/platbooklaw15.CodecLists", spec := "codecLists", inPlace := ["internal/abi.NoEscape"], unfollowed := true, recurses := true, apart := false }
def CodecListsSaid : Prop := codecListsRow.holds Try.pinned (OpenSpec.ofChange codecListsSpec)

/-- ITS FALSE NEIGHBOUR: 'it returns false'. Refute it at one input. -/
def codecListsWrong : ChangeSpec := { name := "codecLists", fn := fun _ => fun
  | [d1, d2] => { results := [.lit (.bool false)], args := [d1, d2] }
  | _ => none }
def CodecListsWrongFalsely : Prop := codecListsRow.holds Try.pinned (OpenSpec.ofChange codecListsWrong)

/-- 'platbooklaw25.WireRequests': WHATEVER THE INPUT: true; the input reads as it did. -/
def wireRequestsSpec : ChangeSpec := { name := "wireRequests", fn := fun _ => fun
  | [d] => { results := [.lit (.bool true)], args := [d] }
  | _ => none }
def wireRequestsRow : OpenClaim := { program := "ytolndeolehkjoaa", sum := "2f35033fafdc2474bcc3e8269d53936530deba37287724c944f61a7bb2f3d14e", func := "platbook/platbooklaw25.WireRequests", spec := "wireRequests", inPlace := ["internal/abi.NoEscape"], unfollowed := true, recurses := true, apart := false }
def WireRequestsSaid : Prop := wireRequestsRow.holds Try.pinned (OpenSpec.ofChange wireRequestsSpec)

/-- ITS FALSE NEIGHBOUR: 'it returns false'. Refute it at one input. -/
def wireRequestsWrong : ChangeSpec := { name := "wireRequests", fn := fun _ => fun
  | [d] => { results := [.lit (.bool false)], args := [d] }
  | _ => none }
def WireRequestsWrongFalsely : Prop := wireRequestsRow.holds Try.pinned (OpenSpec.ofChange wireRequestsWrong)

/-- 'platbooklaw25.WireResponses': WHATEVER THE INPUT: true; the input reads as it did. -/
def wireResponsesSpec : ChangeSpec := { name := "wireResponses", fn := fun _ => fun
  | [d] => { results := [.lit (.bool true)], args := [d] }
  | _ => none }
def wireResponsesRow : OpenClaim := { program := "ytolndeolehkjoaa", sum := "2f35033fafdc2474bcc3e8269d53936530deba37287724c944f61a7bb2f3d14e", func := "platbook/platbooklaw25.WireResponses", spec := "wireResponses", inPlace := ["internal/abi.NoEscape"], unfollowed := true, recurses := true, apart := false }
def WireResponsesSaid : Prop := wireResponsesRow.holds Try.pinned (OpenSpec.ofChange wireResponsesSpec)

/-- ITS FALSE NEIGHBOUR: 'it returns false'. Refute it at one input. -/
def wireResponsesWrong : ChangeSpec := { name := "wireResponses", fn := fun _ => fun
  | [d] => { results := [.lit (.bool false)], args := [d] }
  | _ => none }
def WireResponsesWrongFalsely : Prop := wireResponsesRow.holds Try.pinned (OpenSpec.ofChange wireResponsesWrong)

/-- 'platbooklaw25.WireReads': WHATEVER THE INPUT: true; the input reads as it did. -/
def wireReadsSpec : ChangeSpec := { name := "wireReads", fn := fun _ => fun
  | [d] => { results := [.lit (.bool true)], args := [d] }
  | _ => none }
def wireReadsRow : OpenClaim := { program := "ytolndeolehkjoaa", sum := "2f35033fafdc2474bcc3e8269d53936530deba37287724c944f61a7bb2f3d14e", func := "platbook/platbooklaw25.WireReads", spec := "wireReads", inPlace := ["internal/abi.NoEscape"], unfollowed := true, recurses := true, apart := false }
def WireReadsSaid : Prop := wireReadsRow.holds Try.pinned (OpenSpec.ofChange wireReadsSpec)

/-- ITS FALSE NEIGHBOUR: 'it returns false'. Refute it at one input. -/
def wireReadsWrong : ChangeSpec := { name := "wireReads", fn := fun _ => fun
  | [d] => { results := [.lit (.bool false)], args := [d] }
  | _ => none }
def WireReadsWrongFalsely : Prop := wireReadsRow.holds Try.pinned (OpenSpec.ofChange wireReadsWrong)

/- THE SECOND FORM. 'bulk': how many values and letters a reading holds, each counted each time it is reached (what is shared counts as often as it is met; a slice's spare places count too). A statement '..UptoSaid' is the law's where the arguments, and the package variables that the reading takes, are together of bulk at most 1048576: NARROWER than '..Said'. Prove '..Said' where nothing that the law and all that it calls make is longer than what came in: it says more and counts as full. Else prove '..UptoSaid'. A law counts once. -/
mutual
def uptoBulk {H : Type} : DataW H → Nat
  | .lit (.string bytes) => bytes.length + 1
  | .lit _ => 1
  | .nil => 1
  | .ptr d => uptoBulk d + 1
  | .slice elems spare => uptoBulkAll elems + uptoBulkAll spare + 1
  | .agg parts => uptoBulkAll parts + 1
  | .iface _ d => uptoBulk d + 1
  | .map entries => uptoBulkEntries entries + 1
  | .held _ => 1
def uptoBulkAll {H : Type} : List (DataW H) → Nat
  | [] => 0
  | d :: r => uptoBulk d + uptoBulkAll r
def uptoBulkEntries {H : Type} : List (Lit × DataW H) → Nat
  | [] => 0
  | x :: r => uptoBulkEntry x + uptoBulkEntries r
def uptoBulkEntry {H : Type} : Lit × DataW H → Nat
  | (.string bytes, d) => bytes.length + uptoBulk d + 1
  | (_, d) => uptoBulk d + 1
 end
def uptoSmall : (H : Type) → List (DataW H) → Bool := fun _ ds => decide (uptoBulkAll ds ≤ 1048576)
def OpenSpec.upto (s : _root_.Go.ChangeSpec) : _root_.Go.OpenSpec := { _root_.Go.OpenSpec.ofChange s with cond := some uptoSmall }

/-- 'platbooklaw15.CodecNumbers', WHERE WHAT IT READS IS OF BULK AT MOST 1048576: true; the input reads as it did. -/
def codecNumbersUptoRow : OpenClaim := { program := "ytolndeolehkjoaa", sum := "2f35033fafdc2474bcc3e8269d53936530deba37287724c944f61a7bb2f3d14e", func := "platbook/platbooklaw15.CodecNumbers", spec := "codecNumbers", inPlace := ["internal/abi.NoEscape"], unfollowed := true, recurses := true, apart := false, narrowed := true }
def CodecNumbersUptoSaid : Prop := codecNumbersUptoRow.holds Try.pinned (OpenSpec.upto codecNumbersSpec)

/-- 'platbooklaw15.CodecShort', WHERE WHAT IT READS IS OF BULK AT MOST 1048576: true; the input reads as it did. -/
def codecShortUptoRow : OpenClaim := { program := "ytolndeolehkjoaa", sum := "2f35033fafdc2474bcc3e8269d53936530deba37287724c944f61a7bb2f3d14e", func := "platbook/platbooklaw15.CodecShort", spec := "codecShort", inPlace := ["internal/abi.NoEscape"], unfollowed := true, recurses := true, apart := false, narrowed := true }
def CodecShortUptoSaid : Prop := codecShortUptoRow.holds Try.pinned (OpenSpec.upto codecShortSpec)

/-- 'platbooklaw15.CodecPacks', WHERE WHAT IT READS IS OF BULK AT MOST 1048576: true; the input reads as it did. -/
def codecPacksUptoRow : OpenClaim := { program := "ytolndeolehkjoaa", sum := "2f35033fafdc2474bcc3e8269d53936530deba37287724c944f61a7bb2f3d14e", func := "platbook/platbooklaw15.CodecPacks", spec := "codecPacks", inPlace := ["internal/abi.NoEscape"], unfollowed := true, recurses := true, apart := false, narrowed := true }
def CodecPacksUptoSaid : Prop := codecPacksUptoRow.holds Try.pinned (OpenSpec.upto codecPacksSpec)

/-- 'platbooklaw15.CodecReads', WHERE WHAT IT READS IS OF BULK AT MOST 1048576: true; the input reads as it did. -/
def codecReadsUptoRow : OpenClaim := { program := "ytolndeolehkjoaa", sum := "2f35033fafdc2474bcc3e8269d53936530deba37287724c944f61a7bb2f3d14e", func := "platbook/platbooklaw15.CodecReads", spec := "codecReads", inPlace := ["internal/abi.NoEscape"], unfollowed := true, recurses := true, apart := false, narrowed := true }
def CodecReadsUptoSaid : Prop := codecReadsUptoRow.holds Try.pinned (OpenSpec.upto codecReadsSpec)

/-- 'platbooklaw15.CodecLists', WHERE WHAT IT READS IS OF BULK AT MOST 1048576: true; the input reads as it did. -/
def codecListsUptoRow : OpenClaim := { program := "ytolndeolehkjoaa", sum := "2f35033fafdc2474bcc3e8269d53936530deba37287724c944f61a7bb2f3d14e", func := "platbook/platbooklaw15.CodecLists", spec := "codecLists", inPlace := ["internal/abi.NoEscape"], unfollowed := true, recurses := true, apart := false, narrowed := true }
def CodecListsUptoSaid : Prop := codecListsUptoRow.holds Try.pinned (OpenSpec.upto codecListsSpec)

/-- 'platbooklaw25.WireRequests', WHERE WHAT IT READS IS OF BULK AT MOST 1048576: true; the input reads as it did. -/
def wireRequestsUptoRow : OpenClaim := { program := "ytolndeolehkjoaa", sum := "2f35033fafdc2474bcc3e8269d53936530deba37287724c944f61a7bb2f3d14e", func := "platbook/platbooklaw25.WireRequests", spec := "wireRequests", inPlace := ["internal/abi.NoEscape"], unfollowed := true, recurses := true, apart := false, narrowed := true }
def WireRequestsUptoSaid : Prop := wireRequestsUptoRow.holds Try.pinned (OpenSpec.upto wireRequestsSpec)

/-- 'platbooklaw25.WireResponses', WHERE WHAT IT READS IS OF BULK AT MOST 1048576: true; the input reads as it did. -/
def wireResponsesUptoRow : OpenClaim := { program := "ytolndeolehkjoaa", sum := "2f35033fafdc2474bcc3e8269d53936530deba37287724c944f61a7bb2f3d14e", func := "platbook/platbooklaw25.WireResponses", spec := "wireResponses", inPlace := ["internal/abi.NoEscape"], unfollowed := true, recurses := true, apart := false, narrowed := true }
def WireResponsesUptoSaid : Prop := wireResponsesUptoRow.holds Try.pinned (OpenSpec.upto wireResponsesSpec)

/-- 'platbooklaw25.WireReads', WHERE WHAT IT READS IS OF BULK AT MOST 1048576: true; the input reads as it did. -/
def wireReadsUptoRow : OpenClaim := { program := "ytolndeolehkjoaa", sum := "2f35033fafdc2474bcc3e8269d53936530deba37287724c944f61a7bb2f3d14e", func := "platbook/platbooklaw25.WireReads", spec := "wireReads", inPlace := ["internal/abi.NoEscape"], unfollowed := true, recurses := true, apart := false, narrowed := true }
def WireReadsUptoSaid : Prop := wireReadsUptoRow.holds Try.pinned (OpenSpec.upto wireReadsSpec)

end Rows
end Go.Proofs.Ytolndeolehkjoaa
