/-
  NARROWER THAN 'FOR EVERY INPUT', by the rows' own cells (each row's printed sentence says how): SumIs: laid · SumJoins: laid · SumTells: laid · SumBytes: laid · FrameIs: laid · FrameScans: laid · FrameTorn: laid · WalNil: laid · WalLasts: laid.
  DERIVED. THE GIVEN ROWS OF THIS SEAT. 9 by the template 'for every input the law returns true; each argument reads behind the call as it read before'; 0 by the template 'total and deterministic' (their statements: YtdmjbdecemajpaaDoorTotals.lean).
  GIVEN WITH THE SEED: the statements are not yours to turn. If you find one false, say at which input.
  Laid BY PROGRAM, IN A SANDBOX (cutbox-rows.mjs): the forced cells as the released guide's own fill.sh prints them over the translation 31d7c5baba10b68e… (all of the seat's roots in one cut). By AI agents, Wed Nov 11 2026. No macro, syntax, notation, axiom, sorry.
-/
import Derived.Test.YtdmjbdecemajpaaDoorChecked
import GoSem.Claim
import GoSem.ClaimJoined
import GoSem.ClaimMapViews
import Derived.JoinedTies
import Derived.KernelRfl
namespace Go.Proofs.YtdmjbdecemajpaaDoor
/- THE CELL 'sum', in the pinned program and in every row, IS THE sha256 OF THE DUMP (.gsa) THAT YtdmjbdecemajpaaDoorProg.lean LOADS. Nothing in Lean hashes anything: it is a label: what it is worth is what the hold of that sum in a sandbox is worth. -/
noncomputable def Tryd.pinned : Pinned := { name := "ytdmjbdecemajpaadoor", sum := "31d7c5baba10b68e91f3a0a3fa058986c0e0be3107eba557c11468e2925f189e", checked := Tryd.checked }
namespace Rows
def none {H : Type} : Left H := { results := [], args := [] }

/- WHAT THE LISTED PACKAGE-LEVEL VARIABLES READ AS WHEN THE CALL BEGINS. Each datum BY PROGRAM (the guide's laid-datum.mjs) off the statement by which the dump's own 'gosem.cut.vars' lays the variable. In a bare row this is a premise. The card (YtdmjbdecemajpaaDoorCards.lean) ties it to the program's text. -/
def laid_platbook_sum_row {H : Type} : DataW H := .agg [.lit (.int .u32 0), .lit (.int .u32 274646895), .lit (.int .u32 549293790), .lit (.int .u32 820201905), .lit (.int .u32 1098587580), .lit (.int .u32 1361435347), .lit (.int .u32 1640403810), .lit (.int .u32 1905808397), .lit (.int .u32 2197175160), .lit (.int .u32 2460548119), .lit (.int .u32 2722870694), .lit (.int .u32 2987750089), .lit (.int .u32 3280807620), .lit (.int .u32 3553878443), .lit (.int .u32 3811616794), .lit (.int .u32 4084100981)]

/-- 'platbooklaw08.SumIs': WHATEVER THE INPUT: true; the input reads as it did. -/
def sumIsSpec : ChangeSpec := { name := "sumIs", fn := fun _ => fun
  | [d1, d2] => { results := [.lit (.bool true)], args := [d1, d2] }
  | _ => none }
def sumIsRow : OpenClaim := { program := "ytdmjbdecemajpaadoor", sum := "31d7c5baba10b68e91f3a0a3fa058986c0e0be3107eba557c11468e2925f189e", func := "platbook/platbooklaw08.SumIs", spec := "sumIs", named := ["platbook/sum.row"], apart := false, laid := [("platbook/sum.row", laid_platbook_sum_row)] }
def SumIsSaid : Prop := sumIsRow.holds Tryd.pinned (OpenSpec.ofChange sumIsSpec)

/-- ITS FALSE NEIGHBOUR: 'it returns false'. Refute it at one input. -/
def sumIsWrong : ChangeSpec := { name := "sumIs", fn := fun _ => fun
  | [d1, d2] => { results := [.lit (.bool false)], args := [d1, d2] }
  | _ => none }
def SumIsWrongFalsely : Prop := sumIsRow.holds Tryd.pinned (OpenSpec.ofChange sumIsWrong)

/-- 'platbooklaw08.SumJoins': WHATEVER THE INPUT: true; the input reads as it did. -/
def sumJoinsSpec : ChangeSpec := { name := "sumJoins", fn := fun _ => fun
  | [d1, d2] => { results := [.lit (.bool true)], args := [d1, d2] }
  | _ => none }
def sumJoinsRow : OpenClaim := { program := "ytdmjbdecemajpaadoor", sum := "31d7c5baba10b68e91f3a0a3fa058986c0e0be3107eba557c11468e2925f189e", func := "platbook/platbooklaw08.SumJoins", spec := "sumJoins", named := ["platbook/sum.row"], apart := false, laid := [("platbook/sum.row", laid_platbook_sum_row)] }
def SumJoinsSaid : Prop := sumJoinsRow.holds Tryd.pinned (OpenSpec.ofChange sumJoinsSpec)

/-- ITS FALSE NEIGHBOUR: 'it returns false'. Refute it at one input. -/
def sumJoinsWrong : ChangeSpec := { name := "sumJoins", fn := fun _ => fun
  | [d1, d2] => { results := [.lit (.bool false)], args := [d1, d2] }
  | _ => none }
def SumJoinsWrongFalsely : Prop := sumJoinsRow.holds Tryd.pinned (OpenSpec.ofChange sumJoinsWrong)

/-- 'platbooklaw08.SumTells': WHATEVER THE INPUT: true; the input reads as it did. -/
def sumTellsSpec : ChangeSpec := { name := "sumTells", fn := fun _ => fun
  | [d1, d2, d3] => { results := [.lit (.bool true)], args := [d1, d2, d3] }
  | _ => none }
def sumTellsRow : OpenClaim := { program := "ytdmjbdecemajpaadoor", sum := "31d7c5baba10b68e91f3a0a3fa058986c0e0be3107eba557c11468e2925f189e", func := "platbook/platbooklaw08.SumTells", spec := "sumTells", named := ["platbook/sum.row"], apart := false, laid := [("platbook/sum.row", laid_platbook_sum_row)] }
def SumTellsSaid : Prop := sumTellsRow.holds Tryd.pinned (OpenSpec.ofChange sumTellsSpec)

/-- ITS FALSE NEIGHBOUR: 'it returns false'. Refute it at one input. -/
def sumTellsWrong : ChangeSpec := { name := "sumTells", fn := fun _ => fun
  | [d1, d2, d3] => { results := [.lit (.bool false)], args := [d1, d2, d3] }
  | _ => none }
def SumTellsWrongFalsely : Prop := sumTellsRow.holds Tryd.pinned (OpenSpec.ofChange sumTellsWrong)

/-- 'platbooklaw08.SumBytes': WHATEVER THE INPUT: true; the input reads as it did. -/
def sumBytesSpec : ChangeSpec := { name := "sumBytes", fn := fun _ => fun
  | [d1, d2] => { results := [.lit (.bool true)], args := [d1, d2] }
  | _ => none }
def sumBytesRow : OpenClaim := { program := "ytdmjbdecemajpaadoor", sum := "31d7c5baba10b68e91f3a0a3fa058986c0e0be3107eba557c11468e2925f189e", func := "platbook/platbooklaw08.SumBytes", spec := "sumBytes", named := ["platbook/sum.row"], apart := false, laid := [("platbook/sum.row", laid_platbook_sum_row)] }
def SumBytesSaid : Prop := sumBytesRow.holds Tryd.pinned (OpenSpec.ofChange sumBytesSpec)

/-- ITS FALSE NEIGHBOUR: 'it returns false'. Refute it at one input. -/
def sumBytesWrong : ChangeSpec := { name := "sumBytes", fn := fun _ => fun
  | [d1, d2] => { results := [.lit (.bool false)], args := [d1, d2] }
  | _ => none }
def SumBytesWrongFalsely : Prop := sumBytesRow.holds Tryd.pinned (OpenSpec.ofChange sumBytesWrong)

/-- 'platbooklaw10.FrameIs': WHATEVER THE INPUT: true; the input reads as it did. -/
def frameIsSpec : ChangeSpec := { name := "frameIs", fn := fun _ => fun
  | [d] => { results := [.lit (.bool true)], args := [d] }
  | _ => none }
def frameIsRow : OpenClaim := { program := "ytdmjbdecemajpaadoor", sum := "31d7c5baba10b68e91f3a0a3fa058986c0e0be3107eba557c11468e2925f189e", func := "platbook/platbooklaw10.FrameIs", spec := "frameIs", named := ["platbook/sum.row"], apart := false, laid := [("platbook/sum.row", laid_platbook_sum_row)] }
def FrameIsSaid : Prop := frameIsRow.holds Tryd.pinned (OpenSpec.ofChange frameIsSpec)

/-- ITS FALSE NEIGHBOUR: 'it returns false'. Refute it at one input. -/
def frameIsWrong : ChangeSpec := { name := "frameIs", fn := fun _ => fun
  | [d] => { results := [.lit (.bool false)], args := [d] }
  | _ => none }
def FrameIsWrongFalsely : Prop := frameIsRow.holds Tryd.pinned (OpenSpec.ofChange frameIsWrong)

/-- 'platbooklaw10.FrameScans': WHATEVER THE INPUT: true; the input reads as it did. -/
def frameScansSpec : ChangeSpec := { name := "frameScans", fn := fun _ => fun
  | [d] => { results := [.lit (.bool true)], args := [d] }
  | _ => none }
def frameScansRow : OpenClaim := { program := "ytdmjbdecemajpaadoor", sum := "31d7c5baba10b68e91f3a0a3fa058986c0e0be3107eba557c11468e2925f189e", func := "platbook/platbooklaw10.FrameScans", spec := "frameScans", named := ["platbook/sum.row"], apart := false, laid := [("platbook/sum.row", laid_platbook_sum_row)] }
def FrameScansSaid : Prop := frameScansRow.holds Tryd.pinned (OpenSpec.ofChange frameScansSpec)

/-- ITS FALSE NEIGHBOUR: 'it returns false'. Refute it at one input. -/
def frameScansWrong : ChangeSpec := { name := "frameScans", fn := fun _ => fun
  | [d] => { results := [.lit (.bool false)], args := [d] }
  | _ => none }
def FrameScansWrongFalsely : Prop := frameScansRow.holds Tryd.pinned (OpenSpec.ofChange frameScansWrong)

/-- 'platbooklaw10.FrameTorn': WHATEVER THE INPUT: true; the input reads as it did. -/
def frameTornSpec : ChangeSpec := { name := "frameTorn", fn := fun _ => fun
  | [d1, d2, d3] => { results := [.lit (.bool true)], args := [d1, d2, d3] }
  | _ => none }
def frameTornRow : OpenClaim := { program := "ytdmjbdecemajpaadoor", sum := "31d7c5baba10b68e91f3a0a3fa058986c0e0be3107eba557c11468e2925f189e", func := "platbook/platbooklaw10.FrameTorn", spec := "frameTorn", inPlace := ["internal/abi.NoEscape"], named := ["platbook/sum.row"], apart := false, laid := [("platbook/sum.row", laid_platbook_sum_row)] }
def FrameTornSaid : Prop := frameTornRow.holds Tryd.pinned (OpenSpec.ofChange frameTornSpec)

/-- ITS FALSE NEIGHBOUR: 'it returns false'. Refute it at one input. -/
def frameTornWrong : ChangeSpec := { name := "frameTorn", fn := fun _ => fun
  | [d1, d2, d3] => { results := [.lit (.bool false)], args := [d1, d2, d3] }
  | _ => none }
def FrameTornWrongFalsely : Prop := frameTornRow.holds Tryd.pinned (OpenSpec.ofChange frameTornWrong)

/-- 'platbooklaw11.WalNil': WHATEVER THE INPUT: true; the input reads as it did. -/
def walNilSpec : ChangeSpec := { name := "walNil", fn := fun _ => fun
  | [d] => { results := [.lit (.bool true)], args := [d] }
  | _ => none }
def walNilRow : OpenClaim := { program := "ytdmjbdecemajpaadoor", sum := "31d7c5baba10b68e91f3a0a3fa058986c0e0be3107eba557c11468e2925f189e", func := "platbook/platbooklaw11.WalNil", spec := "walNil", unfollowed := true, recurses := true, named := ["platbook/sum.row"], apart := false, laid := [("platbook/sum.row", laid_platbook_sum_row)] }
def WalNilSaid : Prop := walNilRow.holds Tryd.pinned (OpenSpec.ofChange walNilSpec)

/-- ITS FALSE NEIGHBOUR: 'it returns false'. Refute it at one input. -/
def walNilWrong : ChangeSpec := { name := "walNil", fn := fun _ => fun
  | [d] => { results := [.lit (.bool false)], args := [d] }
  | _ => none }
def WalNilWrongFalsely : Prop := walNilRow.holds Tryd.pinned (OpenSpec.ofChange walNilWrong)

/-- 'platbooklaw11.WalLasts': WHATEVER THE INPUT: true; the input reads as it did. -/
def walLastsSpec : ChangeSpec := { name := "walLasts", fn := fun _ => fun
  | [d] => { results := [.lit (.bool true)], args := [d] }
  | _ => none }
def walLastsRow : OpenClaim := { program := "ytdmjbdecemajpaadoor", sum := "31d7c5baba10b68e91f3a0a3fa058986c0e0be3107eba557c11468e2925f189e", func := "platbook/platbooklaw11.WalLasts", spec := "walLasts", unfollowed := true, recurses := true, named := ["platbook/sum.row"], apart := false, laid := [("platbook/sum.row", laid_platbook_sum_row)] }
def WalLastsSaid : Prop := walLastsRow.holds Tryd.pinned (OpenSpec.ofChange walLastsSpec)

/-- ITS FALSE NEIGHBOUR: 'it returns false'. Refute it at one input. -/
def walLastsWrong : ChangeSpec := { name := "walLasts", fn := fun _ => fun
  | [d] => { results := [.lit (.bool false)], args := [d] }
  | _ => none }
def WalLastsWrongFalsely : Prop := walLastsRow.holds Tryd.pinned (OpenSpec.ofChange walLastsWrong)

/- THE SECOND FORM. 'bulk': how many values and letters a reading holds, each counted each time it is reached (what is shared counts as often as it is met; a slice's spare places count too). A statement '..UptoSaid' is the law's where the arguments, and the package variables that the reading takes, are together of bulk at most 1048576: NARROWER than '..Said'. Prove '..Said' where nothing that the law and all that it calls make is longer than what came in: it says more and counts as full. Else prove '..UptoSaid'. A law counts once. -/
mutual
def uptoBulk {H : Type} : DataW H → Nat
  | .lit (.string bytes) => bytes.length + 1
  | .lit _ => 1
  | .nil => 1
  | .ptr d => uptoBulk d + 1
  | .slice elems spare => uptoBulkAll elems + uptoBulkAll spare + 1
  | .agg parts => uptoBulkAll parts + 1
  | .iface _ d => uptoBulk d + 1
  | .map entries => uptoBulkEntries entries + 1
  | .held _ => 1
def uptoBulkAll {H : Type} : List (DataW H) → Nat
  | [] => 0
  | d :: r => uptoBulk d + uptoBulkAll r
def uptoBulkEntries {H : Type} : List (Lit × DataW H) → Nat
  | [] => 0
  | x :: r => uptoBulkEntry x + uptoBulkEntries r
def uptoBulkEntry {H : Type} : Lit × DataW H → Nat
  | (.string bytes, d) => bytes.length + uptoBulk d + 1
  | (_, d) => uptoBulk d + 1
 end
def uptoSmall : (H : Type) → List (DataW H) → Bool := fun _ ds => decide (uptoBulkAll ds ≤ 1048576)
def OpenSpec.upto (s : _root_.Go.ChangeSpec) : _root_.Go.OpenSpec := { _root_.Go.OpenSpec.ofChange s with cond := some uptoSmall }

/-- 'platbooklaw08.SumIs', WHERE WHAT IT READS IS OF BULK AT MOST 1048576: true; the input reads as it did. -/
def sumIsUptoRow : OpenClaim := { program := "ytdmjbdecemajpaadoor", sum := "31d7c5baba10b68e91f3a0a3fa058986c0e0be3107eba557c11468e2925f189e", func := "platbook/platbooklaw08.SumIs", spec := "sumIs", named := ["platbook/sum.row"], apart := false, laid := [("platbook/sum.row", laid_platbook_sum_row)], narrowed := true }
def SumIsUptoSaid : Prop := sumIsUptoRow.holds Tryd.pinned (OpenSpec.upto sumIsSpec)

/-- 'platbooklaw08.SumJoins', WHERE WHAT IT READS IS OF BULK AT MOST 1048576: true; the input reads as it did. -/
def sumJoinsUptoRow : OpenClaim := { program := "ytdmjbdecemajpaadoor", sum := "31d7c5baba10b68e91f3a0a3fa058986c0e0be3107eba557c11468e2925f189e", func := "platbook/platbooklaw08.SumJoins", spec := "sumJoins", named := ["platbook/sum.row"], apart := false, laid := [("platbook/sum.row", laid_platbook_sum_row)], narrowed := true }
def SumJoinsUptoSaid : Prop := sumJoinsUptoRow.holds Tryd.pinned (OpenSpec.upto sumJoinsSpec)

/-- 'platbooklaw08.SumTells', WHERE WHAT IT READS IS OF BULK AT MOST 1048576: true; the input reads as it did. -/
def sumTellsUptoRow : OpenClaim := { program := "ytdmjbdecemajpaadoor", sum := "31d7c5baba10b68e91f3a0a3fa058986c0e0be3107eba557c11468e2925f189e", func := "platbook/platbooklaw08.SumTells", spec := "sumTells", named := ["platbook/sum.row"], apart := false, laid := [("platbook/sum.row", laid_platbook_sum_row)], narrowed := true }
def SumTellsUptoSaid : Prop := sumTellsUptoRow.holds Tryd.pinned (OpenSpec.upto sumTellsSpec)

/-- 'platbooklaw08.SumBytes', WHERE WHAT IT READS IS OF BULK AT MOST 1048576: true; the input reads as it did. -/
def sumBytesUptoRow : OpenClaim := { program := "ytdmjbdecemajpaadoor", sum := "31d7c5baba10b68e91f3a0a3fa058986c0e0be3107eba557c11468e2925f189e", func := "platbook/platbooklaw08.SumBytes", spec := "sumBytes", named := ["platbook/sum.row"], apart := false, laid := [("platbook/sum.row", laid_platbook_sum_row)], narrowed := true }
def SumBytesUptoSaid : Prop := sumBytesUptoRow.holds Tryd.pinned (OpenSpec.upto sumBytesSpec)

/-- 'platbooklaw10.FrameIs', WHERE WHAT IT READS IS OF BULK AT MOST 1048576: true; the input reads as it did. -/
def frameIsUptoRow : OpenClaim := { program := "ytdmjbdecemajpaadoor", sum := "31d7c5baba10b68e91f3a0a3fa058986c0e0be3107eba557c11468e2925f189e", func := "platbook/platbooklaw10.FrameIs", spec := "frameIs", named := ["platbook/sum.row"], apart := false, laid := [("platbook/sum.row", laid_platbook_sum_row)], narrowed := true }
def FrameIsUptoSaid : Prop := frameIsUptoRow.holds Tryd.pinned (OpenSpec.upto frameIsSpec)

/-- 'platbooklaw10.FrameScans', WHERE WHAT IT READS IS OF BULK AT MOST 1048576: true; the input reads as it did. -/
def frameScansUptoRow : OpenClaim := { program := "ytdmjbdecemajpaadoor", sum := "31d7c5baba10b68e91f3a0a3fa058986c0e0be3107eba557c11468e2925f189e", func := "platbook/platbooklaw10.FrameScans", spec := "frameScans", named := ["platbook/sum.row"], apart := false, laid := [("platbook/sum.row", laid_platbook_sum_row)], narrowed := true }
def FrameScansUptoSaid : Prop := frameScansUptoRow.holds Tryd.pinned (OpenSpec.upto frameScansSpec)

/-- 'platbooklaw10.FrameTorn', WHERE WHAT IT READS IS OF BULK AT MOST 1048576: true; the input reads as it did. -/
def frameTornUptoRow : OpenClaim := { program := "ytdmjbdecemajpaadoor", sum := "31d7c5baba10b68e91f3a0a3fa058986c0e0be3107eba557c11468e2925f189e", func := "platbook/platbooklaw10.FrameTorn", spec := "frameTorn", inPlace := ["internal/abi.NoEscape"], named := ["platbook/sum.row"], apart := false, laid := [("platbook/sum.row", laid_platbook_sum_row)], narrowed := true }
def FrameTornUptoSaid : Prop := frameTornUptoRow.holds Tryd.pinned (OpenSpec.upto frameTornSpec)

/-- 'platbooklaw11.WalNil', WHERE WHAT IT READS IS OF BULK AT MOST 1048576: true; the input reads as it did. -/
def walNilUptoRow : OpenClaim := { program := "ytdmjbdecemajpaadoor", sum := "31d7c5baba10b68e91f3a0a3fa058986c0e0be3107eba557c11468e2925f189e", func := "platbook/platbooklaw11.WalNil", spec := "walNil", unfollowed := true, recurses := true, named := ["platbook/sum.row"], apart := false, laid := [("platbook/sum.row", laid_platbook_sum_row)], narrowed := true }
def WalNilUptoSaid : Prop := walNilUptoRow.holds Tryd.pinned (OpenSpec.upto walNilSpec)

/-- 'platbooklaw11.WalLasts', WHERE WHAT IT READS IS OF BULK AT MOST 1048576: true; the input reads as it did. -/
def walLastsUptoRow : OpenClaim := { program := "ytdmjbdecemajpaadoor", sum := "31d7c5baba10b68e91f3a0a3fa058986c0e0be3107eba557c11468e2925f189e", func := "platbook/platbooklaw11.WalLasts", spec := "walLasts", unfollowed := true, recurses := true, named := ["platbook/sum.row"], apart := false, laid := [("platbook/sum.row", laid_platbook_sum_row)], narrowed := true }
def WalLastsUptoSaid : Prop := walLastsUptoRow.holds Tryd.pinned (OpenSpec.upto walLastsSpec)

end Rows
end Go.Proofs.YtdmjbdecemajpaaDoor
