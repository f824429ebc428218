/-
  DERIVED. GIVEN WITH THE SEED: THE CARDS: each row of YtdmjbdecemajpaaDoorRows.lean that lists a variable, with what it lists TIED to the program's text (the seventh form; the later family's looks); each row that meets fmt, with fmt's text TOLD by the authors' own Lean function (tested against real Go, not proved from fmt's source: count such statements apart). THE CARD IS WHAT COUNTS. Prove the row's statement (the work); the ties are given (YtdmjbdecemajpaaDoorTie.lean); close each card by the builder's one call (the guide's Derived/Test/ToyasCard.lean, 'card_holds'). Laid BY PROGRAM, IN A SANDBOX (cutbox-door.mjs). By AI agents, Wed Nov 11 2026. No macro, syntax, notation, axiom, sorry.
-/
import Derived.Test.YtdmjbdecemajpaaDoorRows
import GoSem.ClaimSeven
namespace Go.Proofs.YtdmjbdecemajpaaDoor
namespace Rows

/-- THE TIED CARD OF 'platbooklaw08.SumIs'. -/
def sumIsCard : Claim7 := { stood := { row := sumIsRow, standIns := [], harness := (true, "06c1efe3bdbc50204dbc1e1e12987c15534529c7e130dc2666d3c34a75d3807e"), looks := false }, kinds := [], alts := [], laidByText := true, laidKinds := [.data], laidTests := true, laidLooks := .later }
def SumIsCardSaid : Prop := Claim7.holds Tryd.pinned (.plain (OpenSpec.ofChange sumIsSpec)) sumIsCard

/-- THE TIED CARD OF 'platbooklaw08.SumJoins'. -/
def sumJoinsCard : Claim7 := { stood := { row := sumJoinsRow, standIns := [], harness := (true, "06c1efe3bdbc50204dbc1e1e12987c15534529c7e130dc2666d3c34a75d3807e"), looks := false }, kinds := [], alts := [], laidByText := true, laidKinds := [.data], laidTests := true, laidLooks := .later }
def SumJoinsCardSaid : Prop := Claim7.holds Tryd.pinned (.plain (OpenSpec.ofChange sumJoinsSpec)) sumJoinsCard

/-- THE TIED CARD OF 'platbooklaw08.SumTells'. -/
def sumTellsCard : Claim7 := { stood := { row := sumTellsRow, standIns := [], harness := (true, "06c1efe3bdbc50204dbc1e1e12987c15534529c7e130dc2666d3c34a75d3807e"), looks := false }, kinds := [], alts := [], laidByText := true, laidKinds := [.data], laidTests := true, laidLooks := .later }
def SumTellsCardSaid : Prop := Claim7.holds Tryd.pinned (.plain (OpenSpec.ofChange sumTellsSpec)) sumTellsCard

/-- THE TIED CARD OF 'platbooklaw08.SumBytes'. -/
def sumBytesCard : Claim7 := { stood := { row := sumBytesRow, standIns := [], harness := (true, "06c1efe3bdbc50204dbc1e1e12987c15534529c7e130dc2666d3c34a75d3807e"), looks := false }, kinds := [], alts := [], laidByText := true, laidKinds := [.data], laidTests := true, laidLooks := .later }
def SumBytesCardSaid : Prop := Claim7.holds Tryd.pinned (.plain (OpenSpec.ofChange sumBytesSpec)) sumBytesCard

/-- THE TIED CARD OF 'platbooklaw10.FrameIs'. -/
def frameIsCard : Claim7 := { stood := { row := frameIsRow, standIns := [], harness := (true, "06c1efe3bdbc50204dbc1e1e12987c15534529c7e130dc2666d3c34a75d3807e"), looks := false }, kinds := [], alts := [], laidByText := true, laidKinds := [.data], laidTests := true, laidLooks := .later }
def FrameIsCardSaid : Prop := Claim7.holds Tryd.pinned (.plain (OpenSpec.ofChange frameIsSpec)) frameIsCard

/-- THE TIED CARD OF 'platbooklaw10.FrameScans'. -/
def frameScansCard : Claim7 := { stood := { row := frameScansRow, standIns := [], harness := (true, "06c1efe3bdbc50204dbc1e1e12987c15534529c7e130dc2666d3c34a75d3807e"), looks := false }, kinds := [], alts := [], laidByText := true, laidKinds := [.data], laidTests := true, laidLooks := .later }
def FrameScansCardSaid : Prop := Claim7.holds Tryd.pinned (.plain (OpenSpec.ofChange frameScansSpec)) frameScansCard

/-- THE TIED CARD OF 'platbooklaw10.FrameTorn'. -/
def frameTornCard : Claim7 := { stood := { row := frameTornRow, standIns := [], harness := (true, "06c1efe3bdbc50204dbc1e1e12987c15534529c7e130dc2666d3c34a75d3807e"), looks := false }, kinds := [], alts := [], laidByText := true, laidKinds := [.data], laidTests := true, laidLooks := .later }
def FrameTornCardSaid : Prop := Claim7.holds Tryd.pinned (.plain (OpenSpec.ofChange frameTornSpec)) frameTornCard

/-- THE TIED CARD OF 'platbooklaw11.WalNil'. -/
def walNilCard : Claim7 := { stood := { row := walNilRow, standIns := [], harness := (true, "06c1efe3bdbc50204dbc1e1e12987c15534529c7e130dc2666d3c34a75d3807e"), looks := false }, kinds := [], alts := [], laidByText := true, laidKinds := [.data], laidTests := true, laidLooks := .later }
def WalNilCardSaid : Prop := Claim7.holds Tryd.pinned (.plain (OpenSpec.ofChange walNilSpec)) walNilCard

/-- THE TIED CARD OF 'platbooklaw11.WalLasts'. -/
def walLastsCard : Claim7 := { stood := { row := walLastsRow, standIns := [], harness := (true, "06c1efe3bdbc50204dbc1e1e12987c15534529c7e130dc2666d3c34a75d3807e"), looks := false }, kinds := [], alts := [], laidByText := true, laidKinds := [.data], laidTests := true, laidLooks := .later }
def WalLastsCardSaid : Prop := Claim7.holds Tryd.pinned (.plain (OpenSpec.ofChange walLastsSpec)) walLastsCard

/-- THE SECOND FORM's CARD OF 'platbooklaw08.SumIs'. -/
def sumIsUptoCard : Claim7 := { stood := { row := sumIsUptoRow, standIns := [], harness := (true, "06c1efe3bdbc50204dbc1e1e12987c15534529c7e130dc2666d3c34a75d3807e"), looks := false }, kinds := [], alts := [], laidByText := true, laidKinds := [.data], laidTests := true, laidLooks := .later }
def SumIsUptoCardSaid : Prop := Claim7.holds Tryd.pinned (.plain (OpenSpec.upto sumIsSpec)) sumIsUptoCard

/-- THE SECOND FORM's CARD OF 'platbooklaw08.SumJoins'. -/
def sumJoinsUptoCard : Claim7 := { stood := { row := sumJoinsUptoRow, standIns := [], harness := (true, "06c1efe3bdbc50204dbc1e1e12987c15534529c7e130dc2666d3c34a75d3807e"), looks := false }, kinds := [], alts := [], laidByText := true, laidKinds := [.data], laidTests := true, laidLooks := .later }
def SumJoinsUptoCardSaid : Prop := Claim7.holds Tryd.pinned (.plain (OpenSpec.upto sumJoinsSpec)) sumJoinsUptoCard

/-- THE SECOND FORM's CARD OF 'platbooklaw08.SumTells'. -/
def sumTellsUptoCard : Claim7 := { stood := { row := sumTellsUptoRow, standIns := [], harness := (true, "06c1efe3bdbc50204dbc1e1e12987c15534529c7e130dc2666d3c34a75d3807e"), looks := false }, kinds := [], alts := [], laidByText := true, laidKinds := [.data], laidTests := true, laidLooks := .later }
def SumTellsUptoCardSaid : Prop := Claim7.holds Tryd.pinned (.plain (OpenSpec.upto sumTellsSpec)) sumTellsUptoCard

/-- THE SECOND FORM's CARD OF 'platbooklaw08.SumBytes'. -/
def sumBytesUptoCard : Claim7 := { stood := { row := sumBytesUptoRow, standIns := [], harness := (true, "06c1efe3bdbc50204dbc1e1e12987c15534529c7e130dc2666d3c34a75d3807e"), looks := false }, kinds := [], alts := [], laidByText := true, laidKinds := [.data], laidTests := true, laidLooks := .later }
def SumBytesUptoCardSaid : Prop := Claim7.holds Tryd.pinned (.plain (OpenSpec.upto sumBytesSpec)) sumBytesUptoCard

/-- THE SECOND FORM's CARD OF 'platbooklaw10.FrameIs'. -/
def frameIsUptoCard : Claim7 := { stood := { row := frameIsUptoRow, standIns := [], harness := (true, "06c1efe3bdbc50204dbc1e1e12987c15534529c7e130dc2666d3c34a75d3807e"), looks := false }, kinds := [], alts := [], laidByText := true, laidKinds := [.data], laidTests := true, laidLooks := .later }
def FrameIsUptoCardSaid : Prop := Claim7.holds Tryd.pinned (.plain (OpenSpec.upto frameIsSpec)) frameIsUptoCard

/-- THE SECOND FORM's CARD OF 'platbooklaw10.FrameScans'. -/
def frameScansUptoCard : Claim7 := { stood := { row := frameScansUptoRow, standIns := [], harness := (true, "06c1efe3bdbc50204dbc1e1e12987c15534529c7e130dc2666d3c34a75d3807e"), looks := false }, kinds := [], alts := [], laidByText := true, laidKinds := [.data], laidTests := true, laidLooks := .later }
def FrameScansUptoCardSaid : Prop := Claim7.holds Tryd.pinned (.plain (OpenSpec.upto frameScansSpec)) frameScansUptoCard

/-- THE SECOND FORM's CARD OF 'platbooklaw10.FrameTorn'. -/
def frameTornUptoCard : Claim7 := { stood := { row := frameTornUptoRow, standIns := [], harness := (true, "06c1efe3bdbc50204dbc1e1e12987c15534529c7e130dc2666d3c34a75d3807e"), looks := false }, kinds := [], alts := [], laidByText := true, laidKinds := [.data], laidTests := true, laidLooks := .later }
def FrameTornUptoCardSaid : Prop := Claim7.holds Tryd.pinned (.plain (OpenSpec.upto frameTornSpec)) frameTornUptoCard

/-- THE SECOND FORM's CARD OF 'platbooklaw11.WalNil'. -/
def walNilUptoCard : Claim7 := { stood := { row := walNilUptoRow, standIns := [], harness := (true, "06c1efe3bdbc50204dbc1e1e12987c15534529c7e130dc2666d3c34a75d3807e"), looks := false }, kinds := [], alts := [], laidByText := true, laidKinds := [.data], laidTests := true, laidLooks := .later }
def WalNilUptoCardSaid : Prop := Claim7.holds Tryd.pinned (.plain (OpenSpec.upto walNilSpec)) walNilUptoCard

/-- THE SECOND FORM's CARD OF 'platbooklaw11.WalLasts'. -/
def walLastsUptoCard : Claim7 := { stood := { row := walLastsUptoRow, standIns := [], harness := (true, "06c1efe3bdbc50204dbc1e1e12987c15534529c7e130dc2666d3c34a75d3807e"), looks := false }, kinds := [], alts := [], laidByText := true, laidKinds := [.data], laidTests := true, laidLooks := .later }
def WalLastsUptoCardSaid : Prop := Claim7.holds Tryd.pinned (.plain (OpenSpec.upto walLastsSpec)) walLastsUptoCard
end Rows
end Go.Proofs.YtdmjbdecemajpaaDoor
