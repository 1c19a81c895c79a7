/-
  DERIVED. GIVEN WITH THE SEED: THE CARDS: each row of YteohhklblbinbaaDoorRows.lean that lists a variable, with what it lists TIED to the program's text (the seventh form; the later family's looks); each row that meets fmt, with fmt's text TOLD by the authors' own Lean function (tested against real Go, not proved from fmt's source: count such statements apart). THE CARD IS WHAT COUNTS. Prove the row's statement (the work); the ties are given (YteohhklblbinbaaDoorTie.lean); close each card by the builder's one call (the guide's Derived/Test/ToyasCard.lean, 'card_holds'). Laid BY PROGRAM, IN A SANDBOX (cutbox-door.mjs). By AI agents, Wed Nov 11 2026. No macro, syntax, notation, axiom, sorry.
-/
import Derived.Test.YteohhklblbinbaaDoorRows
import GoSem.ClaimSeven
namespace Go.Proofs.YteohhklblbinbaaDoor
namespace Rows

/-- THE TIED CARD OF 'cobweblaw02.ValueApart'. -/
def valueApartCard : Claim7 := { stood := { row := valueApartRow, standIns := [], harness := (true, "5e36a12b553262cadc74f328f8db8d3b402154c0b88add6812a095fa22bc9507"), looks := true }, kinds := [], alts := [], laidByText := true, laidKinds := [.data, .data, .data, .sentinel, .sentinel], laidTests := true, laidLooks := .later }
def ValueApartCardSaid : Prop := Claim7.holds Tryd.pinned (.plain (OpenSpec.ofChange valueApartSpec)) valueApartCard

/-- THE TIED CARD OF 'cobweblaw02.ValueThings'. -/
def valueThingsCard : Claim7 := { stood := { row := valueThingsRow, standIns := [], harness := (true, "5e36a12b553262cadc74f328f8db8d3b402154c0b88add6812a095fa22bc9507"), looks := true }, kinds := [], alts := [], laidByText := true, laidKinds := [.data, .data, .data, .sentinel, .sentinel], laidTests := true, laidLooks := .later }
def ValueThingsCardSaid : Prop := Claim7.holds Tryd.pinned (.plain (OpenSpec.ofChange valueThingsSpec)) valueThingsCard

/-- THE TIED CARD OF 'cobweblaw02.ValueCompares'. -/
def valueComparesCard : Claim7 := { stood := { row := valueComparesRow, standIns := [], harness := (true, "5e36a12b553262cadc74f328f8db8d3b402154c0b88add6812a095fa22bc9507"), looks := true }, kinds := [], alts := [], laidByText := true, laidKinds := [.data, .data, .data, .sentinel, .sentinel], laidTests := true, laidLooks := .later }
def ValueComparesCardSaid : Prop := Claim7.holds Tryd.pinned (.plain (OpenSpec.ofChange valueComparesSpec)) valueComparesCard

/-- THE TIED CARD OF 'cobweblaw02.ValueOrders'. -/
def valueOrdersCard : Claim7 := { stood := { row := valueOrdersRow, standIns := [], harness := (true, "5e36a12b553262cadc74f328f8db8d3b402154c0b88add6812a095fa22bc9507"), looks := true }, kinds := [], alts := [], laidByText := true, laidKinds := [.data, .data, .data, .sentinel, .sentinel], laidTests := true, laidLooks := .later }
def ValueOrdersCardSaid : Prop := Claim7.holds Tryd.pinned (.plain (OpenSpec.ofChange valueOrdersSpec)) valueOrdersCard

/-- THE TIED CARD OF 'cobweblaw02.ValueTakes'. -/
def valueTakesCard : Claim7 := { stood := { row := valueTakesRow, standIns := [], harness := (true, "5e36a12b553262cadc74f328f8db8d3b402154c0b88add6812a095fa22bc9507"), looks := true }, kinds := [], alts := [], laidByText := true, laidKinds := [.data, .data, .data, .sentinel, .sentinel], laidTests := true, laidLooks := .later }
def ValueTakesCardSaid : Prop := Claim7.holds Tryd.pinned (.plain (OpenSpec.ofChange valueTakesSpec)) valueTakesCard

/-- THE TIED CARD OF 'cobweblaw02.ValueRows'. -/
def valueRowsCard : Claim7 := { stood := { row := valueRowsRow, standIns := [], harness := (true, "5e36a12b553262cadc74f328f8db8d3b402154c0b88add6812a095fa22bc9507"), looks := true }, kinds := [], alts := [], laidByText := true, laidKinds := [.data, .data, .data, .sentinel, .sentinel], laidTests := true, laidLooks := .later }
def ValueRowsCardSaid : Prop := Claim7.holds Tryd.pinned (.plain (OpenSpec.ofChange valueRowsSpec)) valueRowsCard

/-- THE SECOND FORM's CARD OF 'cobweblaw02.ValueApart'. -/
def valueApartUptoCard : Claim7 := { stood := { row := valueApartUptoRow, standIns := [], harness := (true, "5e36a12b553262cadc74f328f8db8d3b402154c0b88add6812a095fa22bc9507"), looks := true }, kinds := [], alts := [], laidByText := true, laidKinds := [.data, .data, .data, .sentinel, .sentinel], laidTests := true, laidLooks := .later }
def ValueApartUptoCardSaid : Prop := Claim7.holds Tryd.pinned (.plain (OpenSpec.upto valueApartSpec)) valueApartUptoCard

/-- THE SECOND FORM's CARD OF 'cobweblaw02.ValueThings'. -/
def valueThingsUptoCard : Claim7 := { stood := { row := valueThingsUptoRow, standIns := [], harness := (true, "5e36a12b553262cadc74f328f8db8d3b402154c0b88add6812a095fa22bc9507"), looks := true }, kinds := [], alts := [], laidByText := true, laidKinds := [.data, .data, .data, .sentinel, .sentinel], laidTests := true, laidLooks := .later }
def ValueThingsUptoCardSaid : Prop := Claim7.holds Tryd.pinned (.plain (OpenSpec.upto valueThingsSpec)) valueThingsUptoCard

/-- THE SECOND FORM's CARD OF 'cobweblaw02.ValueCompares'. -/
def valueComparesUptoCard : Claim7 := { stood := { row := valueComparesUptoRow, standIns := [], harness := (true, "5e36a12b553262cadc74f328f8db8d3b402154c0b88add6812a095fa22bc9507"), looks := true }, kinds := [], alts := [], laidByText := true, laidKinds := [.data, .data, .data, .sentinel, .sentinel], laidTests := true, laidLooks := .later }
def ValueComparesUptoCardSaid : Prop := Claim7.holds Tryd.pinned (.plain (OpenSpec.upto valueComparesSpec)) valueComparesUptoCard

/-- THE SECOND FORM's CARD OF 'cobweblaw02.ValueOrders'. -/
def valueOrdersUptoCard : Claim7 := { stood := { row := valueOrdersUptoRow, standIns := [], harness := (true, "5e36a12b553262cadc74f328f8db8d3b402154c0b88add6812a095fa22bc9507"), looks := true }, kinds := [], alts := [], laidByText := true, laidKinds := [.data, .data, .data, .sentinel, .sentinel], laidTests := true, laidLooks := .later }
def ValueOrdersUptoCardSaid : Prop := Claim7.holds Tryd.pinned (.plain (OpenSpec.upto valueOrdersSpec)) valueOrdersUptoCard

/-- THE SECOND FORM's CARD OF 'cobweblaw02.ValueTakes'. -/
def valueTakesUptoCard : Claim7 := { stood := { row := valueTakesUptoRow, standIns := [], harness := (true, "5e36a12b553262cadc74f328f8db8d3b402154c0b88add6812a095fa22bc9507"), looks := true }, kinds := [], alts := [], laidByText := true, laidKinds := [.data, .data, .data, .sentinel, .sentinel], laidTests := true, laidLooks := .later }
def ValueTakesUptoCardSaid : Prop := Claim7.holds Tryd.pinned (.plain (OpenSpec.upto valueTakesSpec)) valueTakesUptoCard

/-- THE SECOND FORM's CARD OF 'cobweblaw02.ValueRows'. -/
def valueRowsUptoCard : Claim7 := { stood := { row := valueRowsUptoRow, standIns := [], harness := (true, "5e36a12b553262cadc74f328f8db8d3b402154c0b88add6812a095fa22bc9507"), looks := true }, kinds := [], alts := [], laidByText := true, laidKinds := [.data, .data, .data, .sentinel, .sentinel], laidTests := true, laidLooks := .later }
def ValueRowsUptoCardSaid : Prop := Claim7.holds Tryd.pinned (.plain (OpenSpec.upto valueRowsSpec)) valueRowsUptoCard
end Rows
end Go.Proofs.YteohhklblbinbaaDoor
