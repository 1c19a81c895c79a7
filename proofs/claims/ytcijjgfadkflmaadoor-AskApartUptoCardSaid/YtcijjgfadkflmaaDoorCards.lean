/-
  DERIVED. GIVEN WITH THE SEED: THE CARDS: each row of YtcijjgfadkflmaaDoorRows.lean that lists a variable, with what it lists TIED to the program's text (the seventh form; the later family's looks); each row that meets fmt, with fmt's text TOLD by the authors' own Lean function (tested against real Go, not proved from fmt's source: count such statements apart). THE CARD IS WHAT COUNTS. Prove the row's statement (the work); the ties are given (YtcijjgfadkflmaaDoorTie.lean); close each card by the builder's one call (the guide's Derived/Test/ToyasCard.lean, 'card_holds'). Laid BY PROGRAM, IN A SANDBOX (cutbox-door.mjs). By AI agents, Wed Nov 11 2026. No macro, syntax, notation, axiom, sorry.
-/
import Derived.Test.YtcijjgfadkflmaaDoorRows
import GoSem.ClaimSeven
namespace Go.Proofs.YtcijjgfadkflmaaDoor
namespace Rows

/-- THE TIED CARD OF 'cobweblaw23.AskApart'. -/
def askApartCard : Claim7 := { stood := { row := askApartRow, standIns := [], harness := (true, "b5861d3771cf8d2745964c2f17ee2ca4242286bdf99ff99d655ce9208ff5c311"), looks := true }, kinds := [], alts := [], laidByText := true, laidKinds := [.data, .data, .data, .data, .sentinel, .sentinel, .pinned], laidTests := true, laidLooks := .later }
def AskApartCardSaid : Prop := Claim7.holds Tryd.pinned (.plain (OpenSpec.ofChange askApartSpec)) askApartCard

/-- THE SECOND FORM's CARD OF 'cobweblaw23.AskApart'. -/
def askApartUptoCard : Claim7 := { stood := { row := askApartUptoRow, standIns := [], harness := (true, "b5861d3771cf8d2745964c2f17ee2ca4242286bdf99ff99d655ce9208ff5c311"), looks := true }, kinds := [], alts := [], laidByText := true, laidKinds := [.data, .data, .data, .data, .sentinel, .sentinel, .pinned], laidTests := true, laidLooks := .later }
def AskApartUptoCardSaid : Prop := Claim7.holds Tryd.pinned (.plain (OpenSpec.upto askApartSpec)) askApartUptoCard
end Rows
end Go.Proofs.YtcijjgfadkflmaaDoor
