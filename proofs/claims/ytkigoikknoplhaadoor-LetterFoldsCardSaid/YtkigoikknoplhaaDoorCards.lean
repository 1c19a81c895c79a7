/-
  DERIVED. GIVEN WITH THE SEED: THE CARDS: each row of YtkigoikknoplhaaDoorRows.lean that lists a variable, with what it lists TIED to the program's text (the seventh form; the later family's looks); each row that meets fmt, with fmt's text TOLD by the authors' own Lean function (tested against real Go, not proved from fmt's source: count such statements apart). THE CARD IS WHAT COUNTS. Prove the row's statement (the work); the ties are given (YtkigoikknoplhaaDoorTie.lean); close each card by the builder's one call (the guide's Derived/Test/ToyasCard.lean, 'card_holds'). Laid BY PROGRAM, IN A SANDBOX (cutbox-door.mjs). By AI agents, Wed Nov 11 2026. No macro, syntax, notation, axiom, sorry.
-/
import Derived.Test.YtkigoikknoplhaaDoorRows
import GoSem.ClaimSeven
namespace Go.Proofs.YtkigoikknoplhaaDoor
namespace Rows

/-- THE TIED CARD OF 'cobweblaw01.LetterNames'. -/
def letterNamesCard : Claim7 := { stood := { row := letterNamesRow, standIns := [], harness := (true, "b7cea680bc7b6f1487339b2ee64be374d54d96033c0c2af4207a8d561b35afb1"), looks := false }, kinds := [], alts := [], laidByText := true, laidKinds := [.data, .pinned], laidTests := true, laidLooks := .later }
def LetterNamesCardSaid : Prop := Claim7.holds Tryd.pinned (.plain (OpenSpec.ofChange letterNamesSpec)) letterNamesCard

/-- THE TIED CARD OF 'cobweblaw01.LetterFits'. -/
def letterFitsCard : Claim7 := { stood := { row := letterFitsRow, standIns := [], harness := (true, "b7cea680bc7b6f1487339b2ee64be374d54d96033c0c2af4207a8d561b35afb1"), looks := false }, kinds := [], alts := [], laidByText := true, laidKinds := [.data, .pinned], laidTests := true, laidLooks := .later }
def LetterFitsCardSaid : Prop := Claim7.holds Tryd.pinned (.plain (OpenSpec.ofChange letterFitsSpec)) letterFitsCard

/-- THE TIED CARD OF 'cobweblaw01.LetterFolds'. -/
def letterFoldsCard : Claim7 := { stood := { row := letterFoldsRow, standIns := [], harness := (true, "b7cea680bc7b6f1487339b2ee64be374d54d96033c0c2af4207a8d561b35afb1"), looks := false }, kinds := [], alts := [], laidByText := true, laidKinds := [.data, .pinned], laidTests := true, laidLooks := .later }
def LetterFoldsCardSaid : Prop := Claim7.holds Tryd.pinned (.plain (OpenSpec.ofChange letterFoldsSpec)) letterFoldsCard

/-- THE TIED CARD OF 'cobweblaw01.LetterCuts'. -/
def letterCutsCard : Claim7 := { stood := { row := letterCutsRow, standIns := [], harness := (true, "b7cea680bc7b6f1487339b2ee64be374d54d96033c0c2af4207a8d561b35afb1"), looks := false }, kinds := [], alts := [], laidByText := true, laidKinds := [.data, .pinned], laidTests := true, laidLooks := .later }
def LetterCutsCardSaid : Prop := Claim7.holds Tryd.pinned (.plain (OpenSpec.ofChange letterCutsSpec)) letterCutsCard

/-- THE TIED CARD OF 'cobweblaw01.LetterQuotes'. -/
def letterQuotesCard : Claim7 := { stood := { row := letterQuotesRow, standIns := [], harness := (true, "b7cea680bc7b6f1487339b2ee64be374d54d96033c0c2af4207a8d561b35afb1"), looks := false }, kinds := [], alts := [], laidByText := true, laidKinds := [.data, .pinned], laidTests := true, laidLooks := .later }
def LetterQuotesCardSaid : Prop := Claim7.holds Tryd.pinned (.plain (OpenSpec.ofChange letterQuotesSpec)) letterQuotesCard

/-- THE TIED CARD OF 'cobweblaw01.LetterBack'. -/
def letterBackCard : Claim7 := { stood := { row := letterBackRow, standIns := [], harness := (true, "b7cea680bc7b6f1487339b2ee64be374d54d96033c0c2af4207a8d561b35afb1"), looks := false }, kinds := [], alts := [], laidByText := true, laidKinds := [.data, .pinned], laidTests := true, laidLooks := .later }
def LetterBackCardSaid : Prop := Claim7.holds Tryd.pinned (.plain (OpenSpec.ofChange letterBackSpec)) letterBackCard

/-- THE TIED CARD OF 'cobweblaw01.LetterCompares'. -/
def letterComparesCard : Claim7 := { stood := { row := letterComparesRow, standIns := [], harness := (true, "b7cea680bc7b6f1487339b2ee64be374d54d96033c0c2af4207a8d561b35afb1"), looks := false }, kinds := [], alts := [], laidByText := true, laidKinds := [.data, .pinned], laidTests := true, laidLooks := .later }
def LetterComparesCardSaid : Prop := Claim7.holds Tryd.pinned (.plain (OpenSpec.ofChange letterComparesSpec)) letterComparesCard

/-- THE TIED CARD OF 'cobweblaw01.LetterStars'. -/
def letterStarsCard : Claim7 := { stood := { row := letterStarsRow, standIns := [], harness := (true, "b7cea680bc7b6f1487339b2ee64be374d54d96033c0c2af4207a8d561b35afb1"), looks := false }, kinds := [], alts := [], laidByText := true, laidKinds := [.data, .pinned], laidTests := true, laidLooks := .later }
def LetterStarsCardSaid : Prop := Claim7.holds Tryd.pinned (.plain (OpenSpec.ofChange letterStarsSpec)) letterStarsCard

/-- THE TIED CARD OF 'cobweblaw01.LetterHeads'. -/
def letterHeadsCard : Claim7 := { stood := { row := letterHeadsRow, standIns := [], harness := (true, "b7cea680bc7b6f1487339b2ee64be374d54d96033c0c2af4207a8d561b35afb1"), looks := false }, kinds := [], alts := [], laidByText := true, laidKinds := [.data, .pinned], laidTests := true, laidLooks := .later }
def LetterHeadsCardSaid : Prop := Claim7.holds Tryd.pinned (.plain (OpenSpec.ofChange letterHeadsSpec)) letterHeadsCard

/-- THE SECOND FORM's CARD OF 'cobweblaw01.LetterNames'. -/
def letterNamesUptoCard : Claim7 := { stood := { row := letterNamesUptoRow, standIns := [], harness := (true, "b7cea680bc7b6f1487339b2ee64be374d54d96033c0c2af4207a8d561b35afb1"), looks := false }, kinds := [], alts := [], laidByText := true, laidKinds := [.data, .pinned], laidTests := true, laidLooks := .later }
def LetterNamesUptoCardSaid : Prop := Claim7.holds Tryd.pinned (.plain (OpenSpec.upto letterNamesSpec)) letterNamesUptoCard

/-- THE SECOND FORM's CARD OF 'cobweblaw01.LetterFits'. -/
def letterFitsUptoCard : Claim7 := { stood := { row := letterFitsUptoRow, standIns := [], harness := (true, "b7cea680bc7b6f1487339b2ee64be374d54d96033c0c2af4207a8d561b35afb1"), looks := false }, kinds := [], alts := [], laidByText := true, laidKinds := [.data, .pinned], laidTests := true, laidLooks := .later }
def LetterFitsUptoCardSaid : Prop := Claim7.holds Tryd.pinned (.plain (OpenSpec.upto letterFitsSpec)) letterFitsUptoCard

/-- THE SECOND FORM's CARD OF 'cobweblaw01.LetterFolds'. -/
def letterFoldsUptoCard : Claim7 := { stood := { row := letterFoldsUptoRow, standIns := [], harness := (true, "b7cea680bc7b6f1487339b2ee64be374d54d96033c0c2af4207a8d561b35afb1"), looks := false }, kinds := [], alts := [], laidByText := true, laidKinds := [.data, .pinned], laidTests := true, laidLooks := .later }
def LetterFoldsUptoCardSaid : Prop := Claim7.holds Tryd.pinned (.plain (OpenSpec.upto letterFoldsSpec)) letterFoldsUptoCard

/-- THE SECOND FORM's CARD OF 'cobweblaw01.LetterCuts'. -/
def letterCutsUptoCard : Claim7 := { stood := { row := letterCutsUptoRow, standIns := [], harness := (true, "b7cea680bc7b6f1487339b2ee64be374d54d96033c0c2af4207a8d561b35afb1"), looks := false }, kinds := [], alts := [], laidByText := true, laidKinds := [.data, .pinned], laidTests := true, laidLooks := .later }
def LetterCutsUptoCardSaid : Prop := Claim7.holds Tryd.pinned (.plain (OpenSpec.upto letterCutsSpec)) letterCutsUptoCard

/-- THE SECOND FORM's CARD OF 'cobweblaw01.LetterQuotes'. -/
def letterQuotesUptoCard : Claim7 := { stood := { row := letterQuotesUptoRow, standIns := [], harness := (true, "b7cea680bc7b6f1487339b2ee64be374d54d96033c0c2af4207a8d561b35afb1"), looks := false }, kinds := [], alts := [], laidByText := true, laidKinds := [.data, .pinned], laidTests := true, laidLooks := .later }
def LetterQuotesUptoCardSaid : Prop := Claim7.holds Tryd.pinned (.plain (OpenSpec.upto letterQuotesSpec)) letterQuotesUptoCard

/-- THE SECOND FORM's CARD OF 'cobweblaw01.LetterBack'. -/
def letterBackUptoCard : Claim7 := { stood := { row := letterBackUptoRow, standIns := [], harness := (true, "b7cea680bc7b6f1487339b2ee64be374d54d96033c0c2af4207a8d561b35afb1"), looks := false }, kinds := [], alts := [], laidByText := true, laidKinds := [.data, .pinned], laidTests := true, laidLooks := .later }
def LetterBackUptoCardSaid : Prop := Claim7.holds Tryd.pinned (.plain (OpenSpec.upto letterBackSpec)) letterBackUptoCard

/-- THE SECOND FORM's CARD OF 'cobweblaw01.LetterCompares'. -/
def letterComparesUptoCard : Claim7 := { stood := { row := letterComparesUptoRow, standIns := [], harness := (true, "b7cea680bc7b6f1487339b2ee64be374d54d96033c0c2af4207a8d561b35afb1"), looks := false }, kinds := [], alts := [], laidByText := true, laidKinds := [.data, .pinned], laidTests := true, laidLooks := .later }
def LetterComparesUptoCardSaid : Prop := Claim7.holds Tryd.pinned (.plain (OpenSpec.upto letterComparesSpec)) letterComparesUptoCard

/-- THE SECOND FORM's CARD OF 'cobweblaw01.LetterStars'. -/
def letterStarsUptoCard : Claim7 := { stood := { row := letterStarsUptoRow, standIns := [], harness := (true, "b7cea680bc7b6f1487339b2ee64be374d54d96033c0c2af4207a8d561b35afb1"), looks := false }, kinds := [], alts := [], laidByText := true, laidKinds := [.data, .pinned], laidTests := true, laidLooks := .later }
def LetterStarsUptoCardSaid : Prop := Claim7.holds Tryd.pinned (.plain (OpenSpec.upto letterStarsSpec)) letterStarsUptoCard

/-- THE SECOND FORM's CARD OF 'cobweblaw01.LetterHeads'. -/
def letterHeadsUptoCard : Claim7 := { stood := { row := letterHeadsUptoRow, standIns := [], harness := (true, "b7cea680bc7b6f1487339b2ee64be374d54d96033c0c2af4207a8d561b35afb1"), looks := false }, kinds := [], alts := [], laidByText := true, laidKinds := [.data, .pinned], laidTests := true, laidLooks := .later }
def LetterHeadsUptoCardSaid : Prop := Claim7.holds Tryd.pinned (.plain (OpenSpec.upto letterHeadsSpec)) letterHeadsUptoCard
end Rows
end Go.Proofs.YtkigoikknoplhaaDoor
