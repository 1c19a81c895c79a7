/-
  NARROWER THAN 'FOR EVERY INPUT', by the rows' own cells (each row's printed sentence says how): LetterNames: laid · LetterFits: laid · LetterFolds: laid · LetterCuts: laid · LetterQuotes: laid · LetterBack: laid · LetterCompares: laid · LetterStars: laid · LetterHeads: laid.
  DERIVED. THE GIVEN ROWS OF THIS SEAT. 9 by the template 'for every input the law returns true; each argument reads behind the call as it read before'; 0 by the template 'total and deterministic' (their statements: YtkigoikknoplhaaDoorTotals.lean).
  GIVEN WITH THE SEED: the statements are not yours to turn. If you find one false, say at which input.
  Laid BY PROGRAM, IN A SANDBOX (cutbox-rows.mjs): the forced cells as the released guide's own fill.sh prints them over the translation 530a24d90a4e7b92… (all of the seat's roots in one cut). By AI agents, Wed Nov 11 2026. No macro, syntax, notation, axiom, sorry.
-/
import Derived.Test.YtkigoikknoplhaaDoorChecked
import GoSem.PinnedTables
import GoSem.Claim
import GoSem.ClaimJoined
import GoSem.ClaimMapViews
import Derived.JoinedTies
import Derived.KernelRfl
namespace Go.Proofs.YtkigoikknoplhaaDoor
/- THE CELL 'sum', in the pinned program and in every row, IS THE sha256 OF THE DUMP (.gsa) THAT YtkigoikknoplhaaDoorProg.lean LOADS. Nothing in Lean hashes anything: it is a label: what it is worth is what the hold of that sum in a sandbox is worth. -/
noncomputable def Tryd.pinned : Pinned := { name := "ytkigoikknoplhaadoor", sum := "530a24d90a4e7b9256420b2360a90cc1eb2aa9e3a9e20ddb9a9e79ed4c07ecef", checked := Tryd.checked }
namespace Rows
def none {H : Type} : Left H := { results := [], args := [] }

/- WHAT THE LISTED PACKAGE-LEVEL VARIABLES READ AS WHEN THE CALL BEGINS. Each datum BY PROGRAM (the guide's laid-datum.mjs) off the statement by which the dump's own 'gosem.cut.vars' lays the variable. In a bare row this is a premise. The card (YtkigoikknoplhaaDoorCards.lean) ties it to the program's text. -/
def laid_unicode_utf8_acceptRanges {H : Type} : DataW H := .agg [.agg [.lit (.int .u8 128), .lit (.int .u8 191)], .agg [.lit (.int .u8 160), .lit (.int .u8 191)], .agg [.lit (.int .u8 128), .lit (.int .u8 159)], .agg [.lit (.int .u8 144), .lit (.int .u8 191)], .agg [.lit (.int .u8 128), .lit (.int .u8 143)], .agg [.lit (.int .u8 0), .lit (.int .u8 0)], .agg [.lit (.int .u8 0), .lit (.int .u8 0)], .agg [.lit (.int .u8 0), .lit (.int .u8 0)], .agg [.lit (.int .u8 0), .lit (.int .u8 0)], .agg [.lit (.int .u8 0), .lit (.int .u8 0)], .agg [.lit (.int .u8 0), .lit (.int .u8 0)], .agg [.lit (.int .u8 0), .lit (.int .u8 0)], .agg [.lit (.int .u8 0), .lit (.int .u8 0)], .agg [.lit (.int .u8 0), .lit (.int .u8 0)], .agg [.lit (.int .u8 0), .lit (.int .u8 0)], .agg [.lit (.int .u8 0), .lit (.int .u8 0)]]
/-- One of Go's own tables, pinned by name: the form's constant. -/
def laid_unicode_utf8_first : DataW Unit := Go.Pinned.utf8First

/-- 'cobweblaw01.LetterNames': WHATEVER THE INPUT: true; the input reads as it did. -/
def letterNamesSpec : ChangeSpec := { name := "letterNames", fn := fun _ => fun
  | [d] => { results := [.lit (.bool true)], args := [d] }
  | _ => none }
def letterNamesRow : OpenClaim := { program := "ytkigoikknoplhaadoor", sum := "530a24d90a4e7b9256420b2360a90cc1eb2aa9e3a9e20ddb9a9e79ed4c07ecef", func := "cobweb/cobweblaw01.LetterNames", spec := "letterNames", inPlace := ["internal/abi.NoEscape", "internal/bytealg.MakeNoZero"], unfollowed := true, recurses := true, named := ["unicode/utf8.first", "unicode/utf8.acceptRanges"], apart := false, laid := [("unicode/utf8.acceptRanges", laid_unicode_utf8_acceptRanges), ("unicode/utf8.first", laid_unicode_utf8_first)] }
def LetterNamesSaid : Prop := letterNamesRow.holds Tryd.pinned (OpenSpec.ofChange letterNamesSpec)

/-- ITS FALSE NEIGHBOUR: 'it returns false'. Refute it at one input. -/
def letterNamesWrong : ChangeSpec := { name := "letterNames", fn := fun _ => fun
  | [d] => { results := [.lit (.bool false)], args := [d] }
  | _ => none }
def LetterNamesWrongFalsely : Prop := letterNamesRow.holds Tryd.pinned (OpenSpec.ofChange letterNamesWrong)

/-- 'cobweblaw01.LetterFits': WHATEVER THE INPUT: true; the input reads as it did. -/
def letterFitsSpec : ChangeSpec := { name := "letterFits", fn := fun _ => fun
  | [d1, d2] => { results := [.lit (.bool true)], args := [d1, d2] }
  | _ => none }
def letterFitsRow : OpenClaim := { program := "ytkigoikknoplhaadoor", sum := "530a24d90a4e7b9256420b2360a90cc1eb2aa9e3a9e20ddb9a9e79ed4c07ecef", func := "cobweb/cobweblaw01.LetterFits", spec := "letterFits", inPlace := ["internal/abi.NoEscape", "internal/bytealg.MakeNoZero"], unfollowed := true, recurses := true, named := ["unicode/utf8.first", "unicode/utf8.acceptRanges"], apart := false, laid := [("unicode/utf8.acceptRanges", laid_unicode_utf8_acceptRanges), ("unicode/utf8.first", laid_unicode_utf8_first)] }
def LetterFitsSaid : Prop := letterFitsRow.holds Tryd.pinned (OpenSpec.ofChange letterFitsSpec)

/-- ITS FALSE NEIGHBOUR: 'it returns false'. Refute it at one input. -/
def letterFitsWrong : ChangeSpec := { name := "letterFits", fn := fun _ => fun
  | [d1, d2] => { results := [.lit (.bool false)], args := [d1, d2] }
  | _ => none }
def LetterFitsWrongFalsely : Prop := letterFitsRow.holds Tryd.pinned (OpenSpec.ofChange letterFitsWrong)

/-- 'cobweblaw01.LetterFolds': WHATEVER THE INPUT: true; the input reads as it did. -/
def letterFoldsSpec : ChangeSpec := { name := "letterFolds", fn := fun _ => fun
  | [d1, d2] => { results := [.lit (.bool true)], args := [d1, d2] }
  | _ => none }
def letterFoldsRow : OpenClaim := { program := "ytkigoikknoplhaadoor", sum := "530a24d90a4e7b9256420b2360a90cc1eb2aa9e3a9e20ddb9a9e79ed4c07ecef", func := "cobweb/cobweblaw01.LetterFolds", spec := "letterFolds", inPlace := ["internal/abi.NoEscape", "internal/bytealg.MakeNoZero"], unfollowed := true, recurses := true, named := ["unicode/utf8.first", "unicode/utf8.acceptRanges"], apart := false, laid := [("unicode/utf8.acceptRanges", laid_unicode_utf8_acceptRanges), ("unicode/utf8.first", laid_unicode_utf8_first)] }
def LetterFoldsSaid : Prop := letterFoldsRow.holds Tryd.pinned (OpenSpec.ofChange letterFoldsSpec)

/-- ITS FALSE NEIGHBOUR: 'it returns false'. Refute it at one input. -/
def letterFoldsWrong : ChangeSpec := { name := "letterFolds", fn := fun _ => fun
  | [d1, d2] => { results := [.lit (.bool false)], args := [d1, d2] }
  | _ => none }
def LetterFoldsWrongFalsely : Prop := letterFoldsRow.holds Tryd.pinned (OpenSpec.ofChange letterFoldsWrong)

/-- 'cobweblaw01.LetterCuts': WHATEVER THE INPUT: true; the input reads as it did. -/
def letterCutsSpec : ChangeSpec := { name := "letterCuts", fn := fun _ => fun
  | [d1, d2, d3] => { results := [.lit (.bool true)], args := [d1, d2, d3] }
  | _ => none }
def letterCutsRow : OpenClaim := { program := "ytkigoikknoplhaadoor", sum := "530a24d90a4e7b9256420b2360a90cc1eb2aa9e3a9e20ddb9a9e79ed4c07ecef", func := "cobweb/cobweblaw01.LetterCuts", spec := "letterCuts", inPlace := ["internal/abi.NoEscape", "internal/bytealg.MakeNoZero"], unfollowed := true, recurses := true, named := ["unicode/utf8.first", "unicode/utf8.acceptRanges"], apart := false, laid := [("unicode/utf8.acceptRanges", laid_unicode_utf8_acceptRanges), ("unicode/utf8.first", laid_unicode_utf8_first)] }
def LetterCutsSaid : Prop := letterCutsRow.holds Tryd.pinned (OpenSpec.ofChange letterCutsSpec)

/-- ITS FALSE NEIGHBOUR: 'it returns false'. Refute it at one input. -/
def letterCutsWrong : ChangeSpec := { name := "letterCuts", fn := fun _ => fun
  | [d1, d2, d3] => { results := [.lit (.bool false)], args := [d1, d2, d3] }
  | _ => none }
def LetterCutsWrongFalsely : Prop := letterCutsRow.holds Tryd.pinned (OpenSpec.ofChange letterCutsWrong)

/-- 'cobweblaw01.LetterQuotes': WHATEVER THE INPUT: true; the input reads as it did. -/
def letterQuotesSpec : ChangeSpec := { name := "letterQuotes", fn := fun _ => fun
  | [d] => { results := [.lit (.bool true)], args := [d] }
  | _ => none }
def letterQuotesRow : OpenClaim := { program := "ytkigoikknoplhaadoor", sum := "530a24d90a4e7b9256420b2360a90cc1eb2aa9e3a9e20ddb9a9e79ed4c07ecef", func := "cobweb/cobweblaw01.LetterQuotes", spec := "letterQuotes", inPlace := ["internal/abi.NoEscape", "internal/bytealg.MakeNoZero"], unfollowed := true, recurses := true, named := ["unicode/utf8.first", "unicode/utf8.acceptRanges"], apart := false, laid := [("unicode/utf8.acceptRanges", laid_unicode_utf8_acceptRanges), ("unicode/utf8.first", laid_unicode_utf8_first)] }
def LetterQuotesSaid : Prop := letterQuotesRow.holds Tryd.pinned (OpenSpec.ofChange letterQuotesSpec)

/-- ITS FALSE NEIGHBOUR: 'it returns false'. Refute it at one input. -/
def letterQuotesWrong : ChangeSpec := { name := "letterQuotes", fn := fun _ => fun
  | [d] => { results := [.lit (.bool false)], args := [d] }
  | _ => none }
def LetterQuotesWrongFalsely : Prop := letterQuotesRow.holds Tryd.pinned (OpenSpec.ofChange letterQuotesWrong)

/-- 'cobweblaw01.LetterBack': WHATEVER THE INPUT: true; the input reads as it did. -/
def letterBackSpec : ChangeSpec := { name := "letterBack", fn := fun _ => fun
  | [d1, d2] => { results := [.lit (.bool true)], args := [d1, d2] }
  | _ => none }
def letterBackRow : OpenClaim := { program := "ytkigoikknoplhaadoor", sum := "530a24d90a4e7b9256420b2360a90cc1eb2aa9e3a9e20ddb9a9e79ed4c07ecef", func := "cobweb/cobweblaw01.LetterBack", spec := "letterBack", inPlace := ["internal/abi.NoEscape", "internal/bytealg.MakeNoZero"], unfollowed := true, recurses := true, named := ["unicode/utf8.first", "unicode/utf8.acceptRanges"], apart := false, laid := [("unicode/utf8.acceptRanges", laid_unicode_utf8_acceptRanges), ("unicode/utf8.first", laid_unicode_utf8_first)] }
def LetterBackSaid : Prop := letterBackRow.holds Tryd.pinned (OpenSpec.ofChange letterBackSpec)

/-- ITS FALSE NEIGHBOUR: 'it returns false'. Refute it at one input. -/
def letterBackWrong : ChangeSpec := { name := "letterBack", fn := fun _ => fun
  | [d1, d2] => { results := [.lit (.bool false)], args := [d1, d2] }
  | _ => none }
def LetterBackWrongFalsely : Prop := letterBackRow.holds Tryd.pinned (OpenSpec.ofChange letterBackWrong)

/-- 'cobweblaw01.LetterCompares': WHATEVER THE INPUT: true; the input reads as it did. -/
def letterComparesSpec : ChangeSpec := { name := "letterCompares", fn := fun _ => fun
  | [d1, d2, d3] => { results := [.lit (.bool true)], args := [d1, d2, d3] }
  | _ => none }
def letterComparesRow : OpenClaim := { program := "ytkigoikknoplhaadoor", sum := "530a24d90a4e7b9256420b2360a90cc1eb2aa9e3a9e20ddb9a9e79ed4c07ecef", func := "cobweb/cobweblaw01.LetterCompares", spec := "letterCompares", inPlace := ["internal/abi.NoEscape", "internal/bytealg.MakeNoZero"], unfollowed := true, recurses := true, named := ["unicode/utf8.first", "unicode/utf8.acceptRanges"], apart := false, laid := [("unicode/utf8.acceptRanges", laid_unicode_utf8_acceptRanges), ("unicode/utf8.first", laid_unicode_utf8_first)] }
def LetterComparesSaid : Prop := letterComparesRow.holds Tryd.pinned (OpenSpec.ofChange letterComparesSpec)

/-- ITS FALSE NEIGHBOUR: 'it returns false'. Refute it at one input. -/
def letterComparesWrong : ChangeSpec := { name := "letterCompares", fn := fun _ => fun
  | [d1, d2, d3] => { results := [.lit (.bool false)], args := [d1, d2, d3] }
  | _ => none }
def LetterComparesWrongFalsely : Prop := letterComparesRow.holds Tryd.pinned (OpenSpec.ofChange letterComparesWrong)

/-- 'cobweblaw01.LetterStars': WHATEVER THE INPUT: true; the input reads as it did. -/
def letterStarsSpec : ChangeSpec := { name := "letterStars", fn := fun _ => fun
  | [d1, d2, d3] => { results := [.lit (.bool true)], args := [d1, d2, d3] }
  | _ => none }
def letterStarsRow : OpenClaim := { program := "ytkigoikknoplhaadoor", sum := "530a24d90a4e7b9256420b2360a90cc1eb2aa9e3a9e20ddb9a9e79ed4c07ecef", func := "cobweb/cobweblaw01.LetterStars", spec := "letterStars", inPlace := ["internal/abi.NoEscape", "internal/bytealg.MakeNoZero"], unfollowed := true, recurses := true, named := ["unicode/utf8.first", "unicode/utf8.acceptRanges"], apart := false, laid := [("unicode/utf8.acceptRanges", laid_unicode_utf8_acceptRanges), ("unicode/utf8.first", laid_unicode_utf8_first)] }
def LetterStarsSaid : Prop := letterStarsRow.holds Tryd.pinned (OpenSpec.ofChange letterStarsSpec)

/-- ITS FALSE NEIGHBOUR: 'it returns false'. Refute it at one input. -/
def letterStarsWrong : ChangeSpec := { name := "letterStars", fn := fun _ => fun
  | [d1, d2, d3] => { results := [.lit (.bool false)], args := [d1, d2, d3] }
  | _ => none }
def LetterStarsWrongFalsely : Prop := letterStarsRow.holds Tryd.pinned (OpenSpec.ofChange letterStarsWrong)

/-- 'cobweblaw01.LetterHeads': WHATEVER THE INPUT: true; the input reads as it did. -/
def letterHeadsSpec : ChangeSpec := { name := "letterHeads", fn := fun _ => fun
  | [d1, d2, d3] => { results := [.lit (.bool true)], args := [d1, d2, d3] }
  | _ => none }
def letterHeadsRow : OpenClaim := { program := "ytkigoikknoplhaadoor", sum := "530a24d90a4e7b9256420b2360a90cc1eb2aa9e3a9e20ddb9a9e79ed4c07ecef", func := "cobweb/cobweblaw01.LetterHeads", spec := "letterHeads", inPlace := ["internal/abi.NoEscape", "internal/bytealg.MakeNoZero"], unfollowed := true, recurses := true, named := ["unicode/utf8.first", "unicode/utf8.acceptRanges"], apart := false, laid := [("unicode/utf8.acceptRanges", laid_unicode_utf8_acceptRanges), ("unicode/utf8.first", laid_unicode_utf8_first)] }
def LetterHeadsSaid : Prop := letterHeadsRow.holds Tryd.pinned (OpenSpec.ofChange letterHeadsSpec)

/-- ITS FALSE NEIGHBOUR: 'it returns false'. Refute it at one input. -/
def letterHeadsWrong : ChangeSpec := { name := "letterHeads", fn := fun _ => fun
  | [d1, d2, d3] => { results := [.lit (.bool false)], args := [d1, d2, d3] }
  | _ => none }
def LetterHeadsWrongFalsely : Prop := letterHeadsRow.holds Tryd.pinned (OpenSpec.ofChange letterHeadsWrong)

/- THE SECOND FORM. 'bulk': how many values and letters a reading holds, each counted each time it is reached (what is shared counts as often as it is met; a slice's spare places count too). A statement '..UptoSaid' is the law's where the arguments, and the package variables that the reading takes, are together of bulk at most 1048576: NARROWER than '..Said'. Prove '..Said' where nothing that the law and all that it calls make is longer than what came in: it says more and counts as full. Else prove '..UptoSaid'. A law counts once. -/
mutual
def uptoBulk {H : Type} : DataW H → Nat
  | .lit (.string bytes) => bytes.length + 1
  | .lit _ => 1
  | .nil => 1
  | .ptr d => uptoBulk d + 1
  | .slice elems spare => uptoBulkAll elems + uptoBulkAll spare + 1
  | .agg parts => uptoBulkAll parts + 1
  | .iface _ d => uptoBulk d + 1
  | .map entries => uptoBulkEntries entries + 1
  | .held _ => 1
def uptoBulkAll {H : Type} : List (DataW H) → Nat
  | [] => 0
  | d :: r => uptoBulk d + uptoBulkAll r
def uptoBulkEntries {H : Type} : List (Lit × DataW H) → Nat
  | [] => 0
  | x :: r => uptoBulkEntry x + uptoBulkEntries r
def uptoBulkEntry {H : Type} : Lit × DataW H → Nat
  | (.string bytes, d) => bytes.length + uptoBulk d + 1
  | (_, d) => uptoBulk d + 1
 end
def uptoSmall : (H : Type) → List (DataW H) → Bool := fun _ ds => decide (uptoBulkAll ds ≤ 1048576)
def OpenSpec.upto (s : _root_.Go.ChangeSpec) : _root_.Go.OpenSpec := { _root_.Go.OpenSpec.ofChange s with cond := some uptoSmall }

/-- 'cobweblaw01.LetterNames', WHERE WHAT IT READS IS OF BULK AT MOST 1048576: true; the input reads as it did. -/
def letterNamesUptoRow : OpenClaim := { program := "ytkigoikknoplhaadoor", sum := "530a24d90a4e7b9256420b2360a90cc1eb2aa9e3a9e20ddb9a9e79ed4c07ecef", func := "cobweb/cobweblaw01.LetterNames", spec := "letterNames", inPlace := ["internal/abi.NoEscape", "internal/bytealg.MakeNoZero"], unfollowed := true, recurses := true, named := ["unicode/utf8.first", "unicode/utf8.acceptRanges"], apart := false, laid := [("unicode/utf8.acceptRanges", laid_unicode_utf8_acceptRanges), ("unicode/utf8.first", laid_unicode_utf8_first)], narrowed := true }
def LetterNamesUptoSaid : Prop := letterNamesUptoRow.holds Tryd.pinned (OpenSpec.upto letterNamesSpec)

/-- 'cobweblaw01.LetterFits', WHERE WHAT IT READS IS OF BULK AT MOST 1048576: true; the input reads as it did. -/
def letterFitsUptoRow : OpenClaim := { program := "ytkigoikknoplhaadoor", sum := "530a24d90a4e7b9256420b2360a90cc1eb2aa9e3a9e20ddb9a9e79ed4c07ecef", func := "cobweb/cobweblaw01.LetterFits", spec := "letterFits", inPlace := ["internal/abi.NoEscape", "internal/bytealg.MakeNoZero"], unfollowed := true, recurses := true, named := ["unicode/utf8.first", "unicode/utf8.acceptRanges"], apart := false, laid := [("unicode/utf8.acceptRanges", laid_unicode_utf8_acceptRanges), ("unicode/utf8.first", laid_unicode_utf8_first)], narrowed := true }
def LetterFitsUptoSaid : Prop := letterFitsUptoRow.holds Tryd.pinned (OpenSpec.upto letterFitsSpec)

/-- 'cobweblaw01.LetterFolds', WHERE WHAT IT READS IS OF BULK AT MOST 1048576: true; the input reads as it did. -/
def letterFoldsUptoRow : OpenClaim := { program := "ytkigoikknoplhaadoor", sum := "530a24d90a4e7b9256420b2360a90cc1eb2aa9e3a9e20ddb9a9e79ed4c07ecef", func := "cobweb/cobweblaw01.LetterFolds", spec := "letterFolds", inPlace := ["internal/abi.NoEscape", "internal/bytealg.MakeNoZero"], unfollowed := true, recurses := true, named := ["unicode/utf8.first", "unicode/utf8.acceptRanges"], apart := false, laid := [("unicode/utf8.acceptRanges", laid_unicode_utf8_acceptRanges), ("unicode/utf8.first", laid_unicode_utf8_first)], narrowed := true }
def LetterFoldsUptoSaid : Prop := letterFoldsUptoRow.holds Tryd.pinned (OpenSpec.upto letterFoldsSpec)

/-- 'cobweblaw01.LetterCuts', WHERE WHAT IT READS IS OF BULK AT MOST 1048576: true; the input reads as it did. -/
def letterCutsUptoRow : OpenClaim := { program := "ytkigoikknoplhaadoor", sum := "530a24d90a4e7b9256420b2360a90cc1eb2aa9e3a9e20ddb9a9e79ed4c07ecef", func := "cobweb/cobweblaw01.LetterCuts", spec := "letterCuts", inPlace := ["internal/abi.NoEscape", "internal/bytealg.MakeNoZero"], unfollowed := true, recurses := true, named := ["unicode/utf8.first", "unicode/utf8.acceptRanges"], apart := false, laid := [("unicode/utf8.acceptRanges", laid_unicode_utf8_acceptRanges), ("unicode/utf8.first", laid_unicode_utf8_first)], narrowed := true }
def LetterCutsUptoSaid : Prop := letterCutsUptoRow.holds Tryd.pinned (OpenSpec.upto letterCutsSpec)

/-- 'cobweblaw01.LetterQuotes', WHERE WHAT IT READS IS OF BULK AT MOST 1048576: true; the input reads as it did. -/
def letterQuotesUptoRow : OpenClaim := { program := "ytkigoikknoplhaadoor", sum := "530a24d90a4e7b9256420b2360a90cc1eb2aa9e3a9e20ddb9a9e79ed4c07ecef", func := "cobweb/cobweblaw01.LetterQuotes", spec := "letterQuotes", inPlace := ["internal/abi.NoEscape", "internal/bytealg.MakeNoZero"], unfollowed := true, recurses := true, named := ["unicode/utf8.first", "unicode/utf8.acceptRanges"], apart := false, laid := [("unicode/utf8.acceptRanges", laid_unicode_utf8_acceptRanges), ("unicode/utf8.first", laid_unicode_utf8_first)], narrowed := true }
def LetterQuotesUptoSaid : Prop := letterQuotesUptoRow.holds Tryd.pinned (OpenSpec.upto letterQuotesSpec)

/-- 'cobweblaw01.LetterBack', WHERE WHAT IT READS IS OF BULK AT MOST 1048576: true; the input reads as it did. -/
def letterBackUptoRow : OpenClaim := { program := "ytkigoikknoplhaadoor", sum := "530a24d90a4e7b9256420b2360a90cc1eb2aa9e3a9e20ddb9a9e79ed4c07ecef", func := "cobweb/cobweblaw01.LetterBack", spec := "letterBack", inPlace := ["internal/abi.NoEscape", "internal/bytealg.MakeNoZero"], unfollowed := true, recurses := true, named := ["unicode/utf8.first", "unicode/utf8.acceptRanges"], apart := false, laid := [("unicode/utf8.acceptRanges", laid_unicode_utf8_acceptRanges), ("unicode/utf8.first", laid_unicode_utf8_first)], narrowed := true }
def LetterBackUptoSaid : Prop := letterBackUptoRow.holds Tryd.pinned (OpenSpec.upto letterBackSpec)

/-- 'cobweblaw01.LetterCompares', WHERE WHAT IT READS IS OF BULK AT MOST 1048576: true; the input reads as it did. -/
def letterComparesUptoRow : OpenClaim := { program := "ytkigoikknoplhaadoor", sum := "530a24d90a4e7b9256420b2360a90cc1eb2aa9e3a9e20ddb9a9e79ed4c07ecef", func := "cobweb/cobweblaw01.LetterCompares", spec := "letterCompares", inPlace := ["internal/abi.NoEscape", "internal/bytealg.MakeNoZero"], unfollowed := true, recurses := true, named := ["unicode/utf8.first", "unicode/utf8.acceptRanges"], apart := false, laid := [("unicode/utf8.acceptRanges", laid_unicode_utf8_acceptRanges), ("unicode/utf8.first", laid_unicode_utf8_first)], narrowed := true }
def LetterComparesUptoSaid : Prop := letterComparesUptoRow.holds Tryd.pinned (OpenSpec.upto letterComparesSpec)

/-- 'cobweblaw01.LetterStars', WHERE WHAT IT READS IS OF BULK AT MOST 1048576: true; the input reads as it did. -/
def letterStarsUptoRow : OpenClaim := { program := "ytkigoikknoplhaadoor", sum := "530a24d90a4e7b9256420b2360a90cc1eb2aa9e3a9e20ddb9a9e79ed4c07ecef", func := "cobweb/cobweblaw01.LetterStars", spec := "letterStars", inPlace := ["internal/abi.NoEscape", "internal/bytealg.MakeNoZero"], unfollowed := true, recurses := true, named := ["unicode/utf8.first", "unicode/utf8.acceptRanges"], apart := false, laid := [("unicode/utf8.acceptRanges", laid_unicode_utf8_acceptRanges), ("unicode/utf8.first", laid_unicode_utf8_first)], narrowed := true }
def LetterStarsUptoSaid : Prop := letterStarsUptoRow.holds Tryd.pinned (OpenSpec.upto letterStarsSpec)

/-- 'cobweblaw01.LetterHeads', WHERE WHAT IT READS IS OF BULK AT MOST 1048576: true; the input reads as it did. -/
def letterHeadsUptoRow : OpenClaim := { program := "ytkigoikknoplhaadoor", sum := "530a24d90a4e7b9256420b2360a90cc1eb2aa9e3a9e20ddb9a9e79ed4c07ecef", func := "cobweb/cobweblaw01.LetterHeads", spec := "letterHeads", inPlace := ["internal/abi.NoEscape", "internal/bytealg.MakeNoZero"], unfollowed := true, recurses := true, named := ["unicode/utf8.first", "unicode/utf8.acceptRanges"], apart := false, laid := [("unicode/utf8.acceptRanges", laid_unicode_utf8_acceptRanges), ("unicode/utf8.first", laid_unicode_utf8_first)], narrowed := true }
def LetterHeadsUptoSaid : Prop := letterHeadsUptoRow.holds Tryd.pinned (OpenSpec.upto letterHeadsSpec)

end Rows
end Go.Proofs.YtkigoikknoplhaaDoor
