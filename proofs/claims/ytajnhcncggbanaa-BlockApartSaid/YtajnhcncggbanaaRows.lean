/-
  No cell of these rows narrows 'for every input' (looked for: loops, veiled, ifaces, maps, wideKeys, modest, calm, conditions, laid).
  DERIVED. THE GIVEN ROWS OF THIS SEAT. 5 by the template 'for every input the law returns true; each argument reads behind the call as it read before'; 0 by the template 'total and deterministic' (their statements: YtajnhcncggbanaaTotals.lean).
  GIVEN WITH THE SEED: the statements are not yours to turn. If you find one false, say at which input.
  Laid BY PROGRAM, IN A SANDBOX (cutbox-rows.mjs): the forced cells as the released guide's own fill.sh prints them over the translation b2176a003f543d46… (all of the seat's roots in one cut). By AI agents, Wed Nov 11 2026. No macro, syntax, notation, axiom, sorry.
-/
import Derived.Test.YtajnhcncggbanaaChecked
import GoSem.Claim
import GoSem.ClaimJoined
import GoSem.ClaimMapViews
import Derived.JoinedTies
import Derived.KernelRfl
namespace Go.Proofs.Ytajnhcncggbanaa
/- THE CELL 'sum', in the pinned program and in every row, IS THE sha256 OF THE DUMP (.gsa) THAT YtajnhcncggbanaaProg.lean LOADS. Nothing in Lean hashes anything: it is a label: what it is worth is what the hold of that sum in a sandbox is worth. -/
noncomputable def Try.pinned : Pinned := { name := "ytajnhcncggbanaa", sum := "b2176a003f543d46ec872010bd815bd2e87d97f88d662a3dff3cb57126ab761c", checked := Try.checked }
namespace Rows
def none {H : Type} : Left H := { results := [], args := [] }

/-- 'cobweblaw08.BlockSums': WHATEVER THE INPUT: true; the input reads as it did. -/
def blockSumsSpec : ChangeSpec := { name := "blockSums", fn := fun _ => fun
  | [d] => { results := [.lit (.bool true)], args := [d] }
  | _ => none }
def blockSumsRow : OpenClaim := { program := "ytajnhcncggbanaa", sum := "b2176a003f543d46ec872010bd815bd2e87d97f88d662a3dff3cb57126ab761c", func := "cobweb/cobweblaw08.BlockSums", spec := "blockSums", apart := false }
def BlockSumsSaid : Prop := blockSumsRow.holds Try.pinned (OpenSpec.ofChange blockSumsSpec)

/-- ITS FALSE NEIGHBOUR: 'it returns false'. Refute it at one input. -/
def blockSumsWrong : ChangeSpec := { name := "blockSums", fn := fun _ => fun
  | [d] => { results := [.lit (.bool false)], args := [d] }
  | _ => none }
def BlockSumsWrongFalsely : Prop := blockSumsRow.holds Try.pinned (OpenSpec.ofChange blockSumsWrong)

/-- 'cobweblaw08.BlockApart': WHATEVER THE INPUT: true; the input reads as it did. -/
def blockApartSpec : ChangeSpec := { name := "blockApart", fn := fun _ => fun
  | [d1, d2] => { results := [.lit (.bool true)], args := [d1, d2] }
  | _ => none }
def blockApartRow : OpenClaim := { program := "ytajnhcncggbanaa", sum := "b2176a003f543d46ec872010bd815bd2e87d97f88d662a3dff3cb57126ab761c", func := "cobweb/cobweblaw08.BlockApart", spec := "blockApart", apart := false }
def BlockApartSaid : Prop := blockApartRow.holds Try.pinned (OpenSpec.ofChange blockApartSpec)

/-- ITS FALSE NEIGHBOUR: 'it returns false'. Refute it at one input. -/
def blockApartWrong : ChangeSpec := { name := "blockApart", fn := fun _ => fun
  | [d1, d2] => { results := [.lit (.bool false)], args := [d1, d2] }
  | _ => none }
def BlockApartWrongFalsely : Prop := blockApartRow.holds Try.pinned (OpenSpec.ofChange blockApartWrong)

/-- 'cobweblaw08.BlockTakes': WHATEVER THE INPUT: true; the input reads as it did. -/
def blockTakesSpec : ChangeSpec := { name := "blockTakes", fn := fun _ => fun
  | [d] => { results := [.lit (.bool true)], args := [d] }
  | _ => none }
def blockTakesRow : OpenClaim := { program := "ytajnhcncggbanaa", sum := "b2176a003f543d46ec872010bd815bd2e87d97f88d662a3dff3cb57126ab761c", func := "cobweb/cobweblaw08.BlockTakes", spec := "blockTakes", apart := false }
def BlockTakesSaid : Prop := blockTakesRow.holds Try.pinned (OpenSpec.ofChange blockTakesSpec)

/-- ITS FALSE NEIGHBOUR: 'it returns false'. Refute it at one input. -/
def blockTakesWrong : ChangeSpec := { name := "blockTakes", fn := fun _ => fun
  | [d] => { results := [.lit (.bool false)], args := [d] }
  | _ => none }
def BlockTakesWrongFalsely : Prop := blockTakesRow.holds Try.pinned (OpenSpec.ofChange blockTakesWrong)

/-- 'cobweblaw08.BlockJoins': WHATEVER THE INPUT: true; the input reads as it did. -/
def blockJoinsSpec : ChangeSpec := { name := "blockJoins", fn := fun _ => fun
  | [d1, d2] => { results := [.lit (.bool true)], args := [d1, d2] }
  | _ => none }
def blockJoinsRow : OpenClaim := { program := "ytajnhcncggbanaa", sum := "b2176a003f543d46ec872010bd815bd2e87d97f88d662a3dff3cb57126ab761c", func := "cobweb/cobweblaw08.BlockJoins", spec := "blockJoins", apart := false }
def BlockJoinsSaid : Prop := blockJoinsRow.holds Try.pinned (OpenSpec.ofChange blockJoinsSpec)

/-- ITS FALSE NEIGHBOUR: 'it returns false'. Refute it at one input. -/
def blockJoinsWrong : ChangeSpec := { name := "blockJoins", fn := fun _ => fun
  | [d1, d2] => { results := [.lit (.bool false)], args := [d1, d2] }
  | _ => none }
def BlockJoinsWrongFalsely : Prop := blockJoinsRow.holds Try.pinned (OpenSpec.ofChange blockJoinsWrong)

/-- 'cobweblaw08.BlockPacks': WHATEVER THE INPUT: true; the input reads as it did. -/
def blockPacksSpec : ChangeSpec := { name := "blockPacks", fn := fun _ => fun
  | [d] => { results := [.lit (.bool true)], args := [d] }
  | _ => none }
def blockPacksRow : OpenClaim := { program := "ytajnhcncggbanaa", sum := "b2176a003f543d46ec872010bd815bd2e87d97f88d662a3dff3cb57126ab761c", func := "cobweb/cobweblaw08.BlockPacks", spec := "blockPacks", apart := false }
def BlockPacksSaid : Prop := blockPacksRow.holds Try.pinned (OpenSpec.ofChange blockPacksSpec)

/-- ITS FALSE NEIGHBOUR: 'it returns false'. Refute it at one input. -/
def blockPacksWrong : ChangeSpec := { name := "blockPacks", fn := fun _ => fun
  | [d] => { results := [.lit (.bool false)], args := [d] }
  | _ => none }
def BlockPacksWrongFalsely : Prop := blockPacksRow.holds Try.pinned (OpenSpec.ofChange blockPacksWrong)

/- THE SECOND FORM. 'bulk': how many values and letters a reading holds, each counted each time it is reached (what is shared counts as often as it is met; a slice's spare places count too). A statement '..UptoSaid' is the law's where the arguments, and the package variables that the reading takes, are together of bulk at most 1048576: NARROWER than '..Said'. Prove '..Said' where nothing that the law and all that it calls make is longer than what came in: it says more and counts as full. Else prove '..UptoSaid'. A law counts once. -/
mutual
def uptoBulk {H : Type} : DataW H → Nat
  | .lit (.string bytes) => bytes.length + 1
  | .lit _ => 1
  | .nil => 1
  | .ptr d => uptoBulk d + 1
  | .slice elems spare => uptoBulkAll elems + uptoBulkAll spare + 1
  | .agg parts => uptoBulkAll parts + 1
  | .iface _ d => uptoBulk d + 1
  | .map entries => uptoBulkEntries entries + 1
  | .held _ => 1
def uptoBulkAll {H : Type} : List (DataW H) → Nat
  | [] => 0
  | d :: r => uptoBulk d + uptoBulkAll r
def uptoBulkEntries {H : Type} : List (Lit × DataW H) → Nat
  | [] => 0
  | x :: r => uptoBulkEntry x + uptoBulkEntries r
def uptoBulkEntry {H : Type} : Lit × DataW H → Nat
  | (.string bytes, d) => bytes.length + uptoBulk d + 1
  | (_, d) => uptoBulk d + 1
 end
def uptoSmall : (H : Type) → List (DataW H) → Bool := fun _ ds => decide (uptoBulkAll ds ≤ 1048576)
def OpenSpec.upto (s : _root_.Go.ChangeSpec) : _root_.Go.OpenSpec := { _root_.Go.OpenSpec.ofChange s with cond := some uptoSmall }

/-- 'cobweblaw08.BlockSums', WHERE WHAT IT READS IS OF BULK AT MOST 1048576: true; the input reads as it did. -/
def blockSumsUptoRow : OpenClaim := { program := "ytajnhcncggbanaa", sum := "b2176a003f543d46ec872010bd815bd2e87d97f88d662a3dff3cb57126ab761c", func := "cobweb/cobweblaw08.BlockSums", spec := "blockSums", apart := false, narrowed := true }
def BlockSumsUptoSaid : Prop := blockSumsUptoRow.holds Try.pinned (OpenSpec.upto blockSumsSpec)

/-- 'cobweblaw08.BlockApart', WHERE WHAT IT READS IS OF BULK AT MOST 1048576: true; the input reads as it did. -/
def blockApartUptoRow : OpenClaim := { program := "ytajnhcncggbanaa", sum := "b2176a003f543d46ec872010bd815bd2e87d97f88d662a3dff3cb57126ab761c", func := "cobweb/cobweblaw08.BlockApart", spec := "blockApart", apart := false, narrowed := true }
def BlockApartUptoSaid : Prop := blockApartUptoRow.holds Try.pinned (OpenSpec.upto blockApartSpec)

/-- 'cobweblaw08.BlockTakes', WHERE WHAT IT READS IS OF BULK AT MOST 1048576: true; the input reads as it did. -/
def blockTakesUptoRow : OpenClaim := { program := "ytajnhcncggbanaa", sum := "b2176a003f543d46ec872010bd815bd2e87d97f88d662a3dff3cb57126ab761c", func := "cobweb/cobweblaw08.BlockTakes", spec := "blockTakes", apart := false, narrowed := true }
def BlockTakesUptoSaid : Prop := blockTakesUptoRow.holds Try.pinned (OpenSpec.upto blockTakesSpec)

/-- 'cobweblaw08.BlockJoins', WHERE WHAT IT READS IS OF BULK AT MOST 1048576: true; the input reads as it did. -/
def blockJoinsUptoRow : OpenClaim := { program := "ytajnhcncggbanaa", sum := "b2176a003f543d46ec872010bd815bd2e87d97f88d662a3dff3cb57126ab761c", func := "cobweb/cobweblaw08.BlockJoins", spec := "blockJoins", apart := false, narrowed := true }
def BlockJoinsUptoSaid : Prop := blockJoinsUptoRow.holds Try.pinned (OpenSpec.upto blockJoinsSpec)

/-- 'cobweblaw08.BlockPacks', WHERE WHAT IT READS IS OF BULK AT MOST 1048576: true; the input reads as it did. -/
def blockPacksUptoRow : OpenClaim := { program := "ytajnhcncggbanaa", sum := "b2176a003f543d46ec872010bd815bd2e87d97f88d662a3dff3cb57126ab761c", func := "cobweb/cobweblaw08.BlockPacks", spec := "blockPacks", apart := false, narrowed := true }
def BlockPacksUptoSaid : Prop := blockPacksUptoRow.holds Try.pinned (OpenSpec.upto blockPacksSpec)

end Rows
end Go.Proofs.Ytajnhcncggbanaa
