/-
  No cell of these rows narrows 'for every input' (looked for: loops, veiled, ifaces, maps, wideKeys, modest, calm, conditions, laid).
  DERIVED. THE GIVEN ROWS OF THIS SEAT. 5 by the template 'for every input the law returns true; each argument reads behind the call as it read before'; 0 by the template 'total and deterministic' (their statements: YtbghpjamahgegaaTotals.lean).
  GIVEN WITH THE SEED: the statements are not yours to turn. If you find one false, say at which input.
  Laid BY PROGRAM, IN A SANDBOX (cutbox-rows.mjs): the forced cells as the released guide's own fill.sh prints them over the translation cc81c86ad1557f04… (all of the seat's roots in one cut). By AI agents, Wed Nov 11 2026. No macro, syntax, notation, axiom, sorry.
-/
import Derived.Test.YtbghpjamahgegaaChecked
import GoSem.Claim
import GoSem.ClaimJoined
import GoSem.ClaimMapViews
import Derived.JoinedTies
import Derived.KernelRfl
namespace Go.Proofs.Ytbghpjamahgegaa
/- THE CELL 'sum', in the pinned program and in every row, IS THE sha256 OF THE DUMP (.gsa) THAT YtbghpjamahgegaaProg.lean LOADS. Nothing in Lean hashes anything: it is a label: what it is worth is what the hold of that sum in a sandbox is worth. -/
noncomputable def Try.pinned : Pinned := { name := "ytbghpjamahgegaa", sum := "cc81c86ad1557f04f97d165d4ec3b6872b4304402d2aabea53f09a3276aeb364", checked := Try.checked }
namespace Rows
def none {H : Type} : Left H := { results := [], args := [] }

/-- 'cobweblaw03.PropsApart': WHATEVER THE INPUT: true; the input reads as it did. -/
def propsApartSpec : ChangeSpec := { name := "propsApart", fn := fun _ => fun
  | [d1, d2] => { results := [.lit (.bool true)], args := [d1, d2] }
  | _ => none }
def propsApartRow : OpenClaim := { program := "ytbghpjamahgegaa", sum := "cc81c86ad1557f04f97d165d4ec3b6872b4304402d2aabea53f09a3276aeb364", func := "cobweb/cobweblaw03.PropsApart", spec := "propsApart", inPlace := ["slices.overlaps[cobweb/api.Prop]"], unfollowed := true, recurses := true, apart := false }
def PropsApartSaid : Prop := propsApartRow.holds Try.pinned (OpenSpec.ofChange propsApartSpec)

/-- ITS FALSE NEIGHBOUR: 'it returns false'. Refute it at one input. -/
def propsApartWrong : ChangeSpec := { name := "propsApart", fn := fun _ => fun
  | [d1, d2] => { results := [.lit (.bool false)], args := [d1, d2] }
  | _ => none }
def PropsApartWrongFalsely : Prop := propsApartRow.holds Try.pinned (OpenSpec.ofChange propsApartWrong)

/-- 'cobweblaw03.PropsOrder': WHATEVER THE INPUT: true; the input reads as it did. -/
def propsOrderSpec : ChangeSpec := { name := "propsOrder", fn := fun _ => fun
  | [d1, d2, d3] => { results := [.lit (.bool true)], args := [d1, d2, d3] }
  | _ => none }
def propsOrderRow : OpenClaim := { program := "ytbghpjamahgegaa", sum := "cc81c86ad1557f04f97d165d4ec3b6872b4304402d2aabea53f09a3276aeb364", func := "cobweb/cobweblaw03.PropsOrder", spec := "propsOrder", inPlace := ["slices.overlaps[cobweb/api.Prop]"], unfollowed := true, recurses := true, apart := false }
def PropsOrderSaid : Prop := propsOrderRow.holds Try.pinned (OpenSpec.ofChange propsOrderSpec)

/-- ITS FALSE NEIGHBOUR: 'it returns false'. Refute it at one input. -/
def propsOrderWrong : ChangeSpec := { name := "propsOrder", fn := fun _ => fun
  | [d1, d2, d3] => { results := [.lit (.bool false)], args := [d1, d2, d3] }
  | _ => none }
def PropsOrderWrongFalsely : Prop := propsOrderRow.holds Try.pinned (OpenSpec.ofChange propsOrderWrong)

/-- 'cobweblaw03.PropsGets': WHATEVER THE INPUT: true; the input reads as it did. -/
def propsGetsSpec : ChangeSpec := { name := "propsGets", fn := fun _ => fun
  | [d1, d2, d3] => { results := [.lit (.bool true)], args := [d1, d2, d3] }
  | _ => none }
def propsGetsRow : OpenClaim := { program := "ytbghpjamahgegaa", sum := "cc81c86ad1557f04f97d165d4ec3b6872b4304402d2aabea53f09a3276aeb364", func := "cobweb/cobweblaw03.PropsGets", spec := "propsGets", inPlace := ["slices.overlaps[cobweb/api.Prop]"], unfollowed := true, recurses := true, apart := false }
def PropsGetsSaid : Prop := propsGetsRow.holds Try.pinned (OpenSpec.ofChange propsGetsSpec)

/-- ITS FALSE NEIGHBOUR: 'it returns false'. Refute it at one input. -/
def propsGetsWrong : ChangeSpec := { name := "propsGets", fn := fun _ => fun
  | [d1, d2, d3] => { results := [.lit (.bool false)], args := [d1, d2, d3] }
  | _ => none }
def PropsGetsWrongFalsely : Prop := propsGetsRow.holds Try.pinned (OpenSpec.ofChange propsGetsWrong)

/-- 'cobweblaw03.PropsSets': WHATEVER THE INPUT: true; the input reads as it did. -/
def propsSetsSpec : ChangeSpec := { name := "propsSets", fn := fun _ => fun
  | [d1, d2, d3] => { results := [.lit (.bool true)], args := [d1, d2, d3] }
  | _ => none }
def propsSetsRow : OpenClaim := { program := "ytbghpjamahgegaa", sum := "cc81c86ad1557f04f97d165d4ec3b6872b4304402d2aabea53f09a3276aeb364", func := "cobweb/cobweblaw03.PropsSets", spec := "propsSets", inPlace := ["slices.overlaps[cobweb/api.Prop]"], unfollowed := true, recurses := true, apart := false }
def PropsSetsSaid : Prop := propsSetsRow.holds Try.pinned (OpenSpec.ofChange propsSetsSpec)

/-- ITS FALSE NEIGHBOUR: 'it returns false'. Refute it at one input. -/
def propsSetsWrong : ChangeSpec := { name := "propsSets", fn := fun _ => fun
  | [d1, d2, d3] => { results := [.lit (.bool false)], args := [d1, d2, d3] }
  | _ => none }
def PropsSetsWrongFalsely : Prop := propsSetsRow.holds Try.pinned (OpenSpec.ofChange propsSetsWrong)

/-- 'cobweblaw03.PropsTakes': WHATEVER THE INPUT: true; the input reads as it did. -/
def propsTakesSpec : ChangeSpec := { name := "propsTakes", fn := fun _ => fun
  | [d1, d2] => { results := [.lit (.bool true)], args := [d1, d2] }
  | _ => none }
def propsTakesRow : OpenClaim := { program := "ytbghpjamahgegaa", sum := "cc81c86ad1557f04f97d165d4ec3b6872b4304402d2aabea53f09a3276aeb364", func := "cobweb/cobweblaw03.PropsTakes", spec := "propsTakes", inPlace := ["slices.overlaps[cobweb/api.Prop]"], unfollowed := true, recurses := true, apart := false }
def PropsTakesSaid : Prop := propsTakesRow.holds Try.pinned (OpenSpec.ofChange propsTakesSpec)

/-- ITS FALSE NEIGHBOUR: 'it returns false'. Refute it at one input. -/
def propsTakesWrong : ChangeSpec := { name := "propsTakes", fn := fun _ => fun
  | [d1, d2] => { results := [.lit (.bool false)], args := [d1, d2] }
  | _ => none }
def PropsTakesWrongFalsely : Prop := propsTakesRow.holds Try.pinned (OpenSpec.ofChange propsTakesWrong)

/- THE SECOND FORM. 'bulk': how many values and letters a reading holds, each counted each time it is reached (what is shared counts as often as it is met; a slice's spare places count too). A statement '..UptoSaid' is the law's where the arguments, and the package variables that the reading takes, are together of bulk at most 1048576: NARROWER than '..Said'. Prove '..Said' where nothing that the law and all that it calls make is longer than what came in: it says more and counts as full. Else prove '..UptoSaid'. A law counts once. -/
mutual
def uptoBulk {H : Type} : DataW H → Nat
  | .lit (.string bytes) => bytes.length + 1
  | .lit _ => 1
  | .nil => 1
  | .ptr d => uptoBulk d + 1
  | .slice elems spare => uptoBulkAll elems + uptoBulkAll spare + 1
  | .agg parts => uptoBulkAll parts + 1
  | .iface _ d => uptoBulk d + 1
  | .map entries => uptoBulkEntries entries + 1
  | .held _ => 1
def uptoBulkAll {H : Type} : List (DataW H) → Nat
  | [] => 0
  | d :: r => uptoBulk d + uptoBulkAll r
def uptoBulkEntries {H : Type} : List (Lit × DataW H) → Nat
  | [] => 0
  | x :: r => uptoBulkEntry x + uptoBulkEntries r
def uptoBulkEntry {H : Type} : Lit × DataW H → Nat
  | (.string bytes, d) => bytes.length + uptoBulk d + 1
  | (_, d) => uptoBulk d + 1
 end
def uptoSmall : (H : Type) → List (DataW H) → Bool := fun _ ds => decide (uptoBulkAll ds ≤ 1048576)
def OpenSpec.upto (s : _root_.Go.ChangeSpec) : _root_.Go.OpenSpec := { _root_.Go.OpenSpec.ofChange s with cond := some uptoSmall }

/-- 'cobweblaw03.PropsApart', WHERE WHAT IT READS IS OF BULK AT MOST 1048576: true; the input reads as it did. -/
def propsApartUptoRow : OpenClaim := { program := "ytbghpjamahgegaa", sum := "cc81c86ad1557f04f97d165d4ec3b6872b4304402d2aabea53f09a3276aeb364", func := "cobweb/cobweblaw03.PropsApart", spec := "propsApart", inPlace := ["slices.overlaps[cobweb/api.Prop]"], unfollowed := true, recurses := true, apart := false, narrowed := true }
def PropsApartUptoSaid : Prop := propsApartUptoRow.holds Try.pinned (OpenSpec.upto propsApartSpec)

/-- 'cobweblaw03.PropsOrder', WHERE WHAT IT READS IS OF BULK AT MOST 1048576: true; the input reads as it did. -/
def propsOrderUptoRow : OpenClaim := { program := "ytbghpjamahgegaa", sum := "cc81c86ad1557f04f97d165d4ec3b6872b4304402d2aabea53f09a3276aeb364", func := "cobweb/cobweblaw03.PropsOrder", spec := "propsOrder", inPlace := ["slices.overlaps[cobweb/api.Prop]"], unfollowed := true, recurses := true, apart := false, narrowed := true }
def PropsOrderUptoSaid : Prop := propsOrderUptoRow.holds Try.pinned (OpenSpec.upto propsOrderSpec)

/-- 'cobweblaw03.PropsGets', WHERE WHAT IT READS IS OF BULK AT MOST 1048576: true; the input reads as it did. -/
def propsGetsUptoRow : OpenClaim := { program := "ytbghpjamahgegaa", sum := "cc81c86ad1557f04f97d165d4ec3b6872b4304402d2aabea53f09a3276aeb364", func := "cobweb/cobweblaw03.PropsGets", spec := "propsGets", inPlace := ["slices.overlaps[cobweb/api.Prop]"], unfollowed := true, recurses := true, apart := false, narrowed := true }
def PropsGetsUptoSaid : Prop := propsGetsUptoRow.holds Try.pinned (OpenSpec.upto propsGetsSpec)

/-- 'cobweblaw03.PropsSets', WHERE WHAT IT READS IS OF BULK AT MOST 1048576: true; the input reads as it did. -/
def propsSetsUptoRow : OpenClaim := { program := "ytbghpjamahgegaa", sum := "cc81c86ad1557f04f97d165d4ec3b6872b4304402d2aabea53f09a3276aeb364", func := "cobweb/cobweblaw03.PropsSets", spec := "propsSets", inPlace := ["slices.overlaps[cobweb/api.Prop]"], unfollowed := true, recurses := true, apart := false, narrowed := true }
def PropsSetsUptoSaid : Prop := propsSetsUptoRow.holds Try.pinned (OpenSpec.upto propsSetsSpec)

/-- 'cobweblaw03.PropsTakes', WHERE WHAT IT READS IS OF BULK AT MOST 1048576: true; the input reads as it did. -/
def propsTakesUptoRow : OpenClaim := { program := "ytbghpjamahgegaa", sum := "cc81c86ad1557f04f97d165d4ec3b6872b4304402d2aabea53f09a3276aeb364", func := "cobweb/cobweblaw03.PropsTakes", spec := "propsTakes", inPlace := ["slices.overlaps[cobweb/api.Prop]"], unfollowed := true, recurses := true, apart := false, narrowed := true }
def PropsTakesUptoSaid : Prop := propsTakesUptoRow.holds Try.pinned (OpenSpec.upto propsTakesSpec)

end Rows
end Go.Proofs.Ytbghpjamahgegaa
