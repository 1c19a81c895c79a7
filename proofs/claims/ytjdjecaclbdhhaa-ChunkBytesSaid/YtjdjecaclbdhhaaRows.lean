/-
  No cell of these rows narrows 'for every input' (looked for: loops, veiled, ifaces, maps, wideKeys, modest, calm, conditions, laid).
  DERIVED. THE GIVEN ROWS OF THIS SEAT. 5 by the template 'for every input the law returns true; each argument reads behind the call as it read before'; 0 by the template 'total and deterministic' (their statements: YtjdjecaclbdhhaaTotals.lean).
  GIVEN WITH THE SEED: the statements are not yours to turn. If you find one false, say at which input.
  Laid BY PROGRAM, IN A SANDBOX (cutbox-rows.mjs): the forced cells as the released guide's own fill.sh prints them over the translation b2c774b9cecf8409… (all of the seat's roots in one cut). By AI agents, Wed Nov 11 2026. No macro, syntax, notation, axiom, sorry.
-/
import Derived.Test.YtjdjecaclbdhhaaChecked
import GoSem.Claim
import GoSem.ClaimJoined
import GoSem.ClaimMapViews
import Derived.JoinedTies
import Derived.KernelRfl
namespace Go.Proofs.Ytjdjecaclbdhhaa
/- THE CELL 'sum', in the pinned program and in every row, IS THE sha256 OF THE DUMP (.gsa) THAT YtjdjecaclbdhhaaProg.lean LOADS. Nothing in Lean hashes anything: it is a label: what it is worth is what the hold of that sum in a sandbox is worth. -/
noncomputable def Try.pinned : Pinned := { name := "ytjdjecaclbdhhaa", sum := "b2c774b9cecf8409dc5f980b66cab00f7363540de31720618c563704cba7568e", checked := Try.checked }
namespace Rows
def none {H : Type} : Left H := { results := [], args := [] }

/-- 'cobweblaw10.ChunkOrders': WHATEVER THE INPUT: true; the input reads as it did. -/
def chunkOrdersSpec : ChangeSpec := { name := "chunkOrders", fn := fun _ => fun
  | [d1, d2] => { results := [.lit (.bool true)], args := [d1, d2] }
  | _ => none }
def chunkOrdersRow : OpenClaim := { program := "ytjdjecaclbdhhaa", sum := "b2c774b9cecf8409dc5f980b66cab00f7363540de31720618c563704cba7568e", func := "cobweb/cobweblaw10.ChunkOrders", spec := "chunkOrders", inPlace := ["slices.overlaps[int]"], unfollowed := true, recurses := true, apart := false }
def ChunkOrdersSaid : Prop := chunkOrdersRow.holds Try.pinned (OpenSpec.ofChange chunkOrdersSpec)

/-- ITS FALSE NEIGHBOUR: 'it returns false'. Refute it at one input. -/
def chunkOrdersWrong : ChangeSpec := { name := "chunkOrders", fn := fun _ => fun
  | [d1, d2] => { results := [.lit (.bool false)], args := [d1, d2] }
  | _ => none }
def ChunkOrdersWrongFalsely : Prop := chunkOrdersRow.holds Try.pinned (OpenSpec.ofChange chunkOrdersWrong)

/-- 'cobweblaw10.ChunkChanges': WHATEVER THE INPUT: true; the input reads as it did. -/
def chunkChangesSpec : ChangeSpec := { name := "chunkChanges", fn := fun _ => fun
  | [d1, d2] => { results := [.lit (.bool true)], args := [d1, d2] }
  | _ => none }
def chunkChangesRow : OpenClaim := { program := "ytjdjecaclbdhhaa", sum := "b2c774b9cecf8409dc5f980b66cab00f7363540de31720618c563704cba7568e", func := "cobweb/cobweblaw10.ChunkChanges", spec := "chunkChanges", inPlace := ["slices.overlaps[int]"], unfollowed := true, recurses := true, apart := false }
def ChunkChangesSaid : Prop := chunkChangesRow.holds Try.pinned (OpenSpec.ofChange chunkChangesSpec)

/-- ITS FALSE NEIGHBOUR: 'it returns false'. Refute it at one input. -/
def chunkChangesWrong : ChangeSpec := { name := "chunkChanges", fn := fun _ => fun
  | [d1, d2] => { results := [.lit (.bool false)], args := [d1, d2] }
  | _ => none }
def ChunkChangesWrongFalsely : Prop := chunkChangesRow.holds Try.pinned (OpenSpec.ofChange chunkChangesWrong)

/-- 'cobweblaw10.ChunkBytes': WHATEVER THE INPUT: true; the input reads as it did. -/
def chunkBytesSpec : ChangeSpec := { name := "chunkBytes", fn := fun _ => fun
  | [d1, d2, d3] => { results := [.lit (.bool true)], args := [d1, d2, d3] }
  | _ => none }
def chunkBytesRow : OpenClaim := { program := "ytjdjecaclbdhhaa", sum := "b2c774b9cecf8409dc5f980b66cab00f7363540de31720618c563704cba7568e", func := "cobweb/cobweblaw10.ChunkBytes", spec := "chunkBytes", inPlace := ["slices.overlaps[int]"], unfollowed := true, recurses := true, apart := false }
def ChunkBytesSaid : Prop := chunkBytesRow.holds Try.pinned (OpenSpec.ofChange chunkBytesSpec)

/-- ITS FALSE NEIGHBOUR: 'it returns false'. Refute it at one input. -/
def chunkBytesWrong : ChangeSpec := { name := "chunkBytes", fn := fun _ => fun
  | [d1, d2, d3] => { results := [.lit (.bool false)], args := [d1, d2, d3] }
  | _ => none }
def ChunkBytesWrongFalsely : Prop := chunkBytesRow.holds Try.pinned (OpenSpec.ofChange chunkBytesWrong)

/-- 'cobweblaw10.ChunkActs': WHATEVER THE INPUT: true; the input reads as it did. -/
def chunkActsSpec : ChangeSpec := { name := "chunkActs", fn := fun _ => fun
  | [d] => { results := [.lit (.bool true)], args := [d] }
  | _ => none }
def chunkActsRow : OpenClaim := { program := "ytjdjecaclbdhhaa", sum := "b2c774b9cecf8409dc5f980b66cab00f7363540de31720618c563704cba7568e", func := "cobweb/cobweblaw10.ChunkActs", spec := "chunkActs", inPlace := ["slices.overlaps[int]"], unfollowed := true, recurses := true, apart := false }
def ChunkActsSaid : Prop := chunkActsRow.holds Try.pinned (OpenSpec.ofChange chunkActsSpec)

/-- ITS FALSE NEIGHBOUR: 'it returns false'. Refute it at one input. -/
def chunkActsWrong : ChangeSpec := { name := "chunkActs", fn := fun _ => fun
  | [d] => { results := [.lit (.bool false)], args := [d] }
  | _ => none }
def ChunkActsWrongFalsely : Prop := chunkActsRow.holds Try.pinned (OpenSpec.ofChange chunkActsWrong)

/-- 'cobweblaw10.ChunkKeeps': WHATEVER THE INPUT: true; the input reads as it did. -/
def chunkKeepsSpec : ChangeSpec := { name := "chunkKeeps", fn := fun _ => fun
  | [d1, d2] => { results := [.lit (.bool true)], args := [d1, d2] }
  | _ => none }
def chunkKeepsRow : OpenClaim := { program := "ytjdjecaclbdhhaa", sum := "b2c774b9cecf8409dc5f980b66cab00f7363540de31720618c563704cba7568e", func := "cobweb/cobweblaw10.ChunkKeeps", spec := "chunkKeeps", inPlace := ["slices.overlaps[int]"], unfollowed := true, recurses := true, apart := false }
def ChunkKeepsSaid : Prop := chunkKeepsRow.holds Try.pinned (OpenSpec.ofChange chunkKeepsSpec)

/-- ITS FALSE NEIGHBOUR: 'it returns false'. Refute it at one input. -/
def chunkKeepsWrong : ChangeSpec := { name := "chunkKeeps", fn := fun _ => fun
  | [d1, d2] => { results := [.lit (.bool false)], args := [d1, d2] }
  | _ => none }
def ChunkKeepsWrongFalsely : Prop := chunkKeepsRow.holds Try.pinned (OpenSpec.ofChange chunkKeepsWrong)

/- THE SECOND FORM. 'bulk': how many values and letters a reading holds, each counted each time it is reached (what is shared counts as often as it is met; a slice's spare places count too). A statement '..UptoSaid' is the law's where the arguments, and the package variables that the reading takes, are together of bulk at most 1048576: NARROWER than '..Said'. Prove '..Said' where nothing that the law and all that it calls make is longer than what came in: it says more and counts as full. Else prove '..UptoSaid'. A law counts once. -/
mutual
def uptoBulk {H : Type} : DataW H → Nat
  | .lit (.string bytes) => bytes.length + 1
  | .lit _ => 1
  | .nil => 1
  | .ptr d => uptoBulk d + 1
  | .slice elems spare => uptoBulkAll elems + uptoBulkAll spare + 1
  | .agg parts => uptoBulkAll parts + 1
  | .iface _ d => uptoBulk d + 1
  | .map entries => uptoBulkEntries entries + 1
  | .held _ => 1
def uptoBulkAll {H : Type} : List (DataW H) → Nat
  | [] => 0
  | d :: r => uptoBulk d + uptoBulkAll r
def uptoBulkEntries {H : Type} : List (Lit × DataW H) → Nat
  | [] => 0
  | x :: r => uptoBulkEntry x + uptoBulkEntries r
def uptoBulkEntry {H : Type} : Lit × DataW H → Nat
  | (.string bytes, d) => bytes.length + uptoBulk d + 1
  | (_, d) => uptoBulk d + 1
 end
def uptoSmall : (H : Type) → List (DataW H) → Bool := fun _ ds => decide (uptoBulkAll ds ≤ 1048576)
def OpenSpec.upto (s : _root_.Go.ChangeSpec) : _root_.Go.OpenSpec := { _root_.Go.OpenSpec.ofChange s with cond := some uptoSmall }

/-- 'cobweblaw10.ChunkOrders', WHERE WHAT IT READS IS OF BULK AT MOST 1048576: true; the input reads as it did. -/
def chunkOrdersUptoRow : OpenClaim := { program := "ytjdjecaclbdhhaa", sum := "b2c774b9cecf8409dc5f980b66cab00f7363540de31720618c563704cba7568e", func := "cobweb/cobweblaw10.ChunkOrders", spec := "chunkOrders", inPlace := ["slices.overlaps[int]"], unfollowed := true, recurses := true, apart := false, narrowed := true }
def ChunkOrdersUptoSaid : Prop := chunkOrdersUptoRow.holds Try.pinned (OpenSpec.upto chunkOrdersSpec)

/-- 'cobweblaw10.ChunkChanges', WHERE WHAT IT READS IS OF BULK AT MOST 1048576: true; the input reads as it did. -/
def chunkChangesUptoRow : OpenClaim := { program := "ytjdjecaclbdhhaa", sum := "b2c774b9cecf8409dc5f980b66cab00f7363540de31720618c563704cba7568e", func := "cobweb/cobweblaw10.ChunkChanges", spec := "chunkChanges", inPlace := ["slices.overlaps[int]"], unfollowed := true, recurses := true, apart := false, narrowed := true }
def ChunkChangesUptoSaid : Prop := chunkChangesUptoRow.holds Try.pinned (OpenSpec.upto chunkChangesSpec)

/-- 'cobweblaw10.ChunkBytes', WHERE WHAT IT READS IS OF BULK AT MOST 1048576: true; the input reads as it did. -/
def chunkBytesUptoRow : OpenClaim := { program := "ytjdjecaclbdhhaa", sum := "b2c774b9cecf8409dc5f980b66cab00f7363540de31720618c563704cba7568e", func := "cobweb/cobweblaw10.ChunkBytes", spec := "chunkBytes", inPlace := ["slices.overlaps[int]"], unfollowed := true, recurses := true, apart := false, narrowed := true }
def ChunkBytesUptoSaid : Prop := chunkBytesUptoRow.holds Try.pinned (OpenSpec.upto chunkBytesSpec)

/-- 'cobweblaw10.ChunkActs', WHERE WHAT IT READS IS OF BULK AT MOST 1048576: true; the input reads as it did. -/
def chunkActsUptoRow : OpenClaim := { program := "ytjdjecaclbdhhaa", sum := "b2c774b9cecf8409dc5f980b66cab00f7363540de31720618c563704cba7568e", func := "cobweb/cobweblaw10.ChunkActs", spec := "chunkActs", inPlace := ["slices.overlaps[int]"], unfollowed := true, recurses := true, apart := false, narrowed := true }
def ChunkActsUptoSaid : Prop := chunkActsUptoRow.holds Try.pinned (OpenSpec.upto chunkActsSpec)

/-- 'cobweblaw10.ChunkKeeps', WHERE WHAT IT READS IS OF BULK AT MOST 1048576: true; the input reads as it did. -/
def chunkKeepsUptoRow : OpenClaim := { program := "ytjdjecaclbdhhaa", sum := "b2c774b9cecf8409dc5f980b66cab00f7363540de31720618c563704cba7568e", func := "cobweb/cobweblaw10.ChunkKeeps", spec := "chunkKeeps", inPlace := ["slices.overlaps[int]"], unfollowed := true, recurses := true, apart := false, narrowed := true }
def ChunkKeepsUptoSaid : Prop := chunkKeepsUptoRow.holds Try.pinned (OpenSpec.upto chunkKeepsSpec)

end Rows
end Go.Proofs.Ytjdjecaclbdhhaa
