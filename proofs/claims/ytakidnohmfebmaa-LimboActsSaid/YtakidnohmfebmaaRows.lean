/-
  No cell of these rows narrows 'for every input' (looked for: loops, veiled, ifaces, maps, wideKeys, modest, calm, conditions, laid).
  DERIVED. THE GIVEN ROWS OF THIS SEAT. 3 by the template 'for every input the law returns true; each argument reads behind the call as it read before'; 0 by the template 'total and deterministic' (their statements: YtakidnohmfebmaaTotals.lean).
  GIVEN WITH THE SEED: the statements are not yours to turn. If you find one false, say at which input.
  Laid BY PROGRAM, IN A SANDBOX (cutbox-rows.mjs): the forced cells as the released guide's own fill.sh prints them over the translation 991abedf00233130… (all of the seat's roots in one cut). By AI agents, Wed Nov 11 2026. No macro, syntax, notation, axiom, sorry.
-/
import Derived.Test.YtakidnohmfebmaaChecked
import GoSem.Claim
import GoSem.ClaimJoined
import GoSem.ClaimMapViews
import Derived.JoinedTies
import Derived.KernelRfl
namespace Go.Proofs.Ytakidnohmfebmaa
/- THE CELL 'sum', in the pinned program and in every row, IS THE sha256 OF THE DUMP (.gsa) THAT YtakidnohmfebmaaProg.lean LOADS. Nothing in Lean hashes anything: it is a label: what it is worth is what the hold of that sum in a sandbox is worth. -/
noncomputable def Try.pinned : Pinned := { name := "ytakidnohmfebmaa", sum := "991abedf002331308a81b216002febf36c1274555e678fc8bfb2d1b769eefe70", checked := Try.checked }
namespace Rows
def none {H : Type} : Left H := { results := [], args := [] }

/-- 'cobweblaw12.LimboOnce': WHATEVER THE INPUT: true; the input reads as it did. -/
def limboOnceSpec : ChangeSpec := { name := "limboOnce", fn := fun _ => fun
  | [d1, d2] => { results := [.lit (.bool true)], args := [d1, d2] }
  | _ => none }
def limboOnceRow : OpenClaim := { program := "ytakidnohmfebmaa", sum := "991abedf002331308a81b216002febf36c1274555e678fc8bfb2d1b769eefe70", func := "cobweb/cobweblaw12.LimboOnce", spec := "limboOnce", unfollowed := true, recurses := true, plainKeys := false, apart := false }
def LimboOnceSaid : Prop := limboOnceRow.holds Try.pinned (OpenSpec.ofChange limboOnceSpec)

/-- ITS FALSE NEIGHBOUR: 'it returns false'. Refute it at one input. -/
def limboOnceWrong : ChangeSpec := { name := "limboOnce", fn := fun _ => fun
  | [d1, d2] => { results := [.lit (.bool false)], args := [d1, d2] }
  | _ => none }
def LimboOnceWrongFalsely : Prop := limboOnceRow.holds Try.pinned (OpenSpec.ofChange limboOnceWrong)

/-- 'cobweblaw12.LimboWaits': WHATEVER THE INPUT: true; the input reads as it did. -/
def limboWaitsSpec : ChangeSpec := { name := "limboWaits", fn := fun _ => fun
  | [d1, d2, d3] => { results := [.lit (.bool true)], args := [d1, d2, d3] }
  | _ => none }
def limboWaitsRow : OpenClaim := { program := "ytakidnohmfebmaa", sum := "991abedf002331308a81b216002febf36c1274555e678fc8bfb2d1b769eefe70", func := "cobweb/cobweblaw12.LimboWaits", spec := "limboWaits", unfollowed := true, recurses := true, plainKeys := false, apart := false }
def LimboWaitsSaid : Prop := limboWaitsRow.holds Try.pinned (OpenSpec.ofChange limboWaitsSpec)

/-- ITS FALSE NEIGHBOUR: 'it returns false'. Refute it at one input. -/
def limboWaitsWrong : ChangeSpec := { name := "limboWaits", fn := fun _ => fun
  | [d1, d2, d3] => { results := [.lit (.bool false)], args := [d1, d2, d3] }
  | _ => none }
def LimboWaitsWrongFalsely : Prop := limboWaitsRow.holds Try.pinned (OpenSpec.ofChange limboWaitsWrong)

/-- 'cobweblaw12.LimboActs': WHATEVER THE INPUT: true; the input reads as it did. -/
def limboActsSpec : ChangeSpec := { name := "limboActs", fn := fun _ => fun
  | [d] => { results := [.lit (.bool true)], args := [d] }
  | _ => none }
def limboActsRow : OpenClaim := { program := "ytakidnohmfebmaa", sum := "991abedf002331308a81b216002febf36c1274555e678fc8bfb2d1b769eefe70", func := "cobweb/cobweblaw12.LimboActs", spec := "limboActs", unfollowed := true, recurses := true, plainKeys := false, apart := false }
def LimboActsSaid : Prop := limboActsRow.holds Try.pinned (OpenSpec.ofChange limboActsSpec)

/-- ITS FALSE NEIGHBOUR: 'it returns false'. Refute it at one input. -/
def limboActsWrong : ChangeSpec := { name := "limboActs", fn := fun _ => fun
  | [d] => { results := [.lit (.bool false)], args := [d] }
  | _ => none }
def LimboActsWrongFalsely : Prop := limboActsRow.holds Try.pinned (OpenSpec.ofChange limboActsWrong)

/- THE SECOND FORM. 'bulk': how many values and letters a reading holds, each counted each time it is reached (what is shared counts as often as it is met; a slice's spare places count too). A statement '..UptoSaid' is the law's where the arguments, and the package variables that the reading takes, are together of bulk at most 1048576: NARROWER than '..Said'. Prove '..Said' where nothing that the law and all that it calls make is longer than what came in: it says more and counts as full. Else prove '..UptoSaid'. A law counts once. -/
mutual
def uptoBulk {H : Type} : DataW H → Nat
  | .lit (.string bytes) => bytes.length + 1
  | .lit _ => 1
  | .nil => 1
  | .ptr d => uptoBulk d + 1
  | .slice elems spare => uptoBulkAll elems + uptoBulkAll spare + 1
  | .agg parts => uptoBulkAll parts + 1
  | .iface _ d => uptoBulk d + 1
  | .map entries => uptoBulkEntries entries + 1
  | .held _ => 1
def uptoBulkAll {H : Type} : List (DataW H) → Nat
  | [] => 0
  | d :: r => uptoBulk d + uptoBulkAll r
def uptoBulkEntries {H : Type} : List (Lit × DataW H) → Nat
  | [] => 0
  | x :: r => uptoBulkEntry x + uptoBulkEntries r
def uptoBulkEntry {H : Type} : Lit × DataW H → Nat
  | (.string bytes, d) => bytes.length + uptoBulk d + 1
  | (_, d) => uptoBulk d + 1
 end
def uptoSmall : (H : Type) → List (DataW H) → Bool := fun _ ds => decide (uptoBulkAll ds ≤ 1048576)
def OpenSpec.upto (s : _root_.Go.ChangeSpec) : _root_.Go.OpenSpec := { _root_.Go.OpenSpec.ofChange s with cond := some uptoSmall }

/-- 'cobweblaw12.LimboOnce', WHERE WHAT IT READS IS OF BULK AT MOST 1048576: true; the input reads as it did. -/
def limboOnceUptoRow : OpenClaim := { program := "ytakidnohmfebmaa", sum := "991abedf002331308a81b216002febf36c1274555e678fc8bfb2d1b769eefe70", func := "cobweb/cobweblaw12.LimboOnce", spec := "limboOnce", unfollowed := true, recurses := true, plainKeys := false, apart := false, narrowed := true }
def LimboOnceUptoSaid : Prop := limboOnceUptoRow.holds Try.pinned (OpenSpec.upto limboOnceSpec)

/-- 'cobweblaw12.LimboWaits', WHERE WHAT IT READS IS OF BULK AT MOST 1048576: true; the input reads as it did. -/
def limboWaitsUptoRow : OpenClaim := { program := "ytakidnohmfebmaa", sum := "991abedf002331308a81b216002febf36c1274555e678fc8bfb2d1b769eefe70", func := "cobweb/cobweblaw12.LimboWaits", spec := "limboWaits", unfollowed := true, recurses := true, plainKeys := false, apart := false, narrowed := true }
def LimboWaitsUptoSaid : Prop := limboWaitsUptoRow.holds Try.pinned (OpenSpec.upto limboWaitsSpec)

/-- 'cobweblaw12.LimboActs', WHERE WHAT IT READS IS OF BULK AT MOST 1048576: true; the input reads as it did. -/
def limboActsUptoRow : OpenClaim := { program := "ytakidnohmfebmaa", sum := "991abedf002331308a81b216002febf36c1274555e678fc8bfb2d1b769eefe70", func := "cobweb/cobweblaw12.LimboActs", spec := "limboActs", unfollowed := true, recurses := true, plainKeys := false, apart := false, narrowed := true }
def LimboActsUptoSaid : Prop := limboActsUptoRow.holds Try.pinned (OpenSpec.upto limboActsSpec)

end Rows
end Go.Proofs.Ytakidnohmfebmaa
