/-
  The abstract layer, part 0: the cells that are known of the world when a law begins: the powers of ten, and the two errors of strconv.
-/
import GoSem.Claim
namespace Go.AL
/-- Block, place, value. -/
def tabs : List (Nat × Nat × Value) := (List.range 20).map fun i => (3, i, Value.int .u64 ((10 ^ i : Nat) : Int))
def isErrV (v : Value) : Prop := ∃ t p, v = .iface t p
/-- Block, place, what is known of the value. -/
def tabsP : List (Nat × Nat × (Value → Prop)) := [(1, 0, isErrV), (2, 0, isErrV)]
/-- Blocks, how many cells they have. -/
def tabsB : List (Nat × Nat) := [(3, 20)]
end Go.AL
