/-
  The abstract layer, part 0: the cells that are known of the world when a law begins (package variables that are listed); none here.
-/
import GoSem.Claim
namespace Go.AL
/-- Block, place, value. -/
def tabs : List (Nat × Nat × Value) := []
/-- Block, place, what is known of the value. -/
def tabsP : List (Nat × Nat × (Value → Prop)) := []
/-- Blocks, how many cells they have. -/
def tabsB : List (Nat × Nat) := []
end Go.AL
