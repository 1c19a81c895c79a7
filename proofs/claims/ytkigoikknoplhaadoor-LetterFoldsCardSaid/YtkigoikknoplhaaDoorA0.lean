/-
  The abstract layer, part 0: the cells that are known of the world when a law begins: the two tables of unicode/utf8.
-/
import GoSem.Claim
import Derived.Lib.DecodeN
namespace Go.AL
/-- Block, place, value. -/
def tabs : List (Nat × Nat × Value) :=
  ((List.range 256).map fun c => (0, c, Value.int .u8 (Lib.firstT c))) ++ (List.range 16).flatMap fun i => [(1, 2 * i, Value.int .u8 (Lib.accLo i)), (1, 2 * i + 1, Value.int .u8 (Lib.accHi i))]
end Go.AL
