/-
  What the seat's program is asked once.
-/
import Derived.Test.YtjdjecaclbdhhaaA14
import Derived.Test.YtjdjecaclbdhhaaRows
import Derived.KernelRfl
namespace Go.Proofs.Ytjdjecaclbdhhaa
open Go.AL
theorem hmix : Try.prog.follows .mixedOrders = true := by kernel_rfl
theorem hown : ownKnob Try.prog.godebug = none := by kernel_rfl
end Go.Proofs.Ytjdjecaclbdhhaa
