/-
  What the seat's program is asked once.
-/
import Derived.Test.YteohhklblbinbaaDoorA14
import Derived.Test.YteohhklblbinbaaDoorRows
import Derived.KernelRfl
namespace Go.Proofs.YteohhklblbinbaaDoor
open Go.AL
theorem hmix : Tryd.prog.follows .mixedOrders = true := by kernel_rfl
theorem hown : ownKnob Tryd.prog.godebug = none := by kernel_rfl
end Go.Proofs.YteohhklblbinbaaDoor
