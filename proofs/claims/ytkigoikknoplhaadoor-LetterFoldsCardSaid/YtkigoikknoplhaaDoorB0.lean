/-
  What the seat's program is asked once.
-/
import Derived.Test.YtkigoikknoplhaaDoorA14
import Derived.Test.YtkigoikknoplhaaDoorRows
import Derived.KernelRfl
namespace Go.Proofs.YtkigoikknoplhaaDoor
open Go.AL
theorem hmix : Tryd.prog.follows .mixedOrders = true := by kernel_rfl
theorem hown : ownKnob Tryd.prog.godebug = none := by kernel_rfl
end Go.Proofs.YtkigoikknoplhaaDoor
