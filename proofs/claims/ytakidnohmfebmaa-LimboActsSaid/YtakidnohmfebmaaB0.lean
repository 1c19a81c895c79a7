/-
  What the seat's program is asked once.
-/
import Derived.Test.YtakidnohmfebmaaA14
import Derived.Test.YtakidnohmfebmaaRows
import Derived.KernelRfl
namespace Go.Proofs.Ytakidnohmfebmaa
open Go.AL
theorem hmix : Try.prog.follows .mixedOrders = true := by kernel_rfl
theorem hown : ownKnob Try.prog.godebug = none := by kernel_rfl
end Go.Proofs.Ytakidnohmfebmaa
