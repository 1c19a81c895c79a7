/-
  What the seat's program is asked once.
-/
import Derived.Test.YtlchgobakkodbaaA14
import Derived.Test.YtlchgobakkodbaaRows
import Derived.KernelRfl
namespace Go.Proofs.Ytlchgobakkodbaa
open Go.AL
theorem hmix : Try.prog.follows .mixedOrders = true := by kernel_rfl
theorem hown : ownKnob Try.prog.godebug = none := by kernel_rfl
end Go.Proofs.Ytlchgobakkodbaa
