/-
  The texts Vs of this seat, one behind the other.
-/
import Derived.Test.YtcijjgfadkflmaaDoorZ7
import Derived.KernelRfl

section
set_option maxRecDepth 100000
set_option maxHeartbeats 0
set_option linter.unusedVariables false
namespace Go.Proofs.YtcijjgfadkflmaaDoor.V
open Go.AL Go.Proofs
noncomputable def cPrint : Cfg := { keep := [0, 1, 2, 3, 4, 5, 6, 7, 15, 23], cut := [], orc := ofList [thingE, itoaE, quoteE] }
noncomputable def cRead : Cfg := { keep := [0, 2, 3, 4, 5, 6, 7, 8, 16, 25, 32], cut := [], orc := ofList [atoiE, unquoteE, printE] }
noncomputable def cNumber : Cfg := { keep := [0, 1, 2], cut := [], orc := ofList [thingE] }
noncomputable def code_44_ : Code := (Tryd.f44.body).getD .skip
noncomputable def code_49_ : Code := (Tryd.f49.body).getD .skip
noncomputable def code_53_ : Code := (Tryd.f53.body).getD .skip
theorem print_i (k n : Int) (s : Txt) (Q : AVal → Sto → Prop) (ho : OrcOk Tryd.prog cPrint) (h : brV (hold (decide (k = (1 : Int) ∧ List.length s = 0))) true (∀ (y : List UInt8), y = Go.Lib.itoa n → gb (i64r n) (Q (AVal.str y) Sto.empty)) (brV (hold (decide (k = (2 : Int) ∧ n = (0 : Int) ∧ List.length s ≤ 200))) true (∀ (y : Txt), y = (34 : UInt8) :: (List.flatMap quoR (runeL s) ++ [(34 : UInt8)]) → gb (lenT s) (Q (AVal.str y) Sto.empty)) (Q (AVal.str [(63 : UInt8)]) Sto.empty))) : ACall Tryd.prog 44 [.agg [.int .i64 k, .int .i64 n, .str s]] (Sto.empty) Q :=
  ACall.intro hmix Tryd.func44 (c := code_44_) (by kernel_rfl) cPrint ho (Nat.le_of_ble_eq_true (by kernel_rfl)) (Eq.mpr (by kernel_rfl) h)
theorem read_i (s : Txt) (Q : AVal → Sto → Prop) (ho : OrcOk Tryd.prog cRead) (h : ∀ (y : Option Int), y = numT s → brV (hold (Option.isSome y)) true (gb (lenT s) (∀ (y_1 : Txt), y_1 = printV (Vl.mk (1 : Int) (Option.getD y (0 : Int)) []) → gb (i64r (Option.getD y (0 : Int))) (brV (hold !y_1 == s) true (Q (AVal.tuple [AVal.agg [AVal.int IntKind.i64 (0 : Int), AVal.int IntKind.i64 (0 : Int), AVal.str []], AVal.int IntKind.i64 (10 : Int)]) Sto.empty) (Q (AVal.tuple [AVal.agg [AVal.int IntKind.i64 (1 : Int), AVal.int IntKind.i64 (Option.getD y (0 : Int)), AVal.str []], AVal.int IntKind.i64 (0 : Int)]) Sto.empty)))) (∀ (y : Int), (y = if Go.Lib.atoiAll s = Go.Lib.NumEnd.range then Go.Lib.atoiSat s else (0 : Int)) → gb (lenT s) (∀ (y : Bool), y = Prod.snd (unqT s) → ∀ (y_1 : Txt), (y_1 = if y = true then Prod.fst (unqT s) else []) → gb (lenT s) (brV (hold ((if y = true then (0 : Int) else (10 : Int)) == (0 : Int))) true (∀ (y : Txt), y = printV (Vl.mk (2 : Int) (0 : Int) y_1) → gb (i64r (0 : Int)) (brV (hold !y == s) true (Q (AVal.tuple [AVal.agg [AVal.int IntKind.i64 (0 : Int), AVal.int IntKind.i64 (0 : Int), AVal.str []], AVal.int IntKind.i64 (10 : Int)]) Sto.empty) (Q (AVal.tuple [AVal.agg [AVal.int IntKind.i64 (2 : Int), AVal.int IntKind.i64 (0 : Int), AVal.str y_1], AVal.int IntKind.i64 (0 : Int)]) Sto.empty))) (Q (AVal.tuple [AVal.agg [AVal.int IntKind.i64 (0 : Int), AVal.int IntKind.i64 (0 : Int), AVal.str []], AVal.int IntKind.i64 (10 : Int)]) Sto.empty))))) : ACall Tryd.prog 49 [.str s] (Sto.empty) Q :=
  ACall.intro hmix Tryd.func49 (c := code_49_) (by kernel_rfl) cRead ho (Nat.le_of_ble_eq_true (by kernel_rfl)) (Eq.mpr (by kernel_rfl) h)
theorem number_i (k n : Int) (s : Txt) (Q : AVal → Sto → Prop) (ho : OrcOk Tryd.prog cNumber) (h : brV (hold (decide (k = (1 : Int) ∧ List.length s = 0))) true (Q (AVal.int IntKind.i64 n) Sto.empty) (brV (hold (decide (k = (2 : Int) ∧ n = (0 : Int) ∧ List.length s ≤ 200))) true False False)) : ACall Tryd.prog 53 [.agg [.int .i64 k, .int .i64 n, .str s]] (Sto.empty) Q :=
  ACall.intro hmix Tryd.func53 (c := code_53_) (by kernel_rfl) cNumber ho (Nat.le_of_ble_eq_true (by kernel_rfl)) (Eq.mpr (by kernel_rfl) h)
end Go.Proofs.YtcijjgfadkflmaaDoor.V
end
