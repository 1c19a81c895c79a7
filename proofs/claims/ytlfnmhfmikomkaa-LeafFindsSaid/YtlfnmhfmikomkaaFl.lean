/-
  Seat 11 (leaf): what is told of calls, 5 (a function value).
-/
import Derived.Test.YtlfnmhfmikomkaaFi
set_option linter.unusedVariables false
namespace Go.Proofs.Ytlfnmhfmikomkaa
open Go.AL
noncomputable section
def right1E : Ent := (53, fun xs _ => match xs with
  | [.str s, .iptr cs, .iptr [.int .i64 i]] => some (.pure (rootG (.agg cs) && hold (riseL (rootOf (.agg cs)).1)) (.bool (hold (outP (rootOf (.agg cs)) i s))))
  | _ => none)
def isRight1 (g : FuncId) : Bool := Nat.beq g 53
def indexFE : Ent := (72, fun xs _ => match xs with
  | [.slice es s t, .func (.func g) [] [.iptr cs, .iptr [.int .i64 i]]] => some (.nm (idxP (outP (rootOf (.agg cs)) i) (es.map AVal.strOf)) fun y => .pure (isRight1 g && (okW 1 s es && (es.all strIs && (lenOk es.length && (rootG (.agg cs) && hold (riseL (rootOf (.agg cs)).1)))))) (.int .i64 y))
  | _ => none)
def containsFE : Ent := (55, fun xs _ => match xs with
  | [.slice es s t, .func (.func g) [] [.iptr cs, .iptr [.int .i64 i]]] => some (.pure (isRight1 g && (okW 1 s es && (es.all strIs && (lenOk es.length && (rootG (.agg cs) && hold (riseL (rootOf (.agg cs)).1)))))) (.bool (hold ((es.map AVal.strOf).any (outP (rootOf (.agg cs)) i)))))
  | _ => none)
end
end Go.Proofs.Ytlfnmhfmikomkaa
