/-
  Seat 11 (leaf): what is told of calls, 6 (an empty index; a text turned).
-/
import Derived.Test.YtlfnmhfmikomkaaFe
import Derived.Test.YtlfnmhfmikomkaaIb
import Derived.Test.YtlfnmhfmikomkaaHm
set_option linter.unusedVariables false
namespace Go.Proofs.Ytlfnmhfmikomkaa
open Go.AL
/-- A list that rises, with a text, or without it, if it was there. -/
def turnT (l : List Txt) (s : Txt) : List Txt := if l.contains s then delL l (posN l s) else insL l (posN l s) s
noncomputable section
def emptyE : Ent := (10, fun xs _ => match xs with
  | [] => some (.pure true (.tuple [.agg [.slice (strv []) 1 .ro, .slice (iv [1]) 1 .ro], .agg [.int .i64 1, .slice (strv []) 1 .ro, .bool false]]))
  | _ => none)
def turnedE : Ent := (27, fun xs _ => match xs with
  | [.slice es s t, .str x] => some (.nm (turnT (es.map AVal.strOf) x) fun y => .pure (okW 1 s es && (es.all strIs && (hold (decide (es.length ≤ 1000000)) && (hold (riseL (es.map AVal.strOf)) && (hold (shortL (es.map AVal.strOf)) && hold (decide (x.length ≤ 1000000))))))) (.slice (strv y) 1 .ro))
  | _ => none)
end
end Go.Proofs.Ytlfnmhfmikomkaa
