/-
  Seat 02 (value): what is told of calls: values as texts, the law's examples.
-/
import Derived.Test.YteohhklblbinbaaDoorVi
import Derived.Test.YteohhklblbinbaaDoorVo
import Derived.Lib.AtoiAllCases
import Derived.Lib.ItoaNum
set_option linter.unusedVariables false
namespace Go.AL
/-- A value as a text; the value of a text. -/
def printV (v : Vl) : Txt := if v.k = 1 ∧ v.s.length = 0 then Lib.itoa v.n else if v.k = 2 ∧ v.n = 0 ∧ v.s.length ≤ 200 then quoT v.s else [63]
def numT (s : Txt) : Option Int := match Lib.atoiAll s with
  | .ok v => some v
  | _ => none
def readV (s : Txt) : Option Vl :=
  match numT s with
  | some n => if printV ⟨1, n, []⟩ = s then some ⟨1, n, []⟩ else none
  | none => if (unqT s).2 = true then (if printV ⟨2, 0, (unqT s).1⟩ = s then some ⟨2, 0, (unqT s).1⟩ else none) else none
end Go.AL
namespace Go.Proofs.YteohhklblbinbaaDoor
open Go.AL
noncomputable section
def itoaE : Ent := (29, fun xs _ => match xs with
  | [.int .i64 n] => some (.nm (Lib.itoa n) fun y => .pure (i64r n) (.str y))
  | _ => none)
def atoiE : Ent := (27, fun xs _ => match xs with
  | [.str s] => some (.nm (numT s) fun y => .br (hold y.isSome) (.pure (lenT s) (.tuple [.int .i64 (y.getD 0), .nilIface])) (.nm (if Lib.atoiAll s = .range then Lib.atoiSat s else 0) fun z => .pure (lenT s) (.tuple [.int .i64 z, .iface 84 .undef])))
  | _ => none)
def quoteE : Ent := (30, fun xs _ => match xs with
  | [.str s] => some (.nm (quoT s) fun y => .pure (lenT s) (.str y))
  | _ => none)
def unquoteE : Ent := (28, fun xs _ => match xs with
  | [.str s] => some (.nm (unqT s).2 fun b => .nm (if b then (unqT s).1 else []) fun y => .pure (lenT s) (.tuple [.str y, .int .i64 (if b then 0 else 10)]))
  | _ => none)
def printE : Ent := (13, fun xs _ => match xs with
  | [.agg [.int .i64 k, .int .i64 n, .str s]] => some (.nm (printV ⟨k, n, s⟩) fun y => .pure (i64r n) (.str y))
  | _ => none)
def readE : Ent := (12, fun xs _ => match xs with
  | [.str s] => some (.nm (readV s) fun y => .nm (y.getD .zero) fun v => .pure (lenT s) (.tuple [.agg [.int .i64 v.k, .int .i64 v.n, .str v.s], .int .i64 (if y.isSome then 0 else 10)]))
  | _ => none)
def thingPE : Ent := (14, fun xs _ => match xs with
  | [.agg [.int .i64 k, .int .i64 n, .str s]] => some (.br (hold (decide (k = 1 ∧ s.length = 0))) (.pure true (.tuple [.iface 3 (.int .i64 n), .int .i64 0])) (.br (hold (decide (k = 2 ∧ n = 0 ∧ s.length ≤ 200))) (.pure true (.tuple [.iface 9 (.str s), .int .i64 0])) (.pure true (.tuple [.nilIface, .int .i64 22]))))
  | _ => none)
def numberE : Ent := (25, fun xs _ => match xs with
  | [.agg [.int .i64 k, .int .i64 n, .str s]] => some (.pure (hold (decide (k = 1 ∧ s.length = 0))) (.int .i64 n))
  | _ => none)
def numE : Ent := (20, fun xs _ => match xs with
  | [.int .i64 n] => some (.pure true (.agg [.int .i64 1, .int .i64 n, .str []]))
  | _ => none)
def textLE : Ent := (21, fun xs _ => match xs with
  | [.str s] => some (.pure true (.agg [.int .i64 2, .int .i64 0, .str s]))
  | _ => none)
def awakeE : Ent := (9, fun xs _ => match xs with
  | [] => some (.pure true (.bool (hold true)))
  | _ => none)
end
end Go.Proofs.YteohhklblbinbaaDoor
