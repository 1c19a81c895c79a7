/-
  Seat 04 (word): what is told of calls.
-/
import Derived.Test.YtickkgdphdkodaaWn
import Derived.Test.YtickkgdphdkodaaB0
set_option linter.unusedVariables false
namespace Go.Proofs.Ytickkgdphdkodaa
open Go.AL
noncomputable section
def stampE : Ent := (12, fun xs _ => match xs with | [.int .u64 n] => some (.pure true (.int .u64 (wLow n))) | _ => none)
def lockE : Ent := (14, fun xs _ => match xs with | [.int .u64 n] => some (.pure true (.tuple [.int .u64 (wLock n), .bool (hold (wIsLock n == 0))])) | _ => none)
def unlockE : Ent := (15, fun xs _ => match xs with | [.int .u64 n] => some (.pure true (.int .u64 (wUnlock n))) | _ => none)
def absentE : Ent := (16, fun xs _ => match xs with | [.int .u64 n, .bool a] => some (.pure true (.int .u64 (wPut a n))) | _ => none)
def packE : Ent := (11, fun xs _ => match xs with | [.agg [.int .i64 e, .int .i64 s, .bool l, .bool a]] => some (.pure true (.tuple [.int .u64 (wPack e s l a), .int .i64 (if wRight e s then 0 else 2)])) | _ => none)
def partsE : Ent := (17, fun xs _ => match xs with | [.int .u64 n] => some (.pure true (.tuple [.agg [.int .i64 (if wOk n then IntKind.i64.wrap ((wLow n).fdiv 2147483648) else 0), .int .i64 (if wOk n then IntKind.i64.wrap (wSeq (wLow n)) else 0), .bool (hold (wOk n && wIsLock n != 0)), .bool (hold (wOk n && wIsAbs n != 0))], .bool (hold (wOk n))])) | _ => none)
def nextE : Ent := (19, fun xs _ => match xs with | [.int .u64 n, .int .i64 e] => some (.pure true (.tuple [.int .u64 (wNext n e).1, .int .i64 (wNext n e).2])) | _ => none)
def rpartsE : Ent := (13, fun xs _ => match xs with | [.int .u64 n] => some (.pure true (.tuple [.bool (hold (rLk n)), .bool (hold (rAb n)), .int .u64 (rEp n), .int .u64 (rSq n)])) | _ => none)
def rrightE : Ent := (10, fun xs _ => match xs with | [.agg [.int .i64 e, .int .i64 s, .bool l, .bool a]] => some (.pure true (.bool (hold (wRight e s)))) | _ => none)
def rpackE : Ent := (18, fun xs _ => match xs with | [.agg [.int .i64 e, .int .i64 s, .bool l, .bool a]] => some (.pure true (.int .u64 (rPack e s l a))) | _ => none)
def rnextE : Ent := (21, fun xs _ => match xs with | [.int .u64 n, .int .i64 e] => some (.pure true (.tuple [.int .u64 (rNext n e).1, .int .i64 (rNext n e).2])) | _ => none)
def awakeE : Ent := (9, fun xs _ => match xs with | [] => some (.pure true (.bool true)) | _ => none)
def mostE : Ent := (20, fun xs _ => match xs with | [.slice es 1 t] => some (.pure (es.all (etaOk (.int .u64)) && decide (es.length ≤ 140737488351232)) (.int .u64 (mostL (es.map AVal.intOf)))) | _ => none)
end
end Go.Proofs.Ytickkgdphdkodaa
