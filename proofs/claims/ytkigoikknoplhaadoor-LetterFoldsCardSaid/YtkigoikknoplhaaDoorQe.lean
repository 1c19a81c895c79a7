/-
  Seat 01 (letter): what is told of calls.
-/
import Derived.Test.YtkigoikknoplhaaDoorQm
set_option linter.unusedVariables false
namespace Go.Proofs.YtkigoikknoplhaaDoor
open Go.AL
noncomputable section
def lenT (s : Txt) : Bool := hold (decide (s.length ≤ 1000000))
def lenOk (n : Nat) : Bool := hold (decide (n ≤ 140737488351232))
def i64r (n : Int) : Bool := hold (@decide (-9223372036854775808 ≤ n ∧ n ≤ 9223372036854775807) (Classical.propDecidable _))
def letE : Ent := (41, fun xs _ => match xs with
  | [.int .i32 r] => some (.pure true (.bool (hold (letB r))))
  | _ => none)
def letRE : Ent := (30, fun xs _ => match xs with
  | [.int .i32 r] => some (.pure true (.bool (hold (letB r))))
  | _ => none)
def wrongE : Ent := (32, fun xs _ => match xs with
  | [.str s] => some (.pure (lenT s) (.bool (hold (!nameT s))))
  | _ => none)
def isWrong (g : FuncId) : Bool := Nat.beq g 32
def strOk (v : AVal) : Bool := match v with | .str s => lenT s | _ => false
def indexFE : Ent := (40, fun xs _ => match xs with
  | [.slice es s t, .func (.func g) [] []] => some (.nm ((es.map AVal.strOf).all nameT) fun y => .nm (if y then -1 else ((es.map AVal.strOf).findIdx (fun x => !nameT x) : Int)) fun i => .pure (isWrong g && (okW 1 s es && (es.all strIs && (lenOk es.length && es.all strOk)))) (.int .i64 i))
  | _ => none)
def containsFE : Ent := (31, fun xs _ => match xs with
  | [.slice es s t, .func (.func g) [] []] => some (.pure (isWrong g && (okW 1 s es && (es.all strIs && (lenOk es.length && es.all strOk)))) (.bool (hold (!(es.map AVal.strOf).all nameT))))
  | _ => none)
def rightE : Ent := (14, fun xs _ => match xs with
  | [.slice es s t] => some (.pure (okW 1 s es && (es.all strIs && (lenOk es.length && es.all strOk))) (.bool (hold ((es.map AVal.strOf).all nameT))))
  | _ => none)
def countE : Ent := (20, fun xs _ => match xs with
  | [.str s] => some (.nm (runeL s).length fun n => .pure (lenT s) (.int .i64 (n : Int)))
  | _ => none)
def cutE : Ent := (21, fun xs _ => match xs with
  | [.str s, .int .i64 n] => some (.nm (cutT s n) fun y => .pure (lenT s && i64r n) (.str y))
  | _ => none)
def nanE : Ent := (53, fun xs _ => match xs with
  | [.int .i32 r] => some (.pure true (.bool false))
  | _ => none)
def cmpE : Ent := (48, fun xs _ => match xs with
  | [.int .i32 a, .int .i32 b] => some (.nm (if a < b then (-1 : Int) else if b < a then 1 else 0) fun y => .pure true (.int .i64 y))
  | _ => none)
def compareSE : Ent := (39, fun xs _ => match xs with
  | [.slice es s t, .slice fs s' t'] => some (.nm (cmpR (es.map AVal.intOf) (fs.map AVal.intOf)) fun y => .pure (okW 1 s es && (okW 1 s' fs && (es.all isI32 && (fs.all isI32 && (lenOk es.length && lenOk fs.length))))) (.int .i64 y))
  | _ => none)
def compareE : Ent := (28, fun xs _ => match xs with
  | [.str a, .str b] => some (.nm (cmpR (runeL a) (runeL b)) fun y => .pure (lenT a && lenT b) (.int .i64 y))
  | _ => none)
def likeE : Ent := (15, fun xs _ => match xs with
  | [.str s, .str p] => some (.nm (likeR (runeL s) (runeL p)) fun y => .nm (decide (200 < (runeL s).length ∨ 200 < (runeL p).length)) fun b => .pure (lenT s && lenT p) (.tuple [.bool (hold (!b && y)), .int .i64 (if b then 32 else 0)]))
  | _ => none)
def foldE : Ent := (18, fun xs _ => match xs with
  | [.str s] => some (.nm (txtR ((runeL s).map fdR)) fun y => .pure (lenT s) (.str y))
  | _ => none)
def quoteE : Ent := (25, fun xs _ => match xs with
  | [.str s] => some (.nm (quoT s) fun y => .pure (lenT s) (.str y))
  | _ => none)
def unquoteE : Ent := (23, fun xs _ => match xs with
  | [.str s] => some (.nm (unqT s).2 fun b => .nm (if b then (unqT s).1 else []) fun y => .pure (lenT s) (.tuple [.str y, .int .i64 (if b then 0 else 10)]))
  | _ => none)
/-- The references. -/
def runesE : Ent := (16, fun xs _ => match xs with
  | [.str s] => some (.nm (runeL s) fun y => .pure (lenT s) (.slice (rv y) 1 .ro))
  | _ => none)
def textE : Ent := (27, fun xs _ => match xs with
  | [.slice es s t] => some (.nm (txtR (es.map AVal.intOf)) fun y => .pure (okW 1 s es && (es.all isI32 && hold (decide (es.length ≤ 1000000)))) (.str y))
  | _ => none)
def rightRE : Ent := (13, fun xs _ => match xs with
  | [.str s] => some (.pure (lenT s) (.bool (hold (nameT s))))
  | _ => none)
def compareRE : Ent := (29, fun xs _ => match xs with
  | [.str a, .str b] => some (.nm (cmpR (runeL a) (runeL b)) fun y => .pure (lenT a && lenT b) (.int .i64 y))
  | _ => none)
def cutRE : Ent := (22, fun xs _ => match xs with
  | [.str s, .int .i64 n] => some (.nm (cutT s n) fun y => .pure (lenT s && i64r n) (.str y))
  | _ => none)
def likeRE : Ent := (17, fun xs _ => match xs with
  | [.str s, .str p] => some (.nm (likeR (runeL s) (runeL p)) fun y => .pure (lenT s && lenT p) (.bool (hold y)))
  | _ => none)
def quoteRE : Ent := (26, fun xs _ => match xs with
  | [.str s] => some (.nm (quoT s) fun y => .pure (lenT s) (.str y))
  | _ => none)
def unquoteRE : Ent := (24, fun xs _ => match xs with
  | [.str s] => some (.nm (unqT s).1 fun y => .nm (unqT s).2 fun b => .pure (lenT s) (.tuple [.str y, .bool (hold b)]))
  | _ => none)
def foldRE : Ent := (19, fun xs _ => match xs with
  | [.str s] => some (.nm (txtR ((runeL s).map fdR)) fun y => .pure (lenT s) (.str y))
  | _ => none)
def isFold (g : FuncId) : Bool := Nat.beq g 34
def mapE : Ent := (33, fun xs _ => match xs with
  | [.func (.func g) [] [], .str s] => some (.nm (txtR ((runeL s).map fdR)) fun y => .pure (isFold g && lenT s) (.str y))
  | _ => none)
def awakeE : Ent := (12, fun xs _ => match xs with
  | [] => some (.pure true (.bool (hold true)))
  | _ => none)
end
end Go.Proofs.YtkigoikknoplhaaDoor
