/-
  Seat 02 (value): what is told of calls.
-/
import Derived.Test.YteohhklblbinbaaDoorVb
set_option linter.unusedVariables false
namespace Go.AL
def vlOf : AVal → Vl
  | .agg [.int _ k, .int _ n, .str s] => ⟨k, n, s⟩
  | _ => .zero
def isVl : AVal → Bool
  | .agg [.int .i64 _, .int .i64 _, .str _] => true
  | _ => false
def vlv (l : List Vl) : List AVal := l.map Vl.a
def okV (v : Vl) : Bool := decide v.ok
def firstNZ : List Int → Int
  | [] => 0
  | x :: l => if x = 0 then firstNZ l else x
end Go.AL
namespace Go.Proofs.YteohhklblbinbaaDoor
open Go.AL
noncomputable section
def lenT (s : Txt) : Bool := hold (decide (s.length ≤ 1000000))
def lenOk (n : Nat) : Bool := hold (decide (n ≤ 140737488351232))
def i64r (n : Int) : Bool := hold (@decide (-9223372036854775808 ≤ n ∧ n ≤ 9223372036854775807) (Classical.propDecidable _))
def thingE : Ent := (26, fun xs _ => match xs with
  | [.agg [.int .i64 k, .int .i64 n, .str s]] => some (.br (hold (decide (k = 1 ∧ s.length = 0))) (.pure true (.iface 3 (.int .i64 n))) (.br (hold (decide (k = 2 ∧ n = 0 ∧ s.length ≤ 200))) (.pure true (.iface 9 (.str s))) (.pure true .nilIface)))
  | _ => none)
def right1E : Ent := (32, fun xs _ => match xs with
  | [.agg [.int .i64 k, .int .i64 n, .str s]] => some (.pure true (.bool (hold (!okV ⟨k, n, s⟩))))
  | _ => none)
def isRight1 (g : FuncId) : Bool := Nat.beq g 32
def vlsOk (es : List AVal) (s : Nat) : Bool := okW 3 s es && (es.all isVl && lenOk es.length)
def indexFE : Ent := (47, fun xs _ => match xs with
  | [.slice es s t, .func (.func g) [] []] => some (.nm ((es.map vlOf).all okV) fun y => .nm (if y then -1 else ((es.map vlOf).findIdx (fun x => !okV x) : Int)) fun i => .pure (isRight1 g && vlsOk es s) (.int .i64 i))
  | _ => none)
def containsFE : Ent := (31, fun xs _ => match xs with
  | [.slice es s t, .func (.func g) [] []] => some (.pure (isRight1 g && vlsOk es s) (.bool (hold (!(es.map vlOf).all okV))))
  | _ => none)
def rightE : Ent := (15, fun xs _ => match xs with
  | [.slice es s t] => some (.pure (vlsOk es s) (.bool (hold ((es.map vlOf).all okV))))
  | _ => none)
def nanE : Ent := (48, fun xs _ => match xs with
  | [.int .i64 r] => some (.pure true (.bool false))
  | _ => none)
def cmpE : Ent := (36, fun xs _ => match xs with
  | [.int .i64 a, .int .i64 b] => some (.nm (sgI a b) fun y => .pure true (.int .i64 y))
  | _ => none)
def orE : Ent := (35, fun xs _ => match xs with
  | [.slice es s t] => some (.nm (firstNZ (es.map AVal.intOf)) fun y => .pure (okW 1 s es && (es.all isI64 && lenOk es.length)) (.int .i64 y))
  | _ => none)
def scmpE : Ent := (37, fun xs _ => match xs with
  | [.str a, .str b] => some (.nm (cmpB a b) fun y => .pure true (.int .i64 y))
  | _ => none)
def compareE : Ent := (17, fun xs _ => match xs with
  | [.agg [.int .i64 k, .int .i64 n, .str s], .agg [.int .i64 k', .int .i64 n', .str s']] => some (.nm (cmpV ⟨k, n, s⟩ ⟨k', n', s'⟩) fun y => .pure true (.int .i64 y))
  | _ => none)
def bytesE : Ent := (11, fun xs _ => match xs with
  | [.agg [.int .i64 k, .int .i64 n, .str s]] => some (.nm (okV ⟨k, n, s⟩) fun o => .nm (if o then bytesV ⟨k, n, s⟩ else []) fun y => .pure (i64r n) (.tuple [.slice (bw y) 1 .ro, .int .i64 (if o then 0 else 22)]))
  | _ => none)
def vtextE : Ent := (39, fun xs _ => match xs with
  | [.slice es s t] => some (.nm (txtV ((es.map AL.byteOf).drop 1) [] 1) fun y => .pure (okW 1 s es && (es.all byteIs && hold (decide (es.length ≤ 1000000)))) (.tuple [.agg [.int .i64 (if y.2.2 = 0 then 2 else 0), .int .i64 0, .str (if y.2.2 = 0 then y.1 else [])], .int .i64 (y.2.1 : Int), .int .i64 y.2.2]))
  | _ => none)
def takeE : Ent := (22, fun xs _ => match xs with
  | [.slice es s t] => some (.nm (takeV (es.map AL.byteOf)) fun y => .pure (okW 1 s es && (es.all byteIs && hold (decide (es.length ≤ 1000000)))) (.tuple [.agg [.int .i64 y.1.k, .int .i64 y.1.n, .str y.1.s], .int .i64 (y.2.1 : Int), .int .i64 y.2.2]))
  | _ => none)
/-- The references. -/
def rightRE : Ent := (10, fun xs _ => match xs with
  | [.agg [.int .i64 k, .int .i64 n, .str s]] => some (.pure true (.bool (hold (okV ⟨k, n, s⟩))))
  | _ => none)
def signRE : Ent := (38, fun xs _ => match xs with
  | [.bool b] => some (.nm (if b then (-1 : Int) else 1) fun y => .pure true (.int .i64 y))
  | _ => none)
def orderRE : Ent := (19, fun xs _ => match xs with
  | [.str a, .str b] => some (.nm (cmpB a b) fun y => .pure (lenT a && lenT b) (.int .i64 y))
  | _ => none)
def compareRE : Ent := (18, fun xs _ => match xs with
  | [.agg [.int .i64 k, .int .i64 n, .str s], .agg [.int .i64 k', .int .i64 n', .str s']] => some (.nm (cmpV ⟨k, n, s⟩ ⟨k', n', s'⟩) fun y => .pure (lenT s && lenT s') (.int .i64 y))
  | _ => none)
def bytesRE : Ent := (24, fun xs _ => match xs with
  | [.agg [.int .i64 k, .int .i64 n, .str s]] => some (.nm (bytesV ⟨k, n, s⟩) fun y => .pure (i64r n && lenT s) (.slice (bw y) 1 .ro))
  | _ => none)
def takeRE : Ent := (23, fun xs _ => match xs with
  | [.slice es s t] => some (.nm (takeV (es.map AL.byteOf)) fun y => .pure (okW 1 s es && (es.all byteIs && hold (decide (es.length ≤ 1000000)))) (.tuple [.agg [.int .i64 y.1.k, .int .i64 y.1.n, .str y.1.s], .int .i64 (y.2.1 : Int), .int .i64 y.2.2]))
  | _ => none)
end
end Go.Proofs.YteohhklblbinbaaDoor
