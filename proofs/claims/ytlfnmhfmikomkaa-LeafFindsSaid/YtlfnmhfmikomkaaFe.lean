/-
  Seat 11 (leaf): what is told of calls.
-/
import Derived.Test.YtlfnmhfmikomkaaFm
import Derived.Test.YtlfnmhfmikomkaaHc
set_option linter.unusedVariables false
namespace Go.Proofs.Ytlfnmhfmikomkaa
open Go.AL
noncomputable section
def lenOk (n : Nat) : Bool := hold (decide (n ≤ 140737488351232))
def signE : Ent := (43, fun xs _ => match xs with
  | [.bool b] => some (.pure true (.int .i64 (sgnN b)))
  | _ => none)
def ordE : Ent := (14, fun xs _ => match xs with
  | [.str a, .str b] => some (.pure (hold (decide (a.length ≤ 1000000))) (.int .i64 (ordT a b)))
  | _ => none)
def lessE : Ent := (64, fun xs _ => match xs with
  | [.str a, .str b] => some (.pure true (.bool (hold (tlt a b))))
  | _ => none)
def nanE : Ent := (74, fun xs _ => match xs with
  | [.str a] => some (.pure true (.bool false))
  | _ => none)
def nan2E : Ent := (65, fun xs _ => match xs with
  | [.str a] => some (.pure true (.bool false))
  | _ => none)
def bsE : Ent := (35, fun xs _ => match xs with
  | [.slice es s t, .str x] => some (.nm (posN (es.map AVal.strOf) x) fun p => .nm ((es.map AVal.strOf).contains x) fun b => .pure (okW 1 s es && (es.all strIs && (hold (riseL (es.map AVal.strOf)) && lenOk es.length))) (.tuple [.int .i64 (p : Int), .bool (hold b)]))
  | _ => none)
def riseE : Ent := (71, fun xs _ => match xs with
  | [.slice es s t] => some (.pure (okW 1 s es && (es.all strIs && lenOk es.length)) (.bool (hold (riseL (es.map AVal.strOf)))))
  | _ => none)
def riseRE : Ent := (16, fun xs _ => match xs with
  | [.slice es s t] => some (.pure (okW 1 s es && (es.all strIs && (hold (shortL (es.map AVal.strOf)) && lenOk es.length))) (.bool (hold (riseL (es.map AVal.strOf)))))
  | _ => none)
def indexIE : Ent := (68, fun xs _ => match xs with
  | [.slice es s t, .int .i64 n] => some (.nm ((es.map AVal.intOf).contains n) fun y => .nm (if y then ((es.map AVal.intOf).idxOf n : Int) else -1) fun i => .pure (okW 1 s es && (es.all isI64 && lenOk es.length)) (.int .i64 i))
  | _ => none)
def containsIE : Ent := (37, fun xs _ => match xs with
  | [.slice es s t, .int .i64 n] => some (.pure (okW 1 s es && (es.all isI64 && lenOk es.length)) (.bool (hold ((es.map AVal.intOf).contains n))))
  | _ => none)
def rootG (v : AVal) : Bool := rootIs v && (lenOk (rootOf v).1.length && lenOk (rootOf v).2.length)
def rootH (v : AVal) : Bool := rootG v && hold (shortL (rootOf v).1)
def lfG (v : AVal) : Bool := lfIs v && lenOk (lfOf v).2.1.length
def lfH (v : AVal) : Bool := lfG v && hold (shortL (lfOf v).2.1)
def rootE : Ent := (41, fun xs _ => match xs with
  | [v] => some (.pure (rootG v) (.bool (hold (rootB (rootOf v)))))
  | _ => none)
def rootRE : Ent := (47, fun xs _ => match xs with
  | [v] => some (.pure (rootH v) (.bool (hold (rootB (rootOf v)))))
  | _ => none)
def leafE : Ent := (54, fun xs _ => match xs with
  | [v] => some (.pure (lfG v) (.bool (hold (lfB (lfOf v)))))
  | _ => none)
def leafRE : Ent := (48, fun xs _ => match xs with
  | [v] => some (.pure (lfH v) (.bool (hold (lfB (lfOf v)))))
  | _ => none)
def atE : Ent := (38, fun xs _ => match xs with
  | [v, .str s] => some (.nm (atN (rootOf v).1 s) fun p => .pure (rootG v && hold (riseL (rootOf v).1)) (.int .i64 (p : Int)))
  | _ => none)
def atRE : Ent := (51, fun xs _ => match xs with
  | [v, .str s] => some (.nm (atN (rootOf v).1 s) fun p => .pure (rootH v) (.int .i64 (p : Int)))
  | _ => none)
def findE : Ent := (12, fun xs _ => match xs with
  | [v, .str s] => some (.nm (findN (rootOf v) s) fun p => .pure (rootG v) (.int .i64 p))
  | _ => none)
def findRE : Ent := (26, fun xs _ => match xs with
  | [v, .str s] => some (.nm (findN (rootOf v) s) fun p => .pure (rootH v) (.int .i64 p))
  | _ => none)
def cloneE : Ent := (39, fun xs σ => match xs with
  | [.slice es s t] => some (.full (okW 1 s es && (es.all strIs && hold (decide (es.length ≤ 1000000)))) (.mrow σ.nobj es.length) (σ.pushRow es 1))
  | _ => none)
def cloneIE : Ent := (42, fun xs σ => match xs with
  | [.slice es s t] => some (.full (okW 1 s es && (es.all isI64 && hold (decide (es.length ≤ 1000000)))) (.mrow σ.nobj es.length) (σ.pushRow es 1))
  | _ => none)
def insE : Ent := (36, fun xs σ => match xs with
  | [.mrow k n, .int .i64 i, .slice [.str x] 1 .full] => match σ.obj k with
    | some (.buf es s g) => some (.full (Nat.beq g (k + 1) && (Nat.beq s 1 && (es.all strIs && hold (decide (n = es.length ∧ 0 ≤ i ∧ i ≤ es.length ∧ es.length ≤ 1000000))))) (.slice (insC es i.toNat (.str x)) 1 .ro) (σ.del k))
    | _ => none
  | _ => none)
def insIE : Ent := (40, fun xs σ => match xs with
  | [.mrow k n, .int .i64 i, .slice [.int .i64 x] 1 .full] => match σ.obj k with
    | some (.buf es s g) => some (.full (Nat.beq g (k + 1) && (Nat.beq s 1 && (es.all isI64 && hold (decide (n = es.length ∧ 0 ≤ i ∧ i ≤ es.length ∧ es.length ≤ 1000000))))) (.slice (insC es i.toNat (.int .i64 x)) 1 .ro) (σ.del k))
    | _ => none
  | _ => none)
def delE : Ent := (45, fun xs σ => match xs with
  | [.mrow k n, .int .i64 i, .int .i64 j] => match σ.obj k with
    | some (.buf es s g) => some (.full (Nat.beq g (k + 1) && (Nat.beq s 1 && (es.all strIs && hold (decide (n = es.length ∧ 0 ≤ i ∧ i < es.length ∧ j = i + 1 ∧ es.length ≤ 1000000))))) (.slice (delC es i.toNat) 1 .ro) (σ.del k))
    | _ => none
  | _ => none)
def delIE : Ent := (46, fun xs σ => match xs with
  | [.mrow k n, .int .i64 i, .int .i64 j] => match σ.obj k with
    | some (.buf es s g) => some (.full (Nat.beq g (k + 1) && (Nat.beq s 1 && (es.all isI64 && hold (decide (n = es.length ∧ 0 ≤ i ∧ i < es.length ∧ j = i + 1 ∧ es.length ≤ 1000000))))) (.slice (delC es i.toNat) 1 .ro) (σ.del k))
    | _ => none
  | _ => none)
end
end Go.Proofs.Ytlfnmhfmikomkaa
