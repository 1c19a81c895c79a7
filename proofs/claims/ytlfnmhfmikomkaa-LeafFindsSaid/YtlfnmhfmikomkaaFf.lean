/-
  Seat 11 (leaf): what is told of calls, 2.
-/
import Derived.Test.YtlfnmhfmikomkaaFe
import Derived.Test.YtlfnmhfmikomkaaFn
set_option linter.unusedVariables false
namespace Go.Proofs.Ytlfnmhfmikomkaa
open Go.AL
noncomputable section
/-- A copy that never changes. -/
def cloneSE : Ent := (39, fun xs σ => match xs with
  | [.slice es s t] => some (.pure (okW 1 s es && (es.all strIs && hold (decide (es.length ≤ 1000000)))) (.slice es 1 .ro))
  | _ => none)
def cloneISE : Ent := (42, fun xs σ => match xs with
  | [.slice es s t] => some (.pure (okW 1 s es && (es.all isI64 && hold (decide (es.length ≤ 1000000)))) (.slice es 1 .ro))
  | _ => none)
def rootM (v : AVal) : Bool := rootIs v && hold (decide ((rootOf v).1.length ≤ 1000000 ∧ (rootOf v).2.length ≤ 1000000))
def lfM (v : AVal) : Bool := lfIs v && hold (decide ((lfOf v).2.1.length ≤ 1000000))
/-- The store in which a result's first cell lies. -/
def isR (σ : Sto) : Bool := @decide (∃ c, σ = Sto.push Sto.empty (.cells c)) (Classical.propDecidable _)
def nilRC : List AVal := [.slice [] 0 .nil, .slice [] 0 .nil]
def nilLC : List AVal := [.int .i64 0, .slice [] 0 .nil, .bool false]
def ownE : Ent := (34, fun xs σ => match xs with
  | [v, u, .str s] => some (.br (hold (ownB (rootOf v) (lfOf u) s))
      (.full (rootM v && (lfM u && isR σ)) (.tuple [.agg [.mrow 3 (strv (rootOf v).1).length, .mrow 5 (iv (rootOf v).2).length], .agg [.int .i64 (lfOf u).1, .mrow 7 (strv (lfOf u).2.1).length, .bool false], .int .i64 0])
        (Sto.set (Sto.set (Sto.pushRow (Sto.pushRow (Sto.pushRow (Sto.push (Sto.push σ (.cells nilRC)) (.cells nilLC)) (strv (rootOf v).1) 1) (iv (rootOf v).2) 1) (strv (lfOf u).2.1) 1)
          1 (.cells [.mrow 3 (strv (rootOf v).1).length, .mrow 5 (iv (rootOf v).2).length])) 2 (.cells [.int .i64 (lfOf u).1, .mrow 7 (strv (lfOf u).2.1).length, .bool false])))
      (.full (rootM v && (lfM u && isR σ)) (.tuple [.agg [.slice [] 0 .nil, .slice [] 0 .nil], .agg [.int .i64 0, .slice [] 0 .nil, .bool false], .int .i64 100])
        (Sto.set (Sto.set (Sto.push (Sto.push σ (.cells nilRC)) (.cells nilLC)) 1 (.cells nilRC)) 2 (.cells nilLC))))
  | _ => none)
/-- On the way that is never gone (an error's empty rows). -/
def noE (f : FuncId) (v : AVal) : Ent := (f, fun xs _ => match xs with
  | .slice [] _ .nil :: _ => some (.pure false v)
  | _ => none)
def insOrE : Ent := (insE.1, fun xs σ => match (noE insE.1 (.slice [] 1 .ro)).2 xs σ with
  | some a => some a
  | none => insE.2 xs σ)
def delOrE : Ent := (delE.1, fun xs σ => match (noE delE.1 (.slice [] 1 .ro)).2 xs σ with
  | some a => some a
  | none => delE.2 xs σ)
def hasE : Ent := (49, fun xs _ => match xs with
  | [.slice es s t, .str x] => some (.nm ((es.map AVal.strOf).contains x) fun y => .nm (if y then ((es.map AVal.strOf).idxOf x : Int) else -1) fun i => .pure (okW 1 s es && (es.all strIs && lenOk es.length)) (.int .i64 i))
  | _ => none)
def putE : Ent := (50, fun xs _ => match xs with
  | [.slice es s t, .int .i64 i, .str x] => some (.pure (okW 1 s es && (es.all strIs && hold (decide (0 ≤ i ∧ i ≤ es.length ∧ es.length ≤ 1000000)))) (.slice (strv (insL (es.map AVal.strOf) i.toNat x)) 1 .ro))
  | _ => none)
def cutE : Ent := (52, fun xs _ => match xs with
  | [.slice es s t, .int .i64 i] => some (.pure (okW 1 s es && (es.all strIs && hold (decide (0 ≤ i ∧ i < es.length ∧ es.length ≤ 1000000)))) (.slice (strv (delL (es.map AVal.strOf) i.toNat)) 1 .ro))
  | _ => none)
def chE (f : FuncId) (g : Root → Lf → Txt → Ch) (k : AVal → AVal → Bool) : Ent := (f, fun xs _ => match xs with
  | [v, u, .str s] => some (.nm (g (rootOf v) (lfOf u) s) fun x => .pure (k v u) (.tuple [.agg [.slice (strv x.1.1) 1 .ro, .slice (iv x.1.2) 1 .ro], .slice (lfv x.2.1) 3 .ro, .int .i64 x.2.2]))
  | _ => none)
def insertE : Ent := chE 11 insN fun v u => rootM v && lfM u
def removeE : Ent := chE 18 remN fun v u => rootM v && lfM u
def insertRE : Ent := chE 19 insN fun v u => (rootM v && hold (shortL (rootOf v).1)) && (lfM u && hold (shortL (lfOf u).2.1))
def removeRE : Ent := chE 20 remN fun v u => (rootM v && hold (shortL (rootOf v).1)) && (lfM u && hold (shortL (lfOf u).2.1))
def textsE : Ent := (15, fun xs _ => match xs with
  | [.slice es s t, .slice fs s' t'] => some (.pure (okW 1 s es && (okW 1 s' fs && (es.all strIs && (fs.all strIs && lenOk es.length)))) (.bool (hold (es.map AVal.strOf == fs.map AVal.strOf))))
  | _ => none)
def sameRootE : Ent := (21, fun xs _ => match xs with
  | [v, u] => some (.pure (rootG v && rootG u) (.bool (hold (rootOf v == rootOf u))))
  | _ => none)
def sameE : Ent := (22, fun xs _ => match xs with
  | [.slice es s t, .slice fs s' t'] => some (.pure (okW 3 s es && (okW 3 s' fs && (es.all lfIs && (fs.all lfIs && (lenOk es.length && es.all lfG))))) (.bool (hold (es.map lfOf == fs.map lfOf))))
  | _ => none)
end
end Go.Proofs.Ytlfnmhfmikomkaa
