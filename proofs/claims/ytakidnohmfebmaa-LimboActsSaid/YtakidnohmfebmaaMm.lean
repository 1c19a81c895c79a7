/-
  Seat 12 (limbo): the reference's items.
-/
import Derived.Test.YtakidnohmfebmaaLz
namespace Go.Proofs.Ytakidnohmfebmaa
open Go.AL
set_option linter.unusedSimpArgs false
set_option linter.unusedVariables false
def itemV (x : Key × Int) : AVal := .agg [.int .i64 x.1.1, .int .i64 x.1.2.1, .int .i64 x.1.2.2.1, .str x.1.2.2.2, .int .i64 x.2]
def itv (l : List (Key × Int)) : List AVal := l.map itemV
def itemC (x : Key × Int) : List AVal := [.int .i64 x.1.1, .int .i64 x.1.2.1, .int .i64 x.1.2.2.1, .str x.1.2.2.2, .int .i64 x.2]
/-- The reference's limbo: object 0; its row bears permission N. -/
def refS (N : Nat) (l : List (Key × Int)) : Sto where
  nobj := 1
  obj := fun n => if n = 0 then some (.cells [.slice (itv l) 5 (.own N)]) else none
  nown := N + 1
  own := fun p => if p = N then some l.length else none
@[simp] theorem itv_length (l : List (Key × Int)) : (itv l).length = l.length := by simp [itv]
theorem itv_append (a b : List (Key × Int)) : itv (a ++ b) = itv a ++ itv b := by simp [itv]
theorem elemAt_itv (l : List (Key × Int)) (i : Nat) (h : i < l.length) : elemAt (itv l) (i : Int) = itemC l[i] := elemAt_map itemV l i h
/-- A key's place. -/
def findI (l : List (Key × Int)) (k : Key) : Option Nat := l.findIdx? fun x => x.1 == k
def findN (l : List (Key × Int)) (k : Key) : Int := match findI l k with | some i => i | none => -1
def refAt (σ : Sto) : Option (Nat × List AVal) :=
  match σ.obj 0 with
  | some (.cells [.slice row _ (.own N)]) => some (N, row)
  | _ => none
def itemOf : AVal → Key × Int
  | .agg [.int .i64 a, .int .i64 b, .int .i64 c, .str s, .int .i64 e] => ((a, b, c, s), e)
  | _ => ((0, 0, 0, []), 0)
noncomputable def isRef (σ : Sto) (N : Nat) (l : List (Key × Int)) : Bool := hold (@decide (σ = refS N l) (Classical.propDecidable _))
noncomputable section
def findRE : Ent := (17, fun xs σ => match xs, refAt σ with
  | [.ptr (.out 0) 0, .agg [.int .i64 a, .int .i64 b, .int .i64 c, .str d]], some (N, row) => some (.nm (findN (row.map itemOf) (a, b, c, d)) fun n => .full (isRef σ N (row.map itemOf) && hold (decide (row.length ≤ 1000000000))) (.int .i64 n) σ)
  | _, _ => none)
def dropRE : Ent := (26, fun xs σ => match xs, refAt σ with
  | [.ptr (.out 0) 0, .int .i64 i], some (N, row) => some (.nm ((row.map itemOf).eraseIdx i.toNat) fun l => .full (isRef σ N (row.map itemOf) && hold (decide (0 ≤ i ∧ i < row.length ∧ row.length ≤ 1000000000))) (.tuple []) (refS (N + 1) l))
  | _, _ => none)
end
end Go.Proofs.Ytakidnohmfebmaa
