/-
  Seat 11 (leaf): what is told of calls, 4 (spans, and whether all is right).
-/
import Derived.Test.YtlfnmhfmikomkaaFh
set_option linter.unusedVariables false
namespace Go.Proofs.Ytlfnmhfmikomkaa
open Go.AL
/-- The leaves that a span has. -/
def rangeN (r : Root) (a b : Txt) : List Int := if rootB r = true ∧ tlt a b = true then (r.2.drop (atN r.1 a)).take (posN r.1 b + 1 - atN r.1 a) else []
def outP (r : Root) (i : Int) (s : Txt) : Bool := decide ((atN r.1 s : Int) ≠ i)
def idxP (p : Txt → Bool) (l : List Txt) : Int := if l.any p then (l.findIdx p : Int) else -1
def rightB (r : Root) (ls : List Lf) : Bool := decide (rootB r = true ∧ ls.length = r.2.length ∧ ∀ i, i < ls.length → lfB (ls.getD i (0, [], false)) = true ∧ (ls.getD i (0, [], false)).1 = r.2.getD i 0 ∧ ∀ s ∈ (ls.getD i (0, [], false)).2.1, atN r.1 s = i)
noncomputable section
def rangeE : Ent := (13, fun xs _ => match xs with
  | [v, .str a, .str b] => some (.nm (rangeN (rootOf v) a b) fun x => .pure (rootM v) (.slice (iv x) 1 .ro))
  | _ => none)
def rangeRE : Ent := (23, fun xs _ => match xs with
  | [v, .str a, .str b] => some (.nm (rangeN (rootOf v) a b) fun x => .pure (rootM v && (hold (shortL (rootOf v).1) && hold (decide (a.length ≤ 1000000)))) (.slice (iv x) 1 .ro))
  | _ => none)
def rightRE : Ent := (25, fun xs _ => match xs with
  | [v, .slice es s t] => some (.pure (rootH v && (okW 3 s es && (es.all lfIs && (lenOk es.length && es.all lfH)))) (.bool (hold (rightB (rootOf v) (es.map lfOf)))))
  | _ => none)
def rightE : Ent := (24, fun xs _ => match xs with
  | [v, .slice es s t] => some (.pure (rootG v && (okW 3 s es && (es.all lfIs && (lenOk es.length && es.all lfG)))) (.bool (hold (rightB (rootOf v) (es.map lfOf)))))
  | _ => none)
end
end Go.Proofs.Ytlfnmhfmikomkaa
