/-
  Seat 11 (leaf): what is told of calls, 3 (the laws' own functions).
-/
import Derived.Test.YtlfnmhfmikomkaaFf
set_option linter.unusedVariables false
namespace Go.Proofs.Ytlfnmhfmikomkaa
open Go.AL
def textsB (l : List Txt) : Bool := decide (l.length ≤ 30 ∧ ∀ s ∈ l, s.length ≤ 700)
def smallB (r : Root) (ls : List Lf) : Bool := decide (textsB r.1 = true ∧ r.2.length ≤ 40 ∧ ls.length ≤ 40 ∧ ∀ l ∈ ls, textsB l.2.1 = true)
theorem textsB_iff {l : List Txt} : textsB l = true ↔ l.length ≤ 30 ∧ ∀ s ∈ l, s.length ≤ 700 := by simp only [textsB, decide_eq_true_eq]
theorem smallB_iff {r : Root} {ls : List Lf} : smallB r ls = true ↔ textsB r.1 = true ∧ r.2.length ≤ 40 ∧ ls.length ≤ 40 ∧ ∀ l ∈ ls, textsB l.2.1 = true := by simp only [smallB, decide_eq_true_eq]
noncomputable section
def awakeE : Ent := (9, fun xs _ => match xs with
  | [] => some (.pure true (.bool true))
  | _ => none)
def lawTextsE : Ent := (44, fun xs _ => match xs with
  | [.slice es s t] => some (.pure (okW 1 s es && (es.all strIs && lenOk es.length)) (.bool (hold (textsB (es.map AVal.strOf)))))
  | _ => none)
def smallE : Ent := (17, fun xs _ => match xs with
  | [v, .slice es s t] => some (.pure (rootG v && (okW 3 s es && (es.all lfIs && (lenOk es.length && es.all lfG)))) (.bool (hold (smallB (rootOf v) (es.map lfOf)))))
  | _ => none)
end
end Go.Proofs.Ytlfnmhfmikomkaa
