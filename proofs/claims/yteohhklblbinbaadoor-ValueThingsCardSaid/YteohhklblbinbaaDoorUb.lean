/-
  Seat 02 (value): what is told of who panics.
-/
import Derived.Test.YteohhklblbinbaaDoorUa
import Derived.Test.YteohhklblbinbaaDoorVn
namespace Go.Proofs.YteohhklblbinbaaDoor
open Go.AL
set_option linter.unusedSimpArgs false
set_option linter.unusedVariables false
noncomputable section
def brokeE : Ent := (16, fun xs _ => match xs with
  | [.agg [.int .i64 k, .int .i64 n, .str s], .bool words] => some (.pure true (.bool (hold (if words then !decide (k = 2 ∧ n = 0 ∧ s.length ≤ 200) else !decide (k = 1 ∧ s.length = 0)))))
  | _ => none)
end
theorem broke_ok : EntOk Tryd.prog brokeE := by
  intro xs σ; simp only [brokeE]; split
  · rename_i k n s words
    intro _
    simp only [hold_eq]
    refine PCall.ofBelowA fun γ w vs hA hr => ?_
    obtain ⟨u, v, rfl, q1, q2⟩ := repL2 hr
    cases q2
    cases q1 with
    | agg q1 h1 =>
      cases q1 with
      | cons a1 q1 => cases q1 with
        | cons a2 q1 => cases q1 with
          | cons a3 q1 =>
            cases q1; cases a1; cases a2; cases a3
            exact (broke_walk w hA.1 k n s words).mono fun e w' ⟨h1, h2⟩ => ⟨_, h1, .bool _ _, h2⟩
  · trivial
end Go.Proofs.YteohhklblbinbaaDoor
