/-
  Seat 02 (value): the contract of the law of things.
-/
import Derived.Test.YteohhklblbinbaaDoorUc
import Derived.Test.YteohhklblbinbaaDoorVl
namespace Go.Proofs.YteohhklblbinbaaDoor
open Go.AL
set_option linter.unusedSimpArgs false
set_option linter.unusedVariables false
set_option maxHeartbeats 2000000
set_option maxRecDepth 20000
theorem things_law (xs : List AVal) (h : FitsL [.agg [.int .i64, .int .i64, .str], .agg [.int .i64, .int .i64, .str]] xs) : ACall Tryd.prog 4 xs Sto.empty fun r _ => r = .bool true := by
  obtain ⟨_, _, rfl, h1, _, _, rfl, h2, rfl⟩ := h
  obtain ⟨⟨k, n, s⟩, rfl, f1, _⟩ := fits_vl h1
  obtain ⟨⟨k2, n2, s2⟩, rfl, f2, _⟩ := fits_vl h2
  refine thingsL_i k n k2 n2 s s2 _ (.of [awakeE, rightRE, thingPE, rightE, brokeE] rfl ⟨awake_ok, rightR_ok, thingP_ok, right_ok, broke_ok, trivial⟩) ?_
  have v1 : vlsOk [AVal.agg [.int .i64 k, .int .i64 n, .str s]] 3 = true := vlsOk_mk (l := [⟨k, n, s⟩]) (by simp)
  have v2 : vlsOk [AVal.agg [.int .i64 k, .int .i64 n, .str s], AVal.agg [.int .i64 k2, .int .i64 n2, .str s2]] 3 = true := vlsOk_mk (l := [⟨k, n, s⟩, ⟨k2, n2, s2⟩]) (by simp)
  have v3 : vlsOk [] 0 = true := by simp [vlsOk, okW, lenOk]
  have ho := okV_iff k n s
  generalize hO : okV ⟨k, n, s⟩ = O at ho
  generalize hO2 : okV ⟨k2, n2, s2⟩ = O2
  simp only [hold_eq, List.all_cons, List.all_nil, hO, hO2, v1, v2, v3, Bool.and_true]
  by_cases c1 : k = 1 ∧ s.length = 0
  · obtain ⟨rfl, hs⟩ := c1
    have hs := List.length_eq_zero_iff.1 hs
    subst hs
    have : O = true := ho.2 (.inl ⟨rfl, rfl⟩)
    subst this
    cases O2 <;> simp [brV, gb]
  · by_cases c2 : k = 2 ∧ n = 0 ∧ s.length ≤ 200
    · obtain ⟨rfl, rfl, hs⟩ := c2
      have : O = true := ho.2 (.inr ⟨rfl, rfl, hs⟩)
      subst this
      cases O2 <;> simp [brV, gb, hs]
    · have : O = false := by
        cases O with
        | false => rfl
        | true =>
          rcases ho.1 rfl with ⟨a, b⟩ | h
          · exact (c1 ⟨a, by simp [b]⟩).elim
          · exact (c2 h).elim
      subst this
      have d1 : decide (k = 1 ∧ s.length = 0) = false := decide_eq_false c1
      have d2 : decide (k = 2 ∧ n = 0 ∧ s.length ≤ 200) = false := decide_eq_false c2
      simp only [d1, d2]
      cases O2 <;> simp [brV, gb]
end Go.Proofs.YteohhklblbinbaaDoor
