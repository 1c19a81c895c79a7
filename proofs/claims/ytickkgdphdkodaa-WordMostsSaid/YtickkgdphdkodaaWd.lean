/-
  Seat 04 (word): the greatest stamp.
-/
import Derived.Test.YtickkgdphdkodaaWc
namespace Go.Proofs.Ytickkgdphdkodaa
open Go.AL
set_option linter.unusedSimpArgs false
set_option linter.unusedVariables false
set_option maxHeartbeats 1000000
set_option maxRecDepth 20000

theorem most_ok : EntOk Try.prog mostE := by
  intro xs σ; simp only [mostE]; split
  · rename_i es t
    intro hc σ'
    simp only [Bool.and_eq_true, decide_eq_true_eq, List.all_eq_true] at hc
    obtain ⟨hall, hlen⟩ := hc
    refine most_i _ _ _ _ (.of [stampE] rfl ⟨stamp_ok, trivial⟩) ?_
    refine loopV_intro (α := Nat × Int) (fun x => mostL_S es t x.2 x.1 σ') (fun x => x.1 ≤ es.length ∧ ((es.map AVal.intOf).drop x.1).foldl (fun m w => if m < wLow w then wLow w else m) x.2 = mostL (es.map AVal.intOf)) (fun x => es.length - x.1) ?_ (0, 0) ⟨Nat.zero_le _, rfl⟩
    rintro ⟨i, m⟩ ⟨hi, hm⟩ L hL
    refine Eq.mpr (mostL_r es t m i σ' L _) ?_
    simp only [hold_eq]
    refine brV_by (fun h => ?_) (fun h => ?_)
    · have hlt : i < es.length := by simpa using h
      have he := elemAt_int (k := .u64) hlt (hall es[i] (List.getElem_mem hlt))
      have hlm : i < (es.map AVal.intOf).length := by simpa using hlt
      simp only [foldl_drop _ _ _ hlm] at hm
      generalize (es.map AVal.intOf)[i] = n at he hm
      rw [he]
      have e1 : IntKind.i64.wrap ((i : Int) + 1) = ((i + 1 : Nat) : Int) := by rw [wrap_i64 (by omega) (by omega)]; rfl
      refine gb_by (by simp; omega) (gb_by rfl ?_)
      rw [e1]
      exact hL (i + 1, if m < wLow n then wLow n else m) ⟨hlt, hm⟩ (by simp; omega)
    · have hge : ¬ i < es.length := by simpa using h
      refine leaveTo (toCut (Eq.mpr (mostF_r m σ' _) ?_))
      refine ⟨?_, rfl⟩
      rw [List.drop_of_length_le (by simp; omega)] at hm
      exact congrArg _ hm
  · trivial
end Go.Proofs.Ytickkgdphdkodaa
