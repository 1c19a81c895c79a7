/-
  Seat 04 (word): the functions' contracts.
-/
import Derived.Test.YtickkgdphdkodaaWr
namespace Go.Proofs.Ytickkgdphdkodaa
open Go.AL
set_option linter.unusedSimpArgs false
set_option linter.unusedVariables false
set_option maxHeartbeats 1000000
set_option maxRecDepth 20000

theorem stamp_ok : EntOk Try.prog stampE := by
  intro xs σ; simp only [stampE]; split
  · intro _ σ'; exact stamp_i _ _ _ (.of_none rfl) ⟨rfl, rfl⟩
  · trivial

theorem lock_ok : EntOk Try.prog lockE := by
  intro xs σ; simp only [lockE]; split
  · intro _ σ'; exact lock_i _ _ _ (.of_none rfl) ⟨rfl, rfl⟩
  · trivial

theorem unlock_ok : EntOk Try.prog unlockE := by
  intro xs σ; simp only [unlockE]; split
  · intro _ σ'; exact unlock_i _ _ _ (.of_none rfl) ⟨rfl, rfl⟩
  · trivial

theorem absent_ok : EntOk Try.prog absentE := by
  intro xs σ; simp only [absentE]; split
  · intro _ σ'
    refine absent_i _ _ _ _ (.of_none rfl) (brV_by (fun h => ?_) (fun h => ?_)) <;> subst h <;> exact ⟨rfl, rfl⟩
  · trivial

theorem pack_ok : EntOk Try.prog packE := by
  intro xs σ; simp only [packE]; split
  · intro _ σ'
    refine pack_i _ _ _ _ _ _ (.of [absentE] rfl ⟨absent_ok, trivial⟩) ?_
    simp only [hold_eq]
    repeat' (first | refine brV_by (fun h => ?_) (fun h => ?_))
    all_goals (refine ⟨?_, by first | rfl | trivial⟩)
    all_goals grind [wPack, wRight, wJoin, wShl, wLock]
  · trivial

theorem parts_ok : EntOk Try.prog partsE := by
  intro xs σ; simp only [partsE]; split
  · intro _ σ'
    refine parts_i _ _ _ (.of [stampE] rfl ⟨stamp_ok, trivial⟩) ?_
    simp only [hold_eq]
    repeat' (first | refine brV_by (fun h => ?_) (fun h => ?_))
    all_goals (refine ⟨?_, by first | rfl | trivial⟩)
    all_goals grind [wOk, wSeq, wIsLock, wIsAbs]
  · trivial

theorem next_ok : EntOk Try.prog nextE := by
  intro xs σ; simp only [nextE]; split
  · intro _ σ'
    refine next_i _ _ _ _ (.of [stampE] rfl ⟨stamp_ok, trivial⟩) ?_
    simp only [hold_eq]
    repeat' (first | refine brV_by (fun h => ?_) (fun h => ?_))
    all_goals (refine ⟨?_, by first | rfl | trivial⟩)
    all_goals grind [wNext, wShl]
  · trivial

theorem rparts_ok : EntOk Try.prog rpartsE := by
  intro xs σ; simp only [rpartsE]; split
  · intro _ σ'; exact rparts_i _ _ _ (.of_none rfl) ⟨rfl, rfl⟩
  · trivial

theorem rright_ok : EntOk Try.prog rrightE := by
  intro xs σ; simp only [rrightE]; split
  · intro _ σ'
    refine rright_i _ _ _ _ _ _ (.of_none rfl) ?_
    simp only [hold_eq]
    repeat' (first | refine brV_by (fun h => ?_) (fun h => ?_))
    all_goals (refine ⟨?_, by first | rfl | trivial⟩)
    all_goals grind [wRight]
  · trivial

theorem rpack_ok : EntOk Try.prog rpackE := by
  intro xs σ; simp only [rpackE]; split
  · intro _ σ'
    refine rpack_i _ _ _ _ _ _ (.of_none rfl) ?_
    repeat' (first | refine brV_by (fun h => ?_) (fun h => ?_))
    all_goals (simp_all [rPack])
  · trivial

theorem rnext_ok : EntOk Try.prog rnextE := by
  intro xs σ; simp only [rnextE]; split
  · intro _ σ'
    refine rnext_i _ _ _ _ (.of [rpartsE, rpackE] rfl ⟨rparts_ok, rpack_ok, trivial⟩) ?_
    simp only [hold_eq]
    repeat' (first | refine brV_by (fun h => ?_) (fun h => ?_))
    all_goals (refine ⟨?_, by first | rfl | trivial⟩)
    all_goals grind [rNext]
  · trivial

theorem awake_ok : EntOk Try.prog awakeE := by
  intro xs σ; simp only [awakeE]; split
  · intro _ σ'
    refine awake_i _ _ (.of [packE, nextE] rfl ⟨pack_ok, next_ok, trivial⟩) ?_
    simp
  · trivial
end Go.Proofs.Ytickkgdphdkodaa
