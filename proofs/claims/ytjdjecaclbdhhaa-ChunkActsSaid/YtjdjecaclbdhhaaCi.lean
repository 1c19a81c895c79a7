/-
  Seat 10 (chunk): contracts: chunks in new memory.
-/
import Derived.Test.YtjdjecaclbdhhaaCh
namespace Go.Proofs.Ytjdjecaclbdhhaa
open Go.AL
set_option linter.unusedSimpArgs false
set_option linter.unusedVariables false
set_option maxHeartbeats 2000000
set_option maxRecDepth 20000

theorem ownM_ok : EntOk Try.prog ownME := by
  intro xs σ; simp only [ownME]; split
  · rename_i v
    intro hc
    simp only [ckM, Bool.and_eq_true] at hc
    obtain ⟨h1, h2⟩ := hc
    have h2 := lenM_of h2
    refine ACall.args (args := [ckV (ckOf v)]) ?_ (.cons (wk_ck h1) (.refl _))
    refine ownM_i σ (ckOf v) _ (.of [cloneIE] rfl ⟨cloneI_ok, trivial⟩) ?_
    rw [hold_eq, iv_length]
    exact gb_by (and_tt (iv_isI64 _) (dt h2)) ⟨rfl, rfl⟩
  · trivial
theorem ownS_ok : EntOk Try.prog ownSE := by
  intro xs σ; simp only [ownSE]; split
  · rename_i v
    intro hc
    simp only [ckM, Bool.and_eq_true] at hc
    obtain ⟨h1, h2⟩ := hc
    have h2 := lenM_of h2
    refine pcall_of (.cons (wk_ck h1) (.refl _)) (ownS_i (ckOf v) _ (.of [cloneISE] rfl ⟨cloneIS_ok, trivial⟩) ?_) (by simp only [noOutL, ck_noOut, Bool.and_true]) (by simp only [noTokL, ck_noTok, Bool.and_true]) (ck_noOut 0 (ckOf v)) (ck_noTok 0 (ckOf v))
    rw [hold_eq, iv_length]
    exact gb_by (and_tt (iv_isI64 _) (dt h2)) (Wk.refl _)
  · trivial
end Go.Proofs.Ytjdjecaclbdhhaa
