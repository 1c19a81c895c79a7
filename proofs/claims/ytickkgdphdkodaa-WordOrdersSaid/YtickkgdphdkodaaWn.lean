/-
  Seat 04 (word): the next stamp, as arithmetic.
-/
import Derived.Test.YtickkgdphdkodaaWm
namespace Go.Proofs.Ytickkgdphdkodaa
open Go.AL
set_option linter.unusedSimpArgs false
set_option linter.unusedVariables false

theorem wNext_eq (last e : Int) (h0 : 0 ≤ last) (h1 : last < 18446744073709551616) (he : 0 ≤ e) (he' : e ≤ 2147483647) :
    wNext last e = (let m := max (e * 2147483648 + 1) (last % 4611686018427387904 + 1); if e * 2147483648 + 1073741823 < m then (0, 40) else (m, 0)) := by
  unfold wNext
  rw [if_neg (by omega)]
  simp only [wShl_eq e he he', wLow_eq last h0 h1, IntKind.wrap_u64]
  rw [show (e * 2147483648 + 1) % 18446744073709551616 = e * 2147483648 + 1 by omega, show (last % 4611686018427387904 + 1) % 18446744073709551616 = last % 4611686018427387904 + 1 by omega,
    show ((e * 2147483648 + 1 - 1) % 18446744073709551616 + 1073741823) % 18446744073709551616 = e * 2147483648 + 1073741823 by omega]

theorem wNext_bad (last e : Int) (h : e < 0 ∨ 2147483647 < e) : wNext last e = (0, 2) := by unfold wNext; rw [if_pos h]
theorem rNext_bad (last e : Int) (h : e < 0 ∨ 2147483647 < e) : rNext last e = (0, 2) := by unfold rNext; rw [if_pos h]

theorem next_eq (last e : Int) (h0 : 0 ≤ last) (h1 : last < 18446744073709551616) (hr : -9223372036854775808 ≤ e ∧ e ≤ 9223372036854775807) : wNext last e = rNext last e := by
  by_cases hb : e < 0 ∨ 2147483647 < e
  · rw [wNext_bad last e hb, rNext_bad last e hb]
  · have he : 0 ≤ e := by omega
    have he' : e ≤ 2147483647 := by omega
    rw [wNext_eq last e h0 h1 he he']
    unfold rNext
    rw [if_neg hb]
    simp only [rEp_eq last h0 h1, rSq_eq last h0 h1, IntKind.wrap_u64]
    rw [show e % 18446744073709551616 = e by omega]
    by_cases c1 : e < last % 4611686018427387904 / 2147483648
    · rw [if_pos c1, if_pos (by omega)]
    · rw [if_neg c1]
      by_cases c2 : last % 4611686018427387904 / 2147483648 < e
      · rw [if_pos c2, if_neg (by omega), rPack_eq e 1 false false ((wRight_iff _ _).2 (by omega))]
        simp
        omega
      · rw [if_neg c2]
        by_cases c3 : 1073741823 ≤ last % 2147483648
        · rw [if_pos c3, if_pos (by omega)]
        · rw [if_neg c3, if_neg (by omega), wrap_i64 (n := last % 2147483648) (by omega) (by omega), wrap_i64 (by omega) (by omega), rPack_eq e _ false false ((wRight_iff _ _).2 (by omega))]
          simp
          omega

/-- What a stamp's parts are. -/
theorem parts_val (e q : Int) (he : 0 ≤ e) (he' : e ≤ 2147483647) (hq : 0 ≤ q) (hq' : q ≤ 1073741823) :
    wOk (e * 2147483648 + q) = true ∧ IntKind.i64.wrap ((wLow (e * 2147483648 + q)).fdiv 2147483648) = e ∧ IntKind.i64.wrap (wSeq (wLow (e * 2147483648 + q))) = q ∧ wIsLock (e * 2147483648 + q) = 0 ∧ wIsAbs (e * 2147483648 + q) = 0 ∧ wLow (e * 2147483648 + q) = e * 2147483648 + q := by
  have hl : wLow (e * 2147483648 + q) = e * 2147483648 + q := by rw [wLow_eq _ (by omega) (by omega)]; omega
  have hs : wSeq (e * 2147483648 + q) = q := by rw [wSeq_eq _ (by omega) (by omega)]; omega
  refine ⟨?_, ?_, ?_, ?_, ?_, hl⟩
  · unfold wOk; rw [hl, hs]; simpa using hq'
  · rw [hl, Int.fdiv_eq_ediv_of_nonneg _ (by decide), wrap_i64 (by omega) (by omega)]; omega
  · rw [hl, hs, wrap_i64 (by omega) (by omega)]
  · rw [wIsLock_eq _ (by omega) (by omega), if_neg (by omega)]
  · rw [wIsAbs_eq _ (by omega) (by omega)]; omega

theorem next_val (last e q : Int) (h0 : 0 ≤ last) (h1 : last < 4611686018427387904) (he : 0 ≤ e) (he' : e ≤ 2147483647) (hq : 1 ≤ q) (hq' : q ≤ 1073741823) (hm : max (e * 2147483648 + 1) (last + 1) = e * 2147483648 + q) :
    wNext last e = (e * 2147483648 + q, 0) := by
  rw [wNext_eq last e h0 (by omega) he he', show last % 4611686018427387904 = last by omega]
  simp only [hm]
  rw [if_neg (by omega)]

/-- Where there is a next stamp. -/
theorem next_ok_val (last e : Int) (h0 : 0 ≤ last) (h1 : last < 18446744073709551616) (h : (wNext last e).2 = 0) :
    0 ≤ e ∧ e ≤ 2147483647 ∧ ∃ q, 1 ≤ q ∧ q ≤ 1073741823 ∧ (wNext last e).1 = e * 2147483648 + q ∧ wLow last < e * 2147483648 + q := by
  by_cases hb : e < 0 ∨ 2147483647 < e
  · rw [wNext_bad last e hb] at h; cases h
  · have he : 0 ≤ e := by omega
    have he' : e ≤ 2147483647 := by omega
    rw [wNext_eq last e h0 h1 he he'] at h ⊢
    rw [wLow_eq last h0 h1]
    simp only [] at h ⊢
    split at h
    · cases h
    · rename_i hm
      rw [if_neg hm]
      exact ⟨he, he', max (e * 2147483648 + 1) (last % 4611686018427387904 + 1) - e * 2147483648, by omega, by omega, by simp only []; omega, by omega⟩

/-! ### The greatest stamp -/

def maxW (m w : Int) : Int := if m < wLow w then wLow w else m

def mostL (ws : List Int) : Int := ws.foldl (fun m w => if m < wLow w then wLow w else m) 0

theorem most_fold (ws : List Int) : ∀ m, m ≤ ws.foldl maxW m ∧ (∀ w ∈ ws, wLow w ≤ ws.foldl maxW m) ∧ (ws.foldl maxW m = m ∨ ∃ w ∈ ws, wLow w = ws.foldl maxW m) := by
  induction ws with
  | nil => intro m; simp
  | cons w ws ih =>
    intro m
    obtain ⟨h1, h2, h3⟩ := ih (maxW m w)
    have hm : m ≤ maxW m w ∧ wLow w ≤ maxW m w ∧ (maxW m w = m ∨ maxW m w = wLow w) := by unfold maxW; split <;> omega
    simp only [List.foldl_cons, List.mem_cons, forall_eq_or_imp, exists_eq_or_imp]
    refine ⟨by omega, ⟨by omega, h2⟩, ?_⟩
    rcases h3 with h3 | h3
    · rcases hm.2.2 with h4 | h4
      · exact .inl (by omega)
      · exact .inr (.inl (by omega))
    · exact .inr (.inr h3)

theorem mostL_eq (ws : List Int) : mostL ws = ws.foldl maxW 0 := rfl

theorem mostL_spec (ws : List Int) : 0 ≤ mostL ws ∧ (∀ w ∈ ws, wLow w ≤ mostL ws) ∧ (mostL ws = 0 ∨ ∃ w ∈ ws, wLow w = mostL ws) := most_fold ws 0

theorem mostL_unique {ws : List Int} {m : Int} (h0 : 0 ≤ m) (h1 : ∀ w ∈ ws, wLow w ≤ m) (h2 : m = 0 ∨ ∃ w ∈ ws, wLow w = m) : mostL ws = m := by
  obtain ⟨g0, g1, g2⟩ := mostL_spec ws
  have a : m ≤ mostL ws := by
    rcases h2 with rfl | ⟨w, hw, rfl⟩
    · exact g0
    · exact g1 w hw
  have b : mostL ws ≤ m := by
    rcases g2 with e | ⟨w, hw, e⟩
    · omega
    · rw [← e]; exact h1 w hw
  omega
end Go.Proofs.Ytickkgdphdkodaa
