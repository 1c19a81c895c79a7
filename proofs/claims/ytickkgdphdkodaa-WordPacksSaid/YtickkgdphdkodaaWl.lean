/-
  Seat 04 (word): the laws on Tids and words.
-/
import Derived.Test.YtickkgdphdkodaaWc
namespace Go.Proofs.Ytickkgdphdkodaa
open Go.AL
set_option linter.unusedSimpArgs false
set_option linter.unusedVariables false
set_option maxHeartbeats 1000000
set_option maxRecDepth 20000

theorem fits_tid {a : AVal} (h : Fits (.agg [.int .i64, .int .i64, .bool, .bool]) a) : ∃ (e s : Int) (l b : Bool), a = .agg [.int .i64 e, .int .i64 s, .bool l, .bool b] := by
  simp only [Fits, FitsL] at h
  obtain ⟨cs, rfl, a1, r1, rfl, ⟨e, rfl, _⟩, a2, r2, rfl, ⟨s, rfl, _⟩, a3, r3, rfl, ⟨l, rfl⟩, a4, r4, rfl, ⟨b, rfl⟩, rfl⟩ := h
  exact ⟨e, s, l, b, rfl⟩

theorem orders_law (xs : List AVal) (h : FitsL [.agg [.int .i64, .int .i64, .bool, .bool], .agg [.int .i64, .int .i64, .bool, .bool]] xs) : ACall Try.prog 3 xs Sto.empty fun r _ => r = .bool true := by
  obtain ⟨x, r1, rfl, h1, y, r2, rfl, h2, rfl⟩ := h
  obtain ⟨e, s, l, a, rfl⟩ := fits_tid h1
  obtain ⟨e', s', l', a', rfl⟩ := fits_tid h2
  refine orders_i _ _ _ _ _ _ _ _ _ _ (.of [awakeE, rrightE, packE, stampE] rfl ⟨awake_ok, rright_ok, pack_ok, stamp_ok, trivial⟩) ?_
  simp only [hold_eq]
  cases h1 : wRight e s with
  | false => simp
  | true =>
    cases h2 : wRight e' s' with
    | false => simp
    | true =>
      rw [wPack_low e s l a h1, wPack_low e' s' l' a' h2]
      obtain ⟨p1, p2, p3, p4⟩ := (wRight_iff e s).1 h1
      obtain ⟨q1, q2, q3, q4⟩ := (wRight_iff e' s').1 h2
      simp
      refine ⟨fun h => ⟨fun h3 => ?_, fun h3 => ?_⟩, fun h => ?_⟩
      · subst h3; omega
      · omega
      · omega

theorem locks_law (xs : List AVal) (h : FitsL [.int .u64, .bool] xs) : ACall Try.prog 4 xs Sto.empty fun r _ => r = .bool true := by
  obtain ⟨x, r1, rfl, ⟨n, rfl, h0, h1⟩, y, r2, rfl, ⟨is, rfl⟩, rfl⟩ := h
  have h0 : 0 ≤ n := h0
  have h1 : n < 18446744073709551616 := by have h1 : n ≤ 18446744073709551615 := h1; omega
  refine locks_i _ _ _ _ (.of [awakeE, rpartsE, lockE, unlockE, absentE, stampE] rfl ⟨awake_ok, rparts_ok, lock_ok, unlock_ok, absent_ok, stamp_ok, trivial⟩) ?_
  simp only [hold_eq]
  have e1 := wLock_eq n h0 h1
  have e2 := wUnlock_eq n h0 h1
  have e3 := wPut_eq is n h0 h1
  have r1 : 0 ≤ wLock n ∧ wLock n < 18446744073709551616 := by omega
  have r2 : 0 ≤ wUnlock n ∧ wUnlock n < 18446744073709551616 := by omega
  have r3 : 0 ≤ wPut is n ∧ wPut is n < 18446744073709551616 := by cases is <;> simp at e3 <;> omega
  have f1 : (wIsLock n == 0) = !rLk n := by
    rw [wIsLock_eq n h0 h1, rLk_eq n h0 h1]
    by_cases h : 9223372036854775808 ≤ n <;> simp [h]
  have f2 : rLk (wLock n) = true := by rw [rLk_eq _ r1.1 r1.2]; simp; omega
  have f3 : rAb (wLock n) = rAb n := by rw [rAb_eq _ r1.1 r1.2, rAb_eq _ h0 h1]; congr 1; apply propext; omega
  have f4 : rLk (wUnlock n) = false := by rw [rLk_eq _ r2.1 r2.2]; simp; omega
  have f5 : rAb (wUnlock n) = rAb n := by rw [rAb_eq _ r2.1 r2.2, rAb_eq _ h0 h1]; congr 1; apply propext; omega
  have f6 : rLk (wPut is n) = rLk n := by rw [rLk_eq _ r3.1 r3.2, rLk_eq _ h0 h1]; congr 1; apply propext; cases is <;> simp at e3 <;> omega
  have f7 : rAb (wPut is n) = is := by rw [rAb_eq _ r3.1 r3.2]; cases is <;> simp at e3 ⊢ <;> omega
  have f8 : wLow (wLock n) = wLow n := by rw [wLow_eq _ r1.1 r1.2, wLow_eq _ h0 h1]; omega
  have f9 : wLow (wUnlock n) = wLow n := by rw [wLow_eq _ r2.1 r2.2, wLow_eq _ h0 h1]; omega
  have f10 : wLow (wPut is n) = wLow n := by rw [wLow_eq _ r3.1 r3.2, wLow_eq _ h0 h1]; cases is <;> simp at e3 <;> omega
  rw [f1]
  simp [f2, f3, f4, f5, f6, f7, f8, f9, f10]
end Go.Proofs.Ytickkgdphdkodaa
