/-
  Seat 04 (word): the greatest of several, and stamps one behind the other.
-/
import Derived.Test.YtickkgdphdkodaaWo
namespace Go.Proofs.Ytickkgdphdkodaa
open Go.AL
set_option linter.unusedSimpArgs false
set_option linter.unusedVariables false
set_option maxHeartbeats 1000000
set_option maxRecDepth 20000

theorem wLow_nonneg {n : Int} (h0 : 0 ≤ n) (h1 : n < 18446744073709551616) : 0 ≤ wLow n ∧ wLow n < 18446744073709551616 ∧ wLow (wLow n) = wLow n := by
  rw [wLow_eq n h0 h1, wLow_eq _ (by omega) (by omega)]; omega

theorem mostL_low {ws : List Int} (h : ∀ w ∈ ws, 0 ≤ w ∧ w < 18446744073709551616) : mostL ws < 18446744073709551616 ∧ wLow (mostL ws) = mostL ws := by
  obtain ⟨g0, g1, g2⟩ := mostL_spec ws
  rcases g2 with e | ⟨w, hw, e⟩
  · rw [e]; exact ⟨by decide, by decide⟩
  · rw [← e]
    have := wLow_nonneg (h w hw).1 (h w hw).2
    exact ⟨this.2.1, this.2.2⟩

theorem mosts_law (xs : List AVal) (h : FitsL [.slice (.int .u64) 1 8, .slice (.int .u64) 1 8, .int .u64] xs) : ACall Try.prog 7 xs Sto.empty fun r _ => r = .bool true := by
  obtain ⟨x, r1, rfl, hx, y, r2, rfl, hy, z, r3, rfl, ⟨n, rfl, hn⟩, rfl⟩ := h
  obtain ⟨a, rfl, hla, ha⟩ := fits_ints hx
  obtain ⟨b, rfl, hlb, hb⟩ := fits_ints hy
  have ha : ∀ w ∈ a, 0 ≤ w ∧ w < 18446744073709551616 := fun w hw => u64_range (ha w hw)
  have hb : ∀ w ∈ b, 0 ≤ w ∧ w < 18446744073709551616 := fun w hw => u64_range (hb w hw)
  obtain ⟨h0, h1⟩ := u64_range hn
  refine mosts_i _ _ _ _ _ (.of [awakeE, lockE, mostE, stampE, absentE] rfl ⟨awake_ok, lock_ok, most_ok, stamp_ok, absent_ok, trivial⟩) ?_
  obtain ⟨a0, a1, a2⟩ := mostL_spec a
  obtain ⟨b0, b1, b2⟩ := mostL_spec b
  have q1 := wLow_nonneg h0 h1
  have e1 : mostL (b ++ a) = mostL (a ++ b) := by
    obtain ⟨g0, g1, g2⟩ := mostL_spec (a ++ b)
    refine mostL_unique g0 (fun w hw => g1 w (by simp at hw ⊢; exact hw.symm)) (g2.imp_right fun ⟨w, hw, e⟩ => ⟨w, by simp at hw ⊢; exact hw.symm, e⟩)
  have la := mostL_low ha
  have lb := mostL_low hb
  have e2 : mostL [mostL a, mostL b] = mostL (a ++ b) := by
    obtain ⟨g0, g1, g2⟩ := mostL_spec (a ++ b)
    have m1 : mostL a ≤ mostL (a ++ b) := by
      rcases a2 with e | ⟨w, hw, e⟩
      · omega
      · rw [← e]; exact g1 w (by simp [hw])
    have m2 : mostL b ≤ mostL (a ++ b) := by
      rcases b2 with e | ⟨w, hw, e⟩
      · omega
      · rw [← e]; exact g1 w (by simp [hw])
    refine mostL_unique g0 (fun w hw => ?_) ?_
    · simp at hw
      rcases hw with rfl | rfl
      · rw [la.2]; exact m1
      · rw [lb.2]; exact m2
    · rcases g2 with g2 | ⟨w, hw, e⟩
      · exact .inl g2
      · right
        rcases List.mem_append.1 hw with hw | hw
        · have := a1 w hw
          exact ⟨mostL a, by simp, by rw [la.2]; omega⟩
        · have := b1 w hw
          exact ⟨mostL b, by simp, by rw [lb.2]; omega⟩
  have r1 := wLock_eq n h0 h1
  have e3 : mostL [wLock n] = wLow n := by
    have : wLow (wLock n) = wLow n := by rw [wLow_eq _ (by omega) (by omega), wLow_eq _ h0 h1]; omega
    exact mostL_unique q1.1 (fun w hw => by simp at hw; subst hw; omega) (.inr ⟨wLock n, by simp, this⟩)
  have r2 := wPut_eq true n h0 h1
  simp only [if_true] at r2
  have e4 : mostL [wPut true n, n] = wLow n := by
    have : wLow (wPut true n) = wLow n := by rw [wLow_eq _ (by omega) (by omega), wLow_eq _ h0 h1]; omega
    exact mostL_unique q1.1 (fun w hw => by simp at hw; rcases hw with rfl | rfl <;> omega) (.inr ⟨n, by simp, rfl⟩)
  simp only [hold_eq]
  refine brV_by' (fun ha' => ?_) (fun _ => trivial)
  refine brV_by (fun _ => trivial) (fun hb' => ?_)
  have ka : a.length ≤ 100 := by simp at ha'; omega
  have kb : b.length ≤ 100 := by simp at hb'; omega
  have E1 : List.map AVal.intOf ([] ++ List.map (AVal.int IntKind.u64) a ++ List.map (AVal.int IntKind.u64) b) = a ++ b := by
    rw [List.nil_append, List.map_append, map_int_intOf, map_int_intOf]
  have E2 : List.map AVal.intOf ([] ++ List.map (AVal.int IntKind.u64) b ++ List.map (AVal.int IntKind.u64) a) = b ++ a := by
    rw [List.nil_append, List.map_append, map_int_intOf, map_int_intOf]
  simp only [E1, E2, map_int_intOf, e1]
  have A1 : List.all ([] ++ List.map (AVal.int IntKind.u64) a ++ List.map (AVal.int IntKind.u64) b) (etaOk (Sh.int IntKind.u64)) = true := by simp [etaOk]
  have A2 : List.all ([] ++ List.map (AVal.int IntKind.u64) b ++ List.map (AVal.int IntKind.u64) a) (etaOk (Sh.int IntKind.u64)) = true := by simp [etaOk]
  simp only [A1, A2, all_etaOk]
  repeat' (first | refine gb_by ?_ ?_ | refine brV_by (fun h => ?_) (fun h => ?_))
  all_goals try (simp; omega)
  all_goals try (simp only [AVal.intOf, List.map_cons, List.map_nil, e2, e3, e4] at *; simp_all; done)

theorem runs_law (xs : List AVal) (h : FitsL [.int .i64, .slice (.int .i64) 1 8] xs) : ACall Try.prog 6 xs Sto.empty fun r _ => r = .bool true := by
  obtain ⟨x, r1, rfl, ⟨ep, rfl, he⟩, y, r2, rfl, hy, rfl⟩ := h
  obtain ⟨ups, rfl, hlen, _⟩ := fits_ints hy
  have he := i64_range he
  refine runs_i _ _ _ _ (.of [awakeE, nextE, partsE] rfl ⟨awake_ok, next_ok, parts_ok, trivial⟩) ?_
  simp only [hold_eq]
  refine brV_by (fun _ => trivial) (fun h => ?_)
  have hsm : ups.length ≤ 100 := by simp at h; omega
  have hE : 0 ≤ Int.tmod (IntKind.wrap IntKind.i64 (Int.tmod ep 1000000 + 1000000)) 1000000 ∧ Int.tmod (IntKind.wrap IntKind.i64 (Int.tmod ep 1000000 + 1000000)) 1000000 < 1000000 := by
    have h1 := Int.tmod_lt_of_pos ep (b := 1000000) (by decide)
    have h2 : -1000000 < Int.tmod ep 1000000 := by
      rcases Int.le_total 0 ep with h | h
      · rw [Int.tmod_eq_emod_of_nonneg h]; omega
      · have := Int.neg_tmod (a := -ep) (b := 1000000)
        rw [Int.neg_neg, Int.tmod_eq_emod_of_nonneg (a := -ep) (by omega)] at this
        omega
    rw [wrap_i64 (by omega) (by omega), Int.tmod_eq_emod_of_nonneg (by omega)]
    omega
  generalize Int.tmod (IntKind.wrap IntKind.i64 (Int.tmod ep 1000000 + 1000000)) 1000000 = E at hE ⊢
  have main : ∀ e0 : Int, 0 ≤ e0 → e0 ≤ 1000000 → vc Try.prog cRuns code_6_1_1_1_1_1 (endK Try.prog Try.f6.results.toList fun r _ => r = .bool true) (runsB_S ups e0 0 0 Sto.empty) := by
    intro e0 hE0 hE1
    refine Eq.mpr (runsB_r ups e0 0 0 Sto.empty _) ?_
    refine loopV_intro (α := Nat × Int × Int × Int) (fun x => runsL_S ups x.2.1 x.2.2.1 x.2.2.2 x.1 Sto.empty)
      (fun x => x.1 ≤ ups.length ∧ 0 ≤ x.2.1 ∧ x.2.1 ≤ 1000000 + x.1 ∧ 0 ≤ x.2.2.2 ∧ x.2.2.2 ≤ x.1 ∧ 0 ≤ x.2.2.1 ∧ max (x.2.1 * 2147483648 + 1) (x.2.2.1 + 1) = x.2.1 * 2147483648 + x.2.2.2 + 1) (fun x => ups.length - x.1) ?_ (0, e0, 0, 0) ⟨Nat.zero_le _, hE0, by simpa using hE1, Int.le_refl _, Int.le_refl _, Int.le_refl _, by simp only []; omega⟩
    rintro ⟨i, e, last, q⟩ ⟨hi, he0, he1, hq0, hq1, hl0, hm⟩ L hL
    simp only [] at hi he0 he1 hq0 hq1 hl0 hm
    refine Eq.mpr (runsL_r ups e last q i Sto.empty L _) ?_
    simp only [hold_eq, List.length_map]
    refine brV_by (fun h => ?_) (fun h => ?_)
    · have hlt : i < ups.length := by simpa using h
      have hel := elemAt_map .i64 ups i hlt
      have e1 : IntKind.i64.wrap ((i : Int) + 1) = ((i + 1 : Nat) : Int) := by rw [wrap_i64 (by omega) (by omega)]; rfl
      have e2 : IntKind.i64.wrap (e + 1) = e + 1 := wrap_i64 (by omega) (by omega)
      have e3 : IntKind.i64.wrap (q + 1) = q + 1 := wrap_i64 (by omega) (by omega)
      have n1 := next_val last (e + 1) 1 hl0 (by omega) (by omega) (by omega) (by decide) (by decide) (by omega)
      have n2 := next_val last e (q + 1) hl0 (by omega) he0 (by omega) (by omega) (by omega) (by omega)
      obtain ⟨v1, v2, v3, v4, v5, _⟩ := parts_val (e + 1) 1 (by omega) (by omega) (by decide) (by decide)
      obtain ⟨w1, w2, w3, w4, w5, _⟩ := parts_val e (q + 1) he0 (by omega) (by omega) (by omega)
      rw [hel, e1, e2, e3, n1, n2]
      simp only [v1, v2, v3, v4, v5, w1, w2, w3, w4, w5]
      refine gb_by (by simp; omega) (gb_by rfl (brV_by (fun _ => ?_) (fun _ => ?_)))
      · simp
        exact hL (i + 1, e + 1, (e + 1) * 2147483648 + 1, 1) ⟨hlt, by simp only []; omega, by simp only []; omega, by simp only []; omega, by simp only []; omega, by simp only []; omega, by simp only []; omega⟩ (by simp; omega)
      · simp
        exact hL (i + 1, e, e * 2147483648 + (q + 1), q + 1) ⟨hlt, by simp only []; omega, by simp only []; omega, by simp only []; omega, by simp only []; omega, by simp only []; omega, by simp only []; omega⟩ (by simp; omega)
    · refine leaveTo (toCut (Eq.mpr (runsF_r Sto.empty _) ?_))
      trivial
  refine brV_by (fun _ => ?_) (fun _ => ?_)
  · exact main 1 (by decide) (by decide)
  · exact main E hE.1 (by omega)
end Go.Proofs.Ytickkgdphdkodaa
