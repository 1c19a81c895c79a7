/-
  Seat 07 (disk): the laws DiskCrash, DiskRooms.
-/
import Derived.Test.YtekcekddahkajaaDc
import Derived.Test.YtekcekddahkajaaDs
namespace Go.Proofs.Ytekcekddahkajaa
open Go.AL
set_option linter.unusedSimpArgs false
set_option linter.unusedVariables false
set_option maxHeartbeats 4000000
set_option maxRecDepth 20000

theorem awake_c : ACall Try.prog 7 [] Sto.empty fun r _ => Wk r (.bool true) := by
  refine awake_i _ (.of [newE, appE, flushE, crashE, bytesE] rfl ⟨new_ok, app_ok, flush_ok, crash_ok, bytes_ok, trivial⟩) ?_
  simp only [hold_eq, brV_ft, brV_tt, gb_t, Bool.and_self, Bool.true_and, Bool.and_true]
  intro y hy
  obtain rfl : y = true := by rw [hy]; simp [fitsB, bytesOfV, AVal.elems]
  intro y1 hy1
  obtain rfl : y1 = [97, 98] := by rw [hy1]; simp [bytesOfV, AVal.elems, byteOf]
  clear hy hy1
  intro y hy
  obtain rfl : y = true := by rw [hy]; simp [fitsB, bytesOfV, AVal.elems]
  intro y2 hy2
  obtain rfl : y2 = [97, 98, 99, 100] := by rw [hy2]; simp [bytesOfV, AVal.elems, byteOf]
  clear hy hy2
  refine gb_by (by simp) ?_
  simp only [cond_true, beq_self_eq_true, brV_tt]
  intro n hn
  obtain rfl : n = 3 := by rw [hn]; rfl
  intro y4 hy4
  obtain rfl : y4 = [97, 98, 99] := by rw [hy4]; simp
  clear hn hy4
  refine gb_by (by simp) ?_
  simp only [beq_self_eq_true, brV_tt]
  intro y5 hy5
  obtain rfl : y5 = [97, 98, 99] := by rw [hy5]; simp
  refine gb_by (by simp) (gb_by (by simp) ?_)
  simp
  exact Wk.refl _

theorem awake_ok : EntOk Try.prog awakeE := by
  intro xs σ; simp only [awakeE]; split
  · intro hc
    exact pcall_of (.refl _) awake_c rfl rfl rfl rfl
  · trivial

theorem crash_law (xs0 : List AVal) (h : FitsL [.slice (.slice (.int .u8) 1 1) 1 24, .slice (.slice (.int .u8) 1 1) 1 24, .int .i64] xs0) : ACall Try.prog 3 xs0 Sto.empty fun r _ => r = .bool true := by
  simp only [FitsL] at h
  obtain ⟨a, r, rfl, h1, a', r', rfl, h2, a'', r'', rfl, h3, rfl⟩ := h
  obtain ⟨ls, rfl, hls, hl⟩ := fits_bws h1
  obtain ⟨ms, rfl, hms, hm⟩ := fits_bws h2
  obtain ⟨k, rfl, hk1, hk2⟩ := h3
  have hk1 : -9223372036854775808 ≤ k := hk1
  have hk2 : k ≤ 9223372036854775807 := hk2
  have ho : OrcOk Try.prog cCr := .of [awakeE, newE, appE, flushE, crashE, bytesE] rfl ⟨awake_ok, new_ok, app_ok, flush_ok, crash_ok, bytes_ok, trivial⟩
  refine cr_i _ _ _ _ ho ?_
  simp only [hold_eq, bws_length, brV_ft, brV_tt, gb_t, Bool.and_self, Bool.true_and, Bool.and_true]
  refine brV_by' (fun h => ?_) (fun h => by simp)
  have hl10 : ls.length ≤ 10 := by simp at h; omega
  refine brV_by (fun _ => by simp) (fun h => ?_)
  have hm10 : ms.length ≤ 10 := by simp at h; omega
  refine loopV_intro (α := Nat × List UInt8) (fun x => crA_S ls ms k x.2 [] x.1) (fun x => x.1 ≤ ls.length ∧ x.2 = (ls.take x.1).flatten ∧ x.2.length ≤ x.1 * 1000) (fun x => ls.length - x.1) ?_ (0, []) ⟨Nat.zero_le _, rfl, Nat.zero_le _⟩
  rintro ⟨i, s⟩ ⟨hi, hs, hlen⟩ L hL
  simp only [] at hi hs hlen
  refine Eq.mpr (crA_r ls ms k s [] i L _) ?_
  simp only [hold_eq, bws_length]
  refine brV_by (fun h => ?_) (fun h => ?_)
  · have hlt : i < ls.length := by simpa using h
    rw [elemAt_bws ls i hlt]
    simp only [List.getD_cons_zero, AVal.elems, bw_length, map_byteOf_bw, bw_isU8, i64_succ hlt (by omega)]
    refine gb_by (dt (by omega)) (gb_by rfl (brV_by (fun _ => rfl) (fun h => ?_)))
    have h1000 : ls[i].length ≤ 1000 := by simp at h; omega
    refine gb_by (dt (by omega)) (gb_by rfl (gb_by rfl (gb_by (dt (by omega)) ?_)))
    exact hL (i + 1, s ++ ls[i]) ⟨hlt, (by simp only []; rw [flatten_take hlt, hs]), (by simp only [List.length_append]; omega)⟩ (by simp only []; omega)
  have hge : ¬ i < ls.length := by simpa using h
  rw [List.take_of_length_le (by omega)] at hs
  refine leaveTo (toCut (Eq.mpr (crM_r ls ms k s [] _) ?_))
  refine loopV_intro (α := Nat × List UInt8) (fun x => crB_S ls ms k s x.2 x.1) (fun x => x.1 ≤ ms.length ∧ x.2 = (ms.take x.1).flatten ∧ x.2.length ≤ x.1 * 1000) (fun x => ms.length - x.1) ?_ (0, []) ⟨Nat.zero_le _, rfl, Nat.zero_le _⟩
  rintro ⟨j, t⟩ ⟨hj, ht, htlen⟩ L' hL'
  simp only [] at hj ht htlen
  refine Eq.mpr (crB_r ls ms k s t j L' _) ?_
  simp only [hold_eq, bws_length]
  refine brV_by (fun h => ?_) (fun h => ?_)
  · have hlt : j < ms.length := by simpa using h
    rw [elemAt_bws ms j hlt]
    simp only [List.getD_cons_zero, AVal.elems, bw_length, map_byteOf_bw, bw_isU8, i64_succ hlt (by omega)]
    refine gb_by (dt (by omega)) (gb_by rfl (brV_by (fun _ => rfl) (fun h => ?_)))
    have h1000 : ms[j].length ≤ 1000 := by simp at h; omega
    refine gb_by (dt (by omega)) (gb_by rfl (gb_by rfl (gb_by (dt (by omega)) ?_)))
    exact hL' (j + 1, t ++ ms[j]) ⟨hlt, (by simp only []; rw [flatten_take hlt, ht]), (by simp only [List.length_append]; omega)⟩ (by simp only []; omega)
  have hge' : ¬ j < ms.length := by simpa using h
  rw [List.take_of_length_le (by omega)] at ht
  refine leaveTo (toCut (Eq.mpr (crF_r ls ms k s t _) ?_))
  have hs1 : s.length ≤ 10000 := by have : i * 1000 ≤ 10 * 1000 := Nat.mul_le_mul_right _ (by omega); omega
  have ht1 : t.length ≤ 10000 := by have : j * 1000 ≤ 10 * 1000 := Nat.mul_le_mul_right _ (by omega); omega
  simp only [hold_eq, bws_length, bws_is, map_bytesOfV, bw_length, map_byteOf_bw, bw_byteIs, bw_isU8, List.nil_append, ← hs, ← ht, Bool.true_and, Bool.and_true, decide_true]
  intro y hy
  obtain rfl : y = true := by rw [hy]; simp only [fitsB, hold_eq, map_bytesOfV, ← hs]; exact dt (by simp; omega)
  intro y1 hy1
  obtain rfl : y1 = s := hy1
  refine gb_by (dt (by omega)) ?_
  simp only [cond_true, bne_self_eq_false, brV_ff]
  intro y hy
  obtain rfl : y = true := by rw [hy]; simp only [fitsB, hold_eq, map_bytesOfV, ← ht, bw_length]; exact dt (by omega)
  intro y2 hy2
  obtain rfl : y2 = y1 ++ t := hy2
  refine gb_by (by simp; omega) ?_
  simp only [cond_true, bne_self_eq_false, brV_ft]
  have hkn : keepN k (y1.length : Int) ((y1 ++ t).length : Int) = (y1.length : Int) + min (max k 0) (t.length : Int) := by
    unfold keepN; simp only [List.length_append]; omega
  have hif : (if (t.length : Int) < if k < 0 then 0 else k then (t.length : Int) else if k < 0 then 0 else k) = min (max k 0) (t.length : Int) := by
    split <;> split <;> omega
  rw [hkn, hif]
  generalize hq : min (max k 0) (t.length : Int) = q
  have hq0 : 0 ≤ q := by omega
  have hq1 : q ≤ t.length := by omega
  intro n hn
  subst hn
  intro y4 hy4
  have h4 : y4 = y1 ++ t.take q.toNat := by
    rw [hy4, show ((y1.length : Int) + q).toNat = y1.length + q.toNat by omega, List.take_length_add_append]
  have hl4 : y4.length = y1.length + q.toNat := by rw [h4, List.length_append, List.length_take]; omega
  refine gb_by (by simp; omega) ?_
  rw [wrap_i64 (n := (y1.length : Int) + q) (by omega) (by omega)]
  simp only [beq_self_eq_true, brV_tt]
  intro y5 hy5
  subst hy5
  have hlt : (t.take q.toNat).length = q.toNat := by rw [List.length_take]; omega
  simp only [Nat.sub_zero, hlt]
  refine gb_by (dt (by omega)) (gb_by rfl (gb_by (dt (by omega)) (gb_by (dt (by omega)) ?_)))
  rw [← h4]
  simp only [beq_self_eq_true, brV_tt]
  have hk0 : keepN 0 ((y1.length : Int) + q) (y5.length : Int) = (y1.length : Int) + q := by
    unfold keepN; rw [hl4]; omega
  rw [hk0]
  intro n hn
  subst hn
  intro y6 hy6
  have h6 : y6 = y5 := by rw [hy6, List.take_of_length_le (by rw [hl4]; omega)]
  subst h6
  refine gb_by (by rw [hl4]; simp; omega) ?_
  simp only [beq_self_eq_true, brV_tt]
  intro y7 hy7
  subst hy7
  refine gb_by (dt (by omega)) (gb_by rfl (gb_by (dt (by omega)) (gb_by (dt (by omega)) ?_)))
  simp
end Go.Proofs.Ytekcekddahkajaa
