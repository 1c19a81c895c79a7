/-
  Seat 08 (block): contracts: sizes, comparisons, takes, scans.
-/
import Derived.Test.YtajnhcncggbanaaKg
namespace Go.Proofs.Ytajnhcncggbanaa
open Go.AL
set_option linter.unusedSimpArgs false
set_option linter.unusedVariables false
set_option maxHeartbeats 4000000
set_option maxRecDepth 20000

theorem sizeN_append (a b : List Blk) : sizeN (a ++ b) = sizeN a + sizeN b := by simp [sizeN]

theorem size_c (xs : List Blk) (hx : ∀ x ∈ xs, BlkOk x) (hl : xs.length ≤ 1000) : ACall Try.prog 14 [.slice (xs.map blkV) 2 .ro] Sto.empty fun r _ => Wk r (.int .i64 ((sizeN xs : Nat) : Int)) := by
  refine size_i _ _ (.of_none rfl) ?_
  have hb : ∀ i, sizeN (xs.take i) ≤ i * 1048586 := fun i => by rw [← allN_length]; exact allN_len hx i
  refine loopV_intro (α := Nat) (fun i => sizeL_S xs (sizeN (xs.take i)) i) (fun i => i ≤ xs.length) (fun i => xs.length - i) ?_ 0 (Nat.zero_le _)
  intro i hi L hL
  refine Eq.mpr (sizeL_r xs _ i L _) ?_
  simp only [hold_eq, List.length_map]
  refine brV_by (fun h => ?_) (fun h => ?_)
  · have hlt : i < xs.length := by simpa using h
    rw [elemAt_blk xs i hlt]
    have hbi := hb i
    have hxi := (hx xs[i] (List.getElem_mem hlt)).2.2
    have hs : sizeN (xs.take (i + 1)) = sizeN (xs.take i) + (10 + xs[i].2.length) := by
      rw [List.take_succ_eq_append_getElem hlt, sizeN_append]; simp [sizeN]
    have h3 : i * 1048586 ≤ 1000 * 1048586 := Nat.mul_le_mul_right _ (by omega)
    simp only [List.getD_cons_zero, List.getD_cons_succ, AVal.elems, bv_length, i64_succ hlt (by omega)]
    rw [wrap_i64 (n := 10 + _) (by omega) (by omega), wrap_i64 (by omega) (by omega)]
    refine gb_by (by simp; omega) (gb_by rfl ?_)
    have := hL (i + 1) hlt (by omega)
    rw [hs] at this
    simp only [sizeL_S, List.length_map] at this
    have e : ((sizeN (xs.take i) + (10 + xs[i].2.length) : Nat) : Int) = (sizeN (xs.take i) : Int) + (10 + (xs[i].2.length : Int)) := by omega
    rw [e] at this
    exact this
  · have hge : ¬ i < xs.length := by simpa using h
    refine leaveTo (toCut (Eq.mpr (sizeF_r _ _) ?_))
    rw [List.take_of_length_le (by omega)]
    exact Wk.refl _

theorem size_ok : EntOk Try.prog sizeE := by
  intro xs σ; simp only [sizeE]; split
  · rename_i es s t
    intro hc
    simp only [Bool.and_eq_true, decide_eq_true_eq] at hc
    obtain ⟨hw, hall, hlen⟩ := hc
    simp only [holdA_eq]
    exact pcall_of (.cons (wk_blks t hw hall) (.refl _)) (size_c _ (blks_ok hall) (by simpa using hlen)) (by simp only [noOutL, AVal.noOut, noOut_blks, Bool.and_true]) (by simp only [noTokL, AVal.noTok, noTok_blks, Tag.below, Bool.and_true]) rfl rfl
  · trivial

theorem same_c (xs ys : List Blk) (hx : ∀ x ∈ xs, BlkOk x) (hy : ∀ x ∈ ys, BlkOk x) (hl : xs.length ≤ 100000000) : ACall Try.prog 13 [.slice (xs.map blkV) 2 .ro, .slice (ys.map blkV) 2 .ro] Sto.empty fun r _ => Wk r (.bool (xs == ys)) := by
  refine same_i _ _ _ (.of_none rfl) ?_
  simp only [hold_eq, List.length_map]
  refine brV_by (fun h => ?_) (fun h => ?_)
  · have hne : xs.length ≠ ys.length := by simp at h; omega
    have : (xs == ys) = false := by simp only [beq_eq_false_iff_ne]; rintro rfl; exact hne rfl
    rw [this]; exact Wk.refl _
  have hle : xs.length = ys.length := by simp at h; omega
  refine loopV_intro (α := Nat) (fun i => sameL_S xs ys i) (fun i => i ≤ xs.length ∧ ∀ j, j < i → xs[j]? = ys[j]?) (fun i => xs.length - i) ?_ 0 ⟨Nat.zero_le _, fun j h => by omega⟩
  rintro i ⟨hi, hpre⟩ L hL
  refine Eq.mpr (sameL_r xs ys i L _) ?_
  simp only [hold_eq, List.length_map]
  refine brV_by (fun h => ?_) (fun h => ?_)
  · have hlt : i < xs.length := by simpa using h
    have hlt' : i < ys.length := by omega
    rw [elemAt_blk xs i hlt, elemAt_blk ys i hlt']
    simp only [List.drop_zero, List.drop_succ_cons, List.getD_cons_zero, List.getD_cons_succ, AVal.elems, AVal.intOf, i64_succ hlt (by omega)]
    have hbx := hx xs[i] (List.getElem_mem hlt)
    have hby := hy ys[i] (List.getElem_mem hlt')
    rw [bv_inj hbx.2.1 hby.2.1]
    have fin : xs[i] ≠ ys[i] → (xs == ys) = false := fun hne => by
      simp only [beq_eq_false_iff_ne]; rintro rfl; exact hne rfl
    refine gb_by (by simp; omega) (gb_by rfl (gb_by (by simp; omega) (gb_by rfl (brV_by' (fun hk => ?_) (fun hk => ?_)))))
    · refine gb_by (by simp; omega) (gb_by rfl (gb_by (by simp [bv_isU8]) (gb_by (by simp; omega) (gb_by rfl (gb_by (by simp [bv_isU8]) (brV_by (fun hb => ?_) (fun hb => ?_)))))))
      · rw [fin (fun e => by simp [e] at hb)]; exact Wk.refl _
      · refine hL (i + 1) ⟨hlt, fun j hj => ?_⟩ (by omega)
        rcases Nat.lt_or_ge j i with h1 | h1
        · exact hpre j h1
        · obtain rfl : j = i := by omega
          rw [List.getElem?_eq_getElem hlt, List.getElem?_eq_getElem hlt']
          congr 1
          refine Prod.ext (by simp at hk; omega) (by simpa using hb)
    · rw [fin (fun e => by simp [e] at hk)]; exact Wk.refl _
  · have hge : ¬ i < xs.length := by simpa using h
    refine leaveTo (toCut (Eq.mpr (sameF_r _) ?_))
    have : xs = ys := List.ext_getElem? fun j => by
      rcases Nat.lt_or_ge j i with h1 | h1
      · exact hpre j h1
      · rw [List.getElem?_eq_none (by omega), List.getElem?_eq_none (by omega)]
    rw [this]; simp; exact Wk.refl _

theorem same_ok : EntOk Try.prog sameE := by
  intro xs σ; simp only [sameE]; split
  · rename_i es s t fs s' t'
    intro hc
    simp only [Bool.and_eq_true, decide_eq_true_eq] at hc
    obtain ⟨⟨⟨hw, hw'⟩, hall, hall'⟩, hlen⟩ := hc
    simp only [hold_eq]
    exact pcall_of (.cons (wk_blks t hw hall) (.cons (wk_blks t' hw' hall') (.refl _))) (same_c _ _ (blks_ok hall) (blks_ok hall') (by simpa using hlen)) (by simp only [noOutL, AVal.noOut, noOut_blks, Bool.and_true]) (by simp only [noTokL, AVal.noTok, noTok_blks, Tag.below, Bool.and_true]) rfl rfl
  · trivial

theorem small_c (xs : List Blk) (hl : xs.length ≤ 140737488351232) : ACall Try.prog 11 [.slice (xs.map blkV) 2 .ro] Sto.empty fun r _ => Wk r (.bool (smallN xs)) := by
  unfold smallN
  refine small_i _ _ (.of_none rfl) ?_
  simp only [hold_eq, List.length_map]
  refine brV_by (fun h => ?_) (fun h => ?_)
  · have : ¬ xs.length ≤ 20 := by simp at h; omega
    simp [this]; exact Wk.refl _
  have hle : xs.length ≤ 20 := by simp at h; omega
  refine loopV_intro (α := Nat) (fun i => smallL_S xs i) (fun i => i ≤ xs.length ∧ ∀ x ∈ xs.take i, x.2.length ≤ 500) (fun i => xs.length - i) ?_ 0 ⟨Nat.zero_le _, fun x hx => by simp at hx⟩
  rintro i ⟨hi, hpre⟩ L hL
  refine Eq.mpr (smallL_r xs i L _) ?_
  simp only [hold_eq, List.length_map]
  refine brV_by (fun h => ?_) (fun h => ?_)
  · have hlt : i < xs.length := by simpa using h
    rw [elemAt_blk xs i hlt]
    simp only [List.drop_zero, List.drop_succ_cons, List.getD_cons_zero, List.getD_cons_succ, AVal.elems, AVal.intOf, i64_succ hlt (by omega), bv_length]
    refine gb_by (by simp; omega) (gb_by rfl (brV_by (fun hb => ?_) (fun hb => ?_)))
    · have : (xs.all fun x => decide (x.2.length ≤ 500)) = false := by
        rw [List.all_eq_false]
        exact ⟨xs[i], List.getElem_mem hlt, by simp at hb ⊢; omega⟩
      rw [this, Bool.and_false]; exact Wk.refl _
    · refine hL (i + 1) ⟨hlt, fun x hx => ?_⟩ (by omega)
      rw [List.take_succ_eq_append_getElem hlt] at hx
      rcases List.mem_append.1 hx with h1 | h1
      · exact hpre x h1
      · simp at h1; subst h1; simp at hb; omega
  · have hge : ¬ i < xs.length := by simpa using h
    refine leaveTo (toCut (Eq.mpr (smallF_r _) ?_))
    rw [List.take_of_length_le (by omega)] at hpre
    have : (xs.all fun x => decide (x.2.length ≤ 500)) = true := by
      rw [List.all_eq_true]; intro x hx; simpa using hpre x hx
    simp [this, hle]; exact Wk.refl _
theorem small_ok : EntOk Try.prog smallE := by
  intro xs σ; simp only [smallE]; split
  · rename_i es s t
    intro hc
    simp only [Bool.and_eq_true, decide_eq_true_eq] at hc
    obtain ⟨hw, hall, hlen⟩ := hc
    simp only [hold_eq]
    exact pcall_of (.cons (wk_blks0 t hw hall) (.refl _)) (small_c _ (by simpa using hlen)) (by simp only [noOutL, AVal.noOut, noOut_blks, Bool.and_true]) (by simp only [noTokL, AVal.noTok, noTok_blks, Tag.below, Bool.and_true]) rfl rfl
  · trivial
end Go.Proofs.Ytajnhcncggbanaa
