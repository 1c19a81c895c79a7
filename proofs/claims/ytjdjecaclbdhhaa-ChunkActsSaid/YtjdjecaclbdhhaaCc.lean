/-
  Seat 10 (chunk): contracts: numbers searched and found; chains.
-/
import Derived.Test.YtjdjecaclbdhhaaCr
import Derived.Test.YtjdjecaclbdhhaaCn
namespace Go.Proofs.Ytjdjecaclbdhhaa
open Go.AL
set_option linter.unusedSimpArgs false
set_option linter.unusedVariables false
set_option maxHeartbeats 4000000
set_option maxRecDepth 20000

theorem wrap_u64 {n : Int} (h0 : 0 ≤ n) (h1 : n ≤ 18446744073709551615) : IntKind.u64.wrap n = n := by
  simp only [IntKind.wrap, IntKind.signed, IntKind.bits]
  simp
  omega
theorem mid_wrap {i j : Nat} (h : i ≤ j) (hj : j ≤ 140737488351232) : IntKind.i64.wrap (Int.fdiv (IntKind.u64.wrap (IntKind.i64.wrap ((i : Int) + (j : Int)))) 2) = (((i + j) / 2 : Nat) : Int) := by
  have e1 : IntKind.i64.wrap ((i : Int) + (j : Int)) = (i : Int) + (j : Int) := wrap_i64 (by omega) (by omega)
  have e2 : IntKind.u64.wrap ((i : Int) + (j : Int)) = (i : Int) + (j : Int) := wrap_u64 (by omega) (by omega)
  have e3 : Int.fdiv ((i : Int) + (j : Int)) 2 = (((i + j) / 2 : Nat) : Int) := by
    rw [Int.fdiv_eq_ediv_of_nonneg _ (by omega)]
    omega
  rw [e1, e2, e3, wrap_i64 (by omega) (by omega)]
theorem pred_wrap {i : Nat} (h : 0 < i) (hi : i ≤ 140737488351232) : IntKind.i64.wrap ((i : Int) - 1) = ((i - 1 : Nat) : Int) := by
  rw [wrap_i64 (by omega) (by omega)]; omega
theorem lenOk_of {n : Nat} (h : lenOk n = true) : n ≤ 140737488351232 := by simpa [lenOk] using h
theorem lenOk_mk {n : Nat} (h : n ≤ 140737488351232) : lenOk n = true := by simpa [lenOk] using h
theorem getD_one (a : AVal) : List.getD [a] 0 AVal.undef = a := rfl

theorem riseI_iff {l : List Int} : riseI l = true ↔ l.Pairwise (· < ·) := by simp [riseI]
theorem posI_le (l : List Int) (s : Int) : posI l s ≤ l.length := List.length_filter_le _ _
theorem posI_lt' : ∀ {l : List Int}, l.Pairwise (· < ·) → ∀ (s : Int) (i : Nat) (hi : i < l.length), l[i] < s ↔ i < posI l s
  | [], _, s, i, hi => by simp at hi
  | x :: l, h, s, i, hi => by
    obtain ⟨h1, h2⟩ := List.pairwise_cons.1 h
    by_cases hx : x < s
    · have e : posI (x :: l) s = posI l s + 1 := by simp [posI, hx]
      rw [e]
      cases i with
      | zero => simp [hx]
      | succ i =>
        have := posI_lt' h2 s i (by simpa using hi)
        simp only [List.getElem_cons_succ]
        rw [this]; omega
    · have e : posI (x :: l) s = 0 := by
        simp only [posI, List.filter_cons, hx, decide_false]
        have : l.filter (fun y => decide (y < s)) = [] := List.filter_eq_nil_iff.2 fun y hy => by have := h1 y hy; simp; omega
        simp [this]
      rw [e]
      cases i with
      | zero => simpa using hx
      | succ i =>
        have := h1 _ (List.getElem_mem (show i < l.length by simpa using hi))
        simp only [List.getElem_cons_succ]
        omega
theorem posI_lt {l : List Int} (h : riseI l = true) (s : Int) (i : Nat) (hi : i < l.length) : l[i] < s ↔ i < posI l s := posI_lt' (riseI_iff.1 h) s i hi
theorem contains_posI {l : List Int} (h : riseI l = true) (s : Int) : l.contains s = (decide (posI l s < l.length) && (l.getD (posI l s) 0 == s)) := by
  rw [Bool.eq_iff_iff]
  simp only [List.contains_iff_mem, Bool.and_eq_true, decide_eq_true_eq, beq_iff_eq]
  constructor
  · intro hs
    obtain ⟨j, hj, e⟩ := List.getElem_of_mem hs
    have h1 : ¬ j < posI l s := fun hh => by have := (posI_lt h s j hj).2 hh; omega
    have h2 : ¬ posI l s < j := fun hh => by
      have hp := List.pairwise_iff_getElem.1 (riseI_iff.1 h) (posI l s) j (by omega) hj hh
      have := (posI_lt h s _ (show posI l s < l.length by omega)).1 (by omega)
      omega
    have e2 : posI l s = j := by omega
    refine ⟨by omega, ?_⟩
    rw [e2, List.getD_eq_getElem?_getD, List.getElem?_eq_getElem hj]
    exact e
  · rintro ⟨h1, h2⟩
    rw [List.getD_eq_getElem?_getD, List.getElem?_eq_getElem h1] at h2
    have h2 : l[posI l s] = s := h2
    rw [← h2]; exact List.getElem_mem h1
theorem nan_ok : EntOk Try.prog nanE := by
  intro xs σ; simp only [nanE]; split
  · rename_i a
    intro _
    refine pcall_of (.refl _) (nan_i a _ (.of_none rfl) ?_) rfl rfl rfl rfl
    simp only [hold_eq, bne_self_eq_false]
    exact Wk.refl _
  · trivial
theorem nan2_ok : EntOk Try.prog nan2E := by
  intro xs σ; simp only [nan2E]; split
  · rename_i a
    intro _
    refine pcall_of (.refl _) (nan2_i a _ (.of_none rfl) ?_) rfl rfl rfl rfl
    simp only [hold_eq, bne_self_eq_false]
    exact Wk.refl _
  · trivial
theorem less_ok : EntOk Try.prog lessE := by
  intro xs σ; simp only [lessE]; split
  · rename_i a b
    intro _
    refine pcall_of (.refl _) (less_i a b _ (.of [nanE] rfl ⟨nan_ok, trivial⟩) ?_) rfl rfl rfl rfl
    simp only [hold_eq]
    exact Wk.refl _
  · trivial

theorem bs_c (l : List Int) (s : Int) (hr : riseI l = true) (hl : l.length ≤ 140737488351232) : ACall Try.prog 30 [.slice (iv l) 1 .ro, .int .i64 s] Sto.empty fun r _ => Wk r (.tuple [.int .i64 (posI l s : Int), .bool (l.contains s)]) := by
  refine bs_i _ _ _ (.of [lessE, nan2E] rfl ⟨less_ok, nan2_ok, trivial⟩) ?_
  have hn : (iv l).length = l.length := iv_length l
  refine loopV_intro (α := Nat × Nat) (fun x => bsL_S l s (iv l).length x.1 x.2) (fun x => x.1 ≤ x.2 ∧ x.2 ≤ l.length ∧ x.1 ≤ posI l s ∧ posI l s ≤ x.2) (fun x => x.2 - x.1) ?_ (0, (iv l).length) ⟨Nat.zero_le _, by simp, Nat.zero_le _, by simp only [hn]; exact posI_le _ _⟩
  rintro ⟨i, j⟩ ⟨hij, hj, h1, h2⟩ L hL
  simp only [] at hij hj h1 h2
  refine Eq.mpr (bsL_r l s _ i j L _) ?_
  simp only [hold_eq]
  rw [mid_wrap hij (by omega)]
  refine brV_by (fun h => ?_) (fun h => ?_)
  · have hlt : i < j := by simpa using h
    have hm : (i + j) / 2 < l.length := by omega
    rw [elemAt_iv l _ hm]
    refine gb_by (dt (by omega)) (gb_by rfl (brV_by (fun h => ?_) (fun h => ?_)))
    · have := (posI_lt hr s _ hm).1 (of_decide_eq_true h)
      rw [i64_succ hm hl]
      exact hL ((i + j) / 2 + 1, j) ⟨by simp only []; omega, hj, by simp only []; omega, h2⟩ (by simp only []; omega)
    · have hnl : ¬ (i + j) / 2 < posI l s := fun h3 => by
        have := (posI_lt hr s _ hm).2 h3
        have h : ¬ l[(i + j) / 2] < s := of_decide_eq_false h
        exact h this
      exact hL (i, (i + j) / 2) ⟨by simp only []; omega, by simp only []; omega, h1, by simp only []; omega⟩ (by simp only []; omega)
  · have hge : i = j := by simp at h; omega
    subst hge
    have hp : posI l s = i := by omega
    refine leaveTo (toCut (Eq.mpr (bsF_r l s _ i _) ?_))
    simp only [hold_eq]
    have hc := contains_posI hr s
    rw [hp] at hc
    rw [hp]
    refine brV_by (fun h => ?_) (fun h => ?_)
    · have hlt : i < l.length := by simpa using h
      rw [elemAt_iv l i hlt]
      have hg : l.getD i 0 = l[i] := by simp [hlt]
      rw [hg] at hc
      refine gb_by (dt (by omega)) (gb_by rfl (brV_by' (fun h => ?_) (fun h => ?_)))
      · have h : (l[i] == s) = false := h
        rw [h] at hc
        rw [hc]
        refine gb_by (dt (by omega)) (gb_by rfl ?_)
        simp
        exact Wk.refl _
      · have h : (l[i] == s) = true := h
        rw [h] at hc
        rw [hc]
        simp [hlt]
        exact Wk.refl _
    · have hge : ¬ i < l.length := by simpa using h
      rw [hc]
      simp [hge]
      exact Wk.refl _

theorem bs_ok : EntOk Try.prog bsE := by
  intro xs σ; simp only [bsE]; split
  · rename_i es s t x
    intro hc
    simp only [Bool.and_eq_true, hold_eq] at hc
    obtain ⟨h1, h2, h3, h4⟩ := hc
    simp only [hold_eq]
    exact pcall_of (.cons (wk_iv t h1 h2) (.refl _)) (bs_c _ x h3 (by simpa using lenOk_of h4)) (by simp only [noOutL, AVal.noOut, iv_noOut, Bool.and_true]) (by simp only [noTokL, AVal.noTok, iv_noTok, Tag.below, Bool.and_true]) rfl rfl
  · trivial

theorem indexI_c (l : List Int) (x : Int) (hl : l.length ≤ 140737488351232) : ACall Try.prog 44 [.slice (iv l) 1 .ro, .int .i64 x] Sto.empty fun r _ => Wk r (.int .i64 (if l.contains x then (l.idxOf x : Int) else -1)) := by
  refine indexI_i _ _ _ (.of_none rfl) ?_
  have hn : (iv l).length = l.length := iv_length l
  refine loopV_intro (α := Nat) (fun i => indexIL_S l x (iv l).length i) (fun i => i ≤ l.length ∧ ∀ y ∈ l.take i, y ≠ x) (fun i => l.length - i) ?_ 0 ⟨Nat.zero_le _, fun x hx => by simp at hx⟩
  rintro i ⟨hi, hpre⟩ L hL
  refine Eq.mpr (indexIL_r l x _ i L _) ?_
  simp only [hold_eq]
  refine brV_by (fun h => ?_) (fun h => ?_)
  · have hlt : i < l.length := by simpa using h
    rw [i64_succ hlt hl, elemAt_iv l i hlt]
    refine gb_by (dt (by omega)) (gb_by rfl (brV_by (fun h => ?_) (fun h => ?_)))
    · have e : x = l[i] := by
        have h : (x == l[i]) = true := h
        simpa using h
      have hc : l.contains x = true := by rw [e]; simp
      have hx : l.idxOf x = i := by
        unfold List.idxOf
        rw [List.findIdx_eq hlt]
        refine ⟨by simp [e], fun j hj => ?_⟩
        have := hpre l[j] (List.mem_take_iff_getElem.2 ⟨j, by omega, rfl⟩)
        simpa using this
      rw [if_pos hc, hx]
      exact Wk.refl _
    · have e : x ≠ l[i] := by
        have h : (x == l[i]) = false := h
        simpa using h
      refine hL (i + 1) ⟨hlt, fun y hy => ?_⟩ (by omega)
      rw [List.take_succ_eq_append_getElem hlt] at hy
      rcases List.mem_append.1 hy with h1 | h1
      · exact hpre y h1
      · simp at h1; subst h1; exact fun e' => e e'.symm
  · have hge : ¬ i < l.length := by simpa using h
    rw [List.take_of_length_le (by omega)] at hpre
    have hc : ¬ l.contains x = true := by
      intro hc
      have : x ∈ l := by simpa using hc
      exact hpre x this rfl
    rw [if_neg hc]
    exact Wk.refl _

theorem indexI_ok : EntOk Try.prog indexIE := by
  intro xs σ; simp only [indexIE]; split
  · rename_i es s t n
    intro hc
    simp only [Bool.and_eq_true, hold_eq] at hc
    obtain ⟨h1, h2, h3⟩ := hc
    exact pcall_of (.cons (wk_iv t h1 h2) (.refl _)) (indexI_c _ n (by simpa using lenOk_of h3)) (by simp only [noOutL, AVal.noOut, iv_noOut, Bool.and_true]) (by simp only [noTokL, AVal.noTok, iv_noTok, Bool.and_true, Tag.below]) rfl rfl
  · trivial

theorem containsI_c (l : List Int) (n : Int) (hl : l.length ≤ 140737488351232) : ACall Try.prog 27 [.slice (iv l) 1 .ro, .int .i64 n] Sto.empty fun r _ => Wk r (.bool (l.contains n)) := by
  refine containsI_i _ _ _ (.of [indexIE] rfl ⟨indexI_ok, trivial⟩) ?_
  simp only [hold_eq, iv_length, iv_isI64, okW_same, map_intOf_iv]
  intro y hy i hi
  have hy : y = l.contains n := hy
  subst hy
  refine gb_by (by simp [lenOk_mk hl]) ?_
  have : decide (0 ≤ i) = l.contains n := by
    have hn : i = if l.contains n = true then (l.idxOf n : Int) else -1 := hi
    rw [hn]
    cases h : l.contains n with
    | true => simp
    | false => simp
  rw [this]
  exact Wk.refl _

theorem containsI_ok : EntOk Try.prog containsIE := by
  intro xs σ; simp only [containsIE]; split
  · rename_i es s t n
    intro hc
    simp only [Bool.and_eq_true, hold_eq] at hc
    obtain ⟨h1, h2, h3⟩ := hc
    simp only [hold_eq]
    exact pcall_of (.cons (wk_iv t h1 h2) (.refl _)) (containsI_c _ n (by simpa using lenOk_of h3)) (by simp only [noOutL, AVal.noOut, iv_noOut, Bool.and_true]) (by simp only [noTokL, AVal.noTok, iv_noTok, Bool.and_true, Tag.below]) rfl rfl
  · trivial
end Go.Proofs.Ytjdjecaclbdhhaa
