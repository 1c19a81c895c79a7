/-
  Seat 12 (limbo): contracts: keys, closures, what a limbo tells.
-/
import Derived.Test.YtakidnohmfebmaaLr
namespace Go.Proofs.Ytakidnohmfebmaa
open Go.AL
set_option linter.unusedSimpArgs false
set_option linter.unusedVariables false
set_option maxHeartbeats 4000000
set_option maxRecDepth 20000

theorem fold_key (k : Key) : AVal.agg [AVal.int .i64 (Prod.fst k), AVal.int .i64 (Prod.fst (Prod.snd k)), AVal.int .i64 (Prod.fst (Prod.snd (Prod.snd k))), AVal.str (Prod.snd (Prod.snd (Prod.snd k)))] = keyV k := rfl
theorem key_beq (k x : Key) : (k.1 == x.1 && (k.2.1 == x.2.1 && (k.2.2.1 == x.2.2.1 && (k.2.2.2 == x.2.2.2 && true)))) = (k == x) := by
  obtain ⟨a1, a2, a3, a4⟩ := k
  obtain ⟨b1, b2, b3, b4⟩ := x
  rw [Bool.eq_iff_iff]
  simp
theorem keysOk_mv (m : List (Key × Int)) : keysOk Try.prog 30 (mv m) = true := by
  simp only [keysOk, mv, List.all_map, List.all_eq_true]
  intro x _
  have h1 : leafOf Try.prog 30 = none := by kernel_rfl
  have h2 : tPlain Try.prog 30 = some [.int .i64, .int .i64, .int .i64, .str] := by kernel_rfl
  simp only [Function.comp, kOk, h1, h2, keyV]
  rfl
theorem epochVal (m : List (Key × Int)) (k : Key) : mapVal (keyV k) (.int .i64 0) (mv m) = .int .i64 ((epochOf m k).getD 0) := by
  rw [mapVal_mv]
  cases epochOf m k <;> rfl

theorem key_ok : EntOk Try.prog keyE := by
  intro xs σ; simp only [keyE]; split
  · intro hc
    refine pcall_of (.refl _) (key_i _ _ (.of_none rfl) (Wk.refl _)) rfl rfl rfl rfl
  · trivial

theorem index_c (ks : List Key) (k : Key) (hl : ks.length ≤ 140737488351232) : ACall Try.prog 30 [.slice (kv ks) 4 .ro, keyV k] Sto.empty fun r _ => Wk r (.int .i64 (if ks.contains k then (ks.idxOf k : Int) else -1)) := by
  refine index_i _ _ _ (.of_none rfl) ?_
  refine loopV_intro (α := Nat) (fun i => indexL_S ks k i) (fun i => i ≤ ks.length ∧ ∀ x ∈ ks.take i, x ≠ k) (fun i => ks.length - i) ?_ 0 ⟨Nat.zero_le _, fun x hx => by simp at hx⟩
  rintro i ⟨hi, hpre⟩ L hL
  refine Eq.mpr (indexL_r ks k i L _) ?_
  simp only [hold_eq, kv_length]
  refine brV_by (fun h => ?_) (fun h => ?_)
  · have hlt : i < ks.length := by simpa using h
    rw [elemAt_kv ks i hlt]
    simp only [keyC, List.getD_cons_zero, List.getD_cons_succ, AVal.intOf, AVal.strOf, i64_succ hlt hl, kv_length, key_beq]
    refine gb_by (dt (by omega)) (gb_by rfl (brV_by (fun h => ?_) (fun h => ?_)))
    · have e : k = ks[i] := by simpa using h
      have hc : ks.contains k = true := by rw [e]; simp
      have hx : ks.idxOf k = i := by
        unfold List.idxOf
        rw [List.findIdx_eq hlt]
        refine ⟨by simp [e], fun j hj => ?_⟩
        have := hpre ks[j] (List.mem_take_iff_getElem.2 ⟨j, by omega, rfl⟩)
        simpa using this
      rw [if_pos hc, hx]
      exact Wk.refl _
    · have e : k ≠ ks[i] := by simpa using h
      have := hL (i + 1) ⟨hlt, fun x hx => ?_⟩ (by omega)
      · simpa only [indexL_S, keyC, kv_length] using this
      · rw [List.take_succ_eq_append_getElem hlt] at hx
        rcases List.mem_append.1 hx with h1 | h1
        · exact hpre x h1
        · simp at h1; subst h1; exact fun e' => e e'.symm
  · have hge : ¬ i < ks.length := by simpa using h
    rw [List.take_of_length_le (by omega)] at hpre
    have hc : ¬ ks.contains k = true := by
      intro hc
      have : k ∈ ks := by simpa using hc
      exact hpre k this rfl
    rw [if_neg hc]
    exact Wk.refl _

theorem index_ok : EntOk Try.prog indexE := by
  intro xs σ; simp only [indexE]; split
  · rename_i es s t a b c d
    intro hc
    simp only [Bool.and_eq_true, hold_eq, decide_eq_true_eq] at hc
    obtain ⟨h1, h2, h3⟩ := hc
    exact pcall_of (.cons (wk_kv t h1 h2) (.refl _)) (index_c _ (a, b, c, d) (by simpa using h3)) (by simp only [noOutL, AVal.noOut, kv_noOut, keyV, Bool.and_true]) (by simp only [noTokL, AVal.noTok, kv_noTok, keyV, Bool.and_true, Tag.below]) rfl rfl
  · trivial

theorem contains_c (ks : List Key) (k : Key) (hl : ks.length ≤ 140737488351232) : ACall Try.prog 25 [.slice (kv ks) 4 .ro, keyV k] Sto.empty fun r _ => Wk r (.bool (ks.contains k)) := by
  refine contains_i _ _ _ (.of [indexE] rfl ⟨index_ok, trivial⟩) ?_
  simp only [hold_eq, kv_length, kv_is, okW_same, map_keyOf]
  intro y hy n hn
  have hy : y = ks.contains k := hy
  subst hy
  refine gb_by (by simp; omega) ?_
  have : decide (0 ≤ n) = ks.contains k := by
    have hn : n = if ks.contains k = true then (ks.idxOf k : Int) else -1 := hn
    rw [hn]
    cases h : ks.contains k with
    | true => simp
    | false => simp
  rw [this]
  exact Wk.refl _

theorem contains_ok : EntOk Try.prog containsE := by
  intro xs σ; simp only [containsE]; split
  · rename_i es s t a b c d
    intro hc
    simp only [Bool.and_eq_true, hold_eq, decide_eq_true_eq] at hc
    obtain ⟨h1, h2, h3⟩ := hc
    simp only [hold_eq]
    exact pcall_of (.cons (wk_kv t h1 h2) (.refl _)) (contains_c _ (a, b, c, d) (by simpa using h3)) (by simp only [noOutL, AVal.noOut, kv_noOut, keyV, Bool.and_true]) (by simp only [noTokL, AVal.noTok, kv_noTok, keyV, Bool.and_true, Tag.below]) rfl rfl
  · trivial

theorem ret1_ok : EntOk Try.prog ret1E := by
  intro xs σ; simp only [ret1E]; split
  · rename_i a b c d a' b' c' d'
    intro hc
    simp only [hold_eq]
    refine pcall_of (.refl _) (ret1_i (a, b, c, d) (a', b', c', d') _ (.of_none rfl) ?_) rfl rfl rfl rfl
    simp only [hold_eq]
    have := key_beq (a, b, c, d) (a', b', c', d')
    simp only [] at this
    rw [this]
    exact Wk.refl _
  · trivial

theorem back1_c (k : Key) (ks : List Key) (hl : ks.length ≤ 140737488351232) : ACall Try.prog 24 [keyV k, .iptr [.slice (kv ks) 4 .ro]] Sto.empty fun r _ => Wk r (.bool (ks.contains k)) := by
  refine back1_i _ _ _ (.of [containsE] rfl ⟨contains_ok, trivial⟩) ?_
  simp only [hold_eq, kv_length, kv_is, okW_same, map_keyOf]
  refine gb_by (by simp; omega) ?_
  exact Wk.refl _

theorem wk_iptr {xs ys : List AVal} (h : WkL xs ys) (hl : xs.length = ys.length) : Wk (.iptr xs) (.iptr ys) := fun γ w l v hr => by
  cases hr with
  | iptr h1 h2 h3 => exact .iptr (h _ _ _ _ h1) h2 h3

theorem back1_ok : EntOk Try.prog back1E := by
  intro xs σ; simp only [back1E]; split
  · rename_i a b c d es s t
    intro hc
    simp only [Bool.and_eq_true, hold_eq, decide_eq_true_eq] at hc
    obtain ⟨h1, h2, h3⟩ := hc
    simp only [hold_eq]
    exact pcall_of (.cons (.refl _) (.cons (wk_iptr (.cons (wk_kv t h1 h2) (.refl _)) rfl) (.refl _))) (back1_c (a, b, c, d) _ (by simpa using h3)) (by simp only [noOutL, AVal.noOut, kv_noOut, keyV, Bool.and_true]) (by simp only [noTokL, AVal.noTok, kv_noTok, keyV, Bool.and_true, Tag.below]) rfl rfl
  · trivial

theorem take1_ok : EntOk Try.prog take1E := by
  intro xs σ; simp only [take1E]; split
  · rename_i a b c d least r es h1 h0
    intro hc
    simp only [isMv, isNew, hold_eq, decide_eq_true_eq] at hc
    unfold FCall
    have e : (σ.set 0 (.map (mv (valOf es)))).set 1 (.cells [r, .map (.out 0)]) = σ := by
      rw [← hc, set_same h0, set_same h1]
    rw [← e]
    refine take1_i σ r (valOf es) (a, b, c, d) least _ (.of_none rfl) ?_
    have hk := epochVal (valOf es) (a, b, c, d)
    simp only [keyV] at hk
    simp only [hold_eq]
    rw [hk]
    refine gb_by (by rw [keysOk_mv]; rfl) ⟨?_, trivial⟩
    simp only [below, AVal.intOf]
    rfl
  · trivial

theorem epoch_ok : EntOk Try.prog epochE := by
  intro xs σ; simp only [epochE]; split
  · rename_i a b c d N row es heq
    intro hc
    simp only [isMv, isNew, hold_eq, decide_eq_true_eq] at hc
    unfold limAt at heq
    split at heq
    · rename_i row' w' N' es' h1 h0
      cases heq
      unfold FCall
      have e : (σ.set 0 (.map (mv (valOf es)))).set 1 (.cells [.slice row w' (.own N), .map (.out 0)]) = σ := by
        rw [← hc, set_same h0, set_same h1]
      rw [← e]
      refine epoch_i σ _ (valOf es) (a, b, c, d) _ (.of_none rfl) ?_
      have hk := epochVal (valOf es) (a, b, c, d)
      have hs := mapFind_isSome (a, b, c, d) (valOf es)
      simp only [keyV] at hk hs
      simp only [hold_eq]
      rw [hk, hs]
      refine gb_by (by rw [keysOk_mv]; rfl) ⟨?_, trivial⟩
      simp only [AVal.intOf]
    · cases heq
  · trivial

theorem len_ok : EntOk Try.prog lenE := by
  intro xs σ; simp only [lenE]; split
  · rename_i N row es heq
    intro hc
    unfold limAt at heq
    split at heq
    · rename_i row' w' N' es' h1 h0
      cases heq
      unfold FCall
      rw [← set_same h1]
      exact len_i _ _ _ _ _ (.of_none rfl) ⟨rfl, rfl⟩
    · cases heq
  · trivial

theorem new_ok : EntOk Try.prog newE := by
  intro xs σ; simp only [newE]; split
  · intro hc
    simp only [isMv, isNew, hold_eq, decide_eq_true_eq] at hc
    subst hc
    refine ACall.growCell (o := 1) (j := 0) (s := 0) (w := 4) ?_
    refine new_i _ (.of_none rfl) ⟨_, rfl, rfl, rfl, ?_⟩
    simp only [limS, Sto.push, Sto.set, Sto.pushOwn, Sto.empty, Sto.mk.injEq, true_and]
    refine ⟨?_, ?_⟩
    · funext n
      by_cases h1 : n = 1
      · subst h1; rfl
      · by_cases h0 : n = 0
        · subst h0; rfl
        · simp [h1, h0]
    · funext q; by_cases h : q = 0 <;> simp [h]
  · trivial

theorem same_c (xs ys : List Key) (hl : xs.length ≤ 140737488351232) : ACall Try.prog 14 [.slice (kv xs) 4 .ro, .slice (kv ys) 4 .ro] Sto.empty fun r _ => Wk r (.bool (xs == ys)) := by
  refine same_i _ _ _ (.of_none rfl) ?_
  simp only [hold_eq, kv_length]
  refine brV_by (fun h => ?_) (fun h => ?_)
  · have hne : xs.length ≠ ys.length := by simp at h; omega
    have : (xs == ys) = false := by simp only [beq_eq_false_iff_ne]; rintro rfl; exact hne rfl
    rw [this]; exact Wk.refl _
  have hle : xs.length = ys.length := by simp at h; omega
  refine loopV_intro (α := Nat) (fun i => sameL_S xs ys i) (fun i => i ≤ xs.length ∧ ∀ j, j < i → xs[j]? = ys[j]?) (fun i => xs.length - i) ?_ 0 ⟨Nat.zero_le _, fun j h => by omega⟩
  rintro i ⟨hi, hpre⟩ L hL
  refine Eq.mpr (sameL_r xs ys i L _) ?_
  simp only [hold_eq, kv_length]
  refine brV_by (fun h => ?_) (fun h => ?_)
  · have hlt : i < xs.length := by simpa using h
    have hlt' : i < ys.length := by omega
    rw [elemAt_kv xs i hlt, elemAt_kv ys i hlt']
    simp only [keyC, List.getD_cons_zero, List.getD_cons_succ, AVal.intOf, AVal.strOf, i64_succ hlt hl, key_beq]
    refine gb_by (dt (by omega)) (gb_by rfl (gb_by (dt (by omega)) (gb_by rfl (brV_by (fun hk => ?_) (fun hk => ?_)))))
    · have : (xs == ys) = false := by
        simp only [beq_eq_false_iff_ne]
        rintro rfl
        simp at hk
      rw [this]; exact Wk.refl _
    · refine hL (i + 1) ⟨hlt, fun j hj => ?_⟩ (by omega)
      rcases Nat.lt_or_ge j i with h1 | h1
      · exact hpre j h1
      · obtain rfl : j = i := by omega
        rw [List.getElem?_eq_getElem hlt, List.getElem?_eq_getElem hlt']
        congr 1
        simpa using hk
  · have hge : ¬ i < xs.length := by simpa using h
    refine leaveTo (toCut (Eq.mpr (sameF_r _) ?_))
    have : xs = ys := List.ext_getElem? fun j => by
      rcases Nat.lt_or_ge j i with h1 | h1
      · exact hpre j h1
      · rw [List.getElem?_eq_none (by omega), List.getElem?_eq_none (by omega)]
    rw [this]; simp; exact Wk.refl _

theorem same_ok : EntOk Try.prog sameE := by
  intro xs σ; simp only [sameE]; split
  · rename_i es s t fs s' t'
    intro hc
    simp only [Bool.and_eq_true, hold_eq, decide_eq_true_eq] at hc
    obtain ⟨h1, h2, h3, h4, h5⟩ := hc
    simp only [hold_eq]
    exact pcall_of (.cons (wk_kv t h1 h3) (.cons (wk_kv t' h2 h4) (.refl _))) (same_c _ _ (by simpa using h5)) (by simp only [noOutL, AVal.noOut, kv_noOut, Bool.and_true]) (by simp only [noTokL, AVal.noTok, kv_noTok, Tag.below, Bool.and_true]) rfl rfl
  · trivial
end Go.Proofs.Ytakidnohmfebmaa
