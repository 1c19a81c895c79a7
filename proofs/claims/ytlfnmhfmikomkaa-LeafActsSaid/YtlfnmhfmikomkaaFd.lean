/-
  Seat 11 (leaf): contracts: roots, leaves, places.
-/
import Derived.Test.YtlfnmhfmikomkaaFc
import Derived.Test.YtlfnmhfmikomkaaFs
namespace Go.Proofs.Ytlfnmhfmikomkaa
open Go.AL
set_option linter.unusedSimpArgs false
set_option linter.unusedVariables false
set_option maxHeartbeats 4000000
set_option maxRecDepth 20000

theorem rootG_spec {v : AVal} (h : rootG v = true) : rootIs v = true ∧ (rootOf v).1.length ≤ 140737488351232 ∧ (rootOf v).2.length ≤ 140737488351232 := by
  simp only [rootG, Bool.and_eq_true] at h
  exact ⟨h.1, lenOk_of h.2.1, lenOk_of h.2.2⟩
theorem rootH_spec {v : AVal} (h : rootH v = true) : (rootIs v = true ∧ (rootOf v).1.length ≤ 140737488351232 ∧ (rootOf v).2.length ≤ 140737488351232) ∧ shortL (rootOf v).1 = true := by
  simp only [rootH, Bool.and_eq_true, hold_eq] at h
  exact ⟨rootG_spec h.1, h.2⟩
theorem rootG_mk {r : Root} (h1 : r.1.length ≤ 140737488351232) (h2 : r.2.length ≤ 140737488351232) : rootG (rootV r) = true := by
  simp [rootG, lenOk_mk h1, lenOk_mk h2]
theorem rootH_mk {r : Root} (h1 : r.1.length ≤ 140737488351232) (h2 : r.2.length ≤ 140737488351232) (h3 : shortL r.1 = true) : rootH (rootV r) = true := by
  simp [rootH, rootG_mk h1 h2, h3]
theorem lfG_spec {v : AVal} (h : lfG v = true) : lfIs v = true ∧ (lfOf v).2.1.length ≤ 140737488351232 := by
  simp only [lfG, Bool.and_eq_true] at h
  exact ⟨h.1, lenOk_of h.2⟩
theorem lfH_spec {v : AVal} (h : lfH v = true) : (lfIs v = true ∧ (lfOf v).2.1.length ≤ 140737488351232) ∧ shortL (lfOf v).2.1 = true := by
  simp only [lfH, Bool.and_eq_true, hold_eq] at h
  exact ⟨lfG_spec h.1, h.2⟩
theorem lfG_mk {l : Lf} (h1 : l.2.1.length ≤ 140737488351232) : lfG (lfV l) = true := by simp [lfG, lenOk_mk h1]
theorem lfH_mk {l : Lf} (h1 : l.2.1.length ≤ 140737488351232) (h3 : shortL l.2.1 = true) : lfH (lfV l) = true := by simp [lfH, lfG_mk h1, h3]
theorem fold_root (r : Root) : AVal.agg [AVal.slice (strv (Prod.fst r)) 1 Tag.ro, AVal.slice (iv (Prod.snd r)) 1 Tag.ro] = rootV r := rfl
theorem fold_lf (l : Lf) : AVal.agg [AVal.int .i64 (Prod.fst l), AVal.slice (strv (Prod.fst (Prod.snd l))) 1 Tag.ro, AVal.bool (Prod.snd (Prod.snd l))] = lfV l := rfl

theorem mem_take_succ {α : Type} {l : List α} {i : Nat} (h : i < l.length) {x : α} : x ∈ l.take (i + 1) ↔ x ∈ l.take i ∨ x = l[i] := by
  rw [List.take_succ_eq_append_getElem h, List.mem_append, List.mem_singleton]

theorem nodup_iff_lt {l : List Int} : l.Nodup ↔ ∀ i (hi : i < l.length) k (hk : k < i), l[k] ≠ l[i] := by
  rw [List.nodup_iff_pairwise_ne, List.pairwise_iff_getElem]
  exact ⟨fun h i hi k hk => h k i (by omega) hi hk, fun h i j hi hj hij => h j hj i hij⟩

theorem int_leaf : leafOf Try.prog 3 = some (.int .i64) := by kernel_rfl

theorem root_c (r : Root) (h1 : r.1.length ≤ 140737488351232) (h2 : r.2.length ≤ 140737488351232) : ACall Try.prog 41 [rootV r] Sto.empty fun v _ => Wk v (.bool (rootB r)) := by
  refine root_i _ _ (.of [riseE] rfl ⟨rise_ok, trivial⟩) ?_
  have hn : (iv r.2).length = r.2.length := iv_length r.2
  have hn1 : (strv r.1).length = r.1.length := strv_length r.1
  refine loopV_intro (α := List (Int × Bool) × Nat) (fun x => rootL_S r x.1 (iv r.2).length x.2) (fun x => x.2 ≤ r.2.length ∧ (∀ k, getI x.1 k = if k ∈ r.2.take x.2 then some true else none) ∧ (∀ n ∈ r.2.take x.2, 1 ≤ n) ∧ (r.2.take x.2).Nodup) (fun x => r.2.length - x.2) ?_ ([], 0) ⟨Nat.zero_le _, fun k => by simp [getI_nil], by simp, by simp⟩
  rintro ⟨m, i⟩ ⟨hi, hm, hp, hd⟩ L hL
  simp only [] at hi hm hp hd
  refine Eq.mpr (rootL_r r m _ i L _) ?_
  simp only [hold_eq]
  refine brV_by (fun h => ?_) (fun h => ?_)
  · have hlt : i < r.2.length := by simpa using h
    rw [i64_succ hlt h2, elemAt_iv r.2 i hlt]
    have hg : AVal.intOf (List.getD [AVal.int .i64 r.2[i]] 0 AVal.undef) = r.2[i] := rfl
    rw [hg]
    have hv : mapVal (AVal.int IntKind.i64 r.2[i]) (AVal.bool false) (mb m) = .bool (decide (r.2[i] ∈ r.2.take i)) := by
      rw [mb, mapVal_mi, hm]
      by_cases hmem : r.2[i] ∈ r.2.take i
      · rw [if_pos hmem]; simp [hmem]
      · rw [if_neg hmem]; simp [hmem]
    rw [hv]
    have bad : (1 ≤ r.2[i] → r.2[i] ∈ r.2.take i) → rootB r = false := by
      intro hb
      cases hr : rootB r with
      | false => rfl
      | true =>
        obtain ⟨_, _, g3, g4⟩ := rootB_iff.1 hr
        have := hb (g3 _ (List.getElem_mem hlt))
        obtain ⟨j, hj, e⟩ := List.mem_take_iff_getElem.1 this
        exact (nodup_iff_lt.1 g4 i hlt j (by omega) e).elim
    refine gb_by (dt (by omega)) (gb_by rfl (brV_by' (fun h => ?_) (fun h => ?_)))
    · have hge : ¬ r.2[i] < 1 := by simpa using h
      refine gb_by (by rw [mb, keysOk_mi int_leaf]; rfl) (brV_by (fun h => ?_) (fun h => ?_))
      · have hmem : r.2[i] ∈ r.2.take i := of_decide_eq_true h
        rw [bad fun _ => hmem]; exact Wk.refl _
      · have hmem : ¬ r.2[i] ∈ r.2.take i := of_decide_eq_false h
        have e : mapPut (AVal.int .i64 r.2[i]) (AVal.bool true) (mb m) = mb (putI r.2[i] true m) := mapPut_mi AVal.bool _ true m
        rw [push_set0, e]
        refine gb_by (by rw [mb, keysOk_mi int_leaf]; rfl) ?_
        refine hL (putI r.2[i] true m, i + 1) ⟨hlt, fun k => ?_, fun n hn' => ?_, ?_⟩ (by simp only []; omega)
        · rw [getI_putI, hm]
          by_cases hk : r.2[i] = k
          · rw [if_pos hk, if_pos ((mem_take_succ hlt).2 (.inr hk.symm))]
          · rw [if_neg hk]
            by_cases hkm : k ∈ r.2.take i
            · rw [if_pos hkm, if_pos ((mem_take_succ hlt).2 (.inl hkm))]
            · rw [if_neg hkm, if_neg (fun h => ((mem_take_succ hlt).1 h).elim hkm (fun e => hk e.symm))]
        · rw [List.take_succ_eq_append_getElem hlt] at hn'
          rcases List.mem_append.1 hn' with h3 | h3
          · exact hp n h3
          · simp at h3; subst h3; omega
        · rw [List.take_succ_eq_append_getElem hlt, List.nodup_append]
          exact ⟨hd, by simp, fun a ha b hb => by simp at hb; subst hb; rintro rfl; exact hmem ha⟩
    · have hlt1 : r.2[i] < 1 := by simpa using h
      rw [bad fun h3 => by omega]; exact Wk.refl _
  · have hge : ¬ i < r.2.length := by simpa using h
    rw [List.take_of_length_le (by omega)] at hp hd
    refine leaveTo (toCut (Eq.mpr (rootF_r r Sto.empty _ _) ?_))
    simp only [hold_eq, hn, hn1]
    rw [wrap_i64 (by omega) (by omega)]
    refine brV_by (fun h => ?_) (fun h => ?_)
    · have h : r.2.length = r.1.length + 1 := by simp at h; omega
      refine gb_by (by simp [lenOk_mk h1]) ?_
      have : rootB r = riseL r.1 := by
        rw [Bool.eq_iff_iff, rootB_iff]
        exact ⟨fun h => h.2.1, fun h' => ⟨h, h', hp, hd⟩⟩
      rw [this, map_strOf_strv]; exact Wk.refl _
    · have h : ¬ r.2.length = r.1.length + 1 := by simp at h; omega
      have : rootB r = false := by
        cases hr : rootB r with
        | false => rfl
        | true => exact (h (rootB_iff.1 hr).1).elim
      rw [this]; exact Wk.refl _

theorem root_ok : EntOk Try.prog rootE := by
  intro xs σ; simp only [rootE]; split
  · rename_i v
    intro hc
    obtain ⟨h1, h2, h3⟩ := rootG_spec hc
    simp only [hold_eq]
    exact pcall_of (.cons (wk_root h1) (.refl _)) (root_c _ h2 h3) (by simp only [noOutL, root_noOut, Bool.and_true]) (by simp only [noTokL, root_noTok, Bool.and_true]) rfl rfl
  · trivial

theorem rootR_c (r : Root) (h1 : r.1.length ≤ 140737488351232) (h2 : r.2.length ≤ 140737488351232) (hs : shortL r.1 = true) : ACall Try.prog 47 [rootV r] Sto.empty fun v _ => Wk v (.bool (rootB r)) := by
  refine rootR_i _ _ (.of [riseRE] rfl ⟨riseR_ok, trivial⟩) ?_
  have hn : (iv r.2).length = r.2.length := iv_length r.2
  have hn1 : (strv r.1).length = r.1.length := strv_length r.1
  simp only [hold_eq, hn1, map_strOf_strv, strv_is]
  rw [wrap_i64 (by omega) (by omega)]
  have start : r.2.length = r.1.length + 1 → riseL r.1 = true → loopV (fun s => St.norm [] [1, 3] [1] s) (vc Try.prog cRootR code_47_1_1_0_1_0_0) (blockK 0 (thenK (fun s => cutV (vc Try.prog cRootR code_47_1_1_1 (endK Try.prog Try.f47.results.toList fun v _ => Wk v (.bool (rootB r)))) (St.norm [] [] [] s)) (endK Try.prog Try.f47.results.toList fun v _ => Wk v (.bool (rootB r))))) (rootRL_S r 0) := by
    intro hlen hrise
    refine loopV_intro (α := Nat) (fun i => rootRL_S r i) (fun i => i ≤ r.2.length ∧ (∀ n ∈ r.2.take i, 1 ≤ n) ∧ ∀ j (hj : j < r.2.length), j < i → ∀ k (hk : k < j), r.2[k] ≠ r.2[j]) (fun i => r.2.length - i) ?_ 0 ⟨Nat.zero_le _, by simp, fun j _ h => by omega⟩
    rintro i ⟨hi, hp, hd⟩ L hL
    refine Eq.mpr (rootRL_r r i L _) ?_
    simp only [hold_eq]
    refine brV_by (fun h => ?_) (fun h => ?_)
    · have hlt : i < r.2.length := by simpa using h
      rw [elemAt_iv r.2 i hlt]
      have hg : AVal.intOf (List.getD [AVal.int .i64 r.2[i]] 0 AVal.undef) = r.2[i] := rfl
      rw [hg]
      refine gb_by (dt (by omega)) (gb_by rfl (brV_by (fun h => ?_) (fun h => ?_)))
      · have hlt1 : r.2[i] < 1 := by simpa using h
        have : rootB r = false := by
          cases hr : rootB r with
          | false => rfl
          | true => have := (rootB_iff.1 hr).2.2.1 _ (List.getElem_mem hlt); omega
        rw [this]; exact Wk.refl _
      · have hge1 : ¬ r.2[i] < 1 := by simpa using h
        refine loopV_intro (α := Nat) (fun k => rootRM_S r i k) (fun k => k ≤ i ∧ ∀ j (hj : j < k) (hj2 : j < r.2.length), r.2[j] ≠ r.2[i]) (fun k => i - k) ?_ 0 ⟨Nat.zero_le _, fun j h _ => by omega⟩
        rintro k ⟨hk, hne⟩ L2 hL2
        refine Eq.mpr (rootRM_r r i k L2 _) ?_
        simp only [hold_eq]
        refine brV_by (fun h => ?_) (fun h => ?_)
        · have hki : k < i := by simpa using h
          rw [i64_succ (show k < r.2.length by omega) h2, elemAt_iv r.2 k (by omega), elemAt_iv r.2 i hlt]
          refine gb_by (dt (by omega)) (gb_by rfl (gb_by (dt (by omega)) (gb_by rfl (brV_by (fun h => ?_) (fun h => ?_)))))
          · have e : r.2[k] = r.2[i] := by
              have h : (r.2[k] == r.2[i]) = true := h
              simpa using h
            have : rootB r = false := by
              cases hr : rootB r with
              | false => rfl
              | true => exact (nodup_iff_lt.1 (rootB_iff.1 hr).2.2.2 i hlt k hki e).elim
            rw [this]; exact Wk.refl _
          · have e : r.2[k] ≠ r.2[i] := by
              have h : (r.2[k] == r.2[i]) = false := h
              simpa using h
            refine hL2 (k + 1) ⟨hki, fun j hj hj2 => ?_⟩ (by omega)
            rcases Nat.lt_or_ge j k with h3 | h3
            · exact hne j h3 hj2
            · obtain rfl : j = k := by omega
              exact e
        · have hge : ¬ k < i := by simpa using h
          refine leaveK (inBlock (toCut ?_))
          refine Eq.mpr (rootRN_r r i _) ?_
          rw [i64_succ hlt h2]
          refine hL (i + 1) ⟨hlt, fun n hn' => ?_, fun j hj hji k' hk' => ?_⟩ (by omega)
          · rw [List.take_succ_eq_append_getElem hlt] at hn'
            rcases List.mem_append.1 hn' with h3 | h3
            · exact hp n h3
            · simp at h3; subst h3; omega
          · rcases Nat.lt_or_ge j i with h3 | h3
            · exact hd j hj h3 k' hk'
            · obtain rfl : j = i := by omega
              exact hne k' (by omega) (by omega)
    · have hge : ¬ i < r.2.length := by simpa using h
      rw [List.take_of_length_le (by omega)] at hp
      refine leaveTo (toCut (Eq.mpr (rootRF_r _) ?_))
      have : rootB r = true := rootB_iff.2 ⟨hlen, hrise, hp, nodup_iff_lt.2 fun j hj k hk => hd j hj (by omega) k hk⟩
      rw [this]; exact Wk.refl _
  refine brV_by (fun h => ?_) (fun h => ?_)
  · have hne : ¬ r.2.length = r.1.length + 1 := by rw [hn] at h; simp at h; omega
    have : rootB r = false := by
      cases hr : rootB r with
      | false => rfl
      | true => exact (hne (rootB_iff.1 hr).1).elim
    rw [this]; exact Wk.refl _
  · have hlen : r.2.length = r.1.length + 1 := by rw [hn] at h; simp at h; omega
    refine gb_by (by simp [lenOk_mk h1, hs]) (brV_by (fun h => ?_) (fun h => ?_))
    · have : rootB r = false := by
        cases hr : rootB r with
        | false => rfl
        | true => have := (rootB_iff.1 hr).2.1; rw [this] at h; cases h
      rw [this]; exact Wk.refl _
    · exact start hlen (by simpa using h)

theorem rootR_ok : EntOk Try.prog rootRE := by
  intro xs σ; simp only [rootRE]; split
  · rename_i v
    intro hc
    obtain ⟨⟨h1, h2, h3⟩, h4⟩ := rootH_spec hc
    simp only [hold_eq]
    exact pcall_of (.cons (wk_root h1) (.refl _)) (rootR_c _ h2 h3 h4) (by simp only [noOutL, root_noOut, Bool.and_true]) (by simp only [noTokL, root_noTok, Bool.and_true]) rfl rfl
  · trivial

theorem leaf_ok : EntOk Try.prog leafE := by
  intro xs σ; simp only [leafE]; split
  · rename_i v
    intro hc
    obtain ⟨h1, h2⟩ := lfG_spec hc
    simp only [hold_eq]
    refine pcall_of (.cons (wk_lf h1) (.refl _)) (leaf_i (lfOf v) _ (.of [riseE] rfl ⟨rise_ok, trivial⟩) ?_) (by simp only [noOutL, lf_noOut, Bool.and_true]) (by simp only [noTokL, lf_noTok, Bool.and_true]) rfl rfl
    simp only [hold_eq, strv_length, strv_is, map_strOf_strv]
    refine brV_by (fun hg => ?_) (fun hg => ?_)
    · refine brV_by (fun hg2 => gb_by (by simp [lenOk_mk h2]) ?_) (fun hg2 => ?_)
      · have : lfB (lfOf v) = riseL (lfOf v).2.1 := by
          rw [Bool.eq_iff_iff, lfB_iff]
          exact ⟨fun h => h.2.2, fun h => ⟨by simpa using hg, by simp at hg2; omega, h⟩⟩
        rw [this]; exact Wk.refl _
      · have : lfB (lfOf v) = false := by
          cases hr : lfB (lfOf v) with
          | false => rfl
          | true => have := (lfB_iff.1 hr).2.1; simp at hg2; omega
        rw [this]; exact Wk.refl _
    · have : lfB (lfOf v) = false := by
        cases hr : lfB (lfOf v) with
        | false => rfl
        | true => have := (lfB_iff.1 hr).1; rw [this] at hg; cases hg
      rw [this]; exact Wk.refl _
  · trivial
theorem leafR_ok : EntOk Try.prog leafRE := by
  intro xs σ; simp only [leafRE]; split
  · rename_i v
    intro hc
    obtain ⟨⟨h1, h2⟩, h3⟩ := lfH_spec hc
    simp only [hold_eq]
    refine pcall_of (.cons (wk_lf h1) (.refl _)) (leafR_i (lfOf v) _ (.of [riseRE] rfl ⟨riseR_ok, trivial⟩) ?_) (by simp only [noOutL, lf_noOut, Bool.and_true]) (by simp only [noTokL, lf_noTok, Bool.and_true]) rfl rfl
    simp only [hold_eq, strv_length, strv_is, map_strOf_strv]
    refine brV_by (fun hg => ?_) (fun hg => ?_)
    · refine brV_by (fun hg2 => gb_by (by simp [lenOk_mk h2, h3]) ?_) (fun hg2 => ?_)
      · have : lfB (lfOf v) = riseL (lfOf v).2.1 := by
          rw [Bool.eq_iff_iff, lfB_iff]
          exact ⟨fun h => h.2.2, fun h => ⟨by simpa using hg, by simp at hg2; omega, h⟩⟩
        rw [this]; exact Wk.refl _
      · have : lfB (lfOf v) = false := by
          cases hr : lfB (lfOf v) with
          | false => rfl
          | true => have := (lfB_iff.1 hr).2.1; simp at hg2; omega
        rw [this]; exact Wk.refl _
    · have : lfB (lfOf v) = false := by
        cases hr : lfB (lfOf v) with
        | false => rfl
        | true => have := (lfB_iff.1 hr).1; rw [this] at hg; cases hg
      rw [this]; exact Wk.refl _
  · trivial

theorem at_ok : EntOk Try.prog atE := by
  intro xs σ; simp only [atE]; split
  · rename_i v s
    intro hc
    simp only [Bool.and_eq_true, hold_eq] at hc
    obtain ⟨hc, hr⟩ := hc
    obtain ⟨h1, h2, h3⟩ := rootG_spec hc
    refine pcall_of (.cons (wk_root h1) (.refl _)) (at_i (rootOf v) s _ (.of [bsE] rfl ⟨bs_ok, trivial⟩) ?_) (by simp only [noOutL, root_noOut, AVal.noOut, Bool.and_true]) (by simp only [noTokL, root_noTok, AVal.noTok, Bool.and_true]) rfl rfl
    simp only [hold_eq, strv_length, strv_is, map_strOf_strv]
    intro y hy b hb
    refine gb_by (by simp [lenOk_mk h2, hr]) ?_
    have ha := atN_pos hr s
    have hle := atN_le (rootOf v).1 s
    subst hy; subst hb
    refine brV_by (fun h => ?_) (fun h => ?_)
    · rw [h] at ha
      simp at ha
      rw [wrap_i64 (by omega) (by omega), ha]
      exact Wk.refl _
    · rw [h] at ha
      simp at ha
      rw [ha]
      exact Wk.refl _
  · trivial

theorem atR_c (r : Root) (s : Txt) (h1 : r.1.length ≤ 140737488351232) (hs : shortL r.1 = true) : ACall Try.prog 51 [rootV r, .str s] Sto.empty fun v _ => Wk v (.int .i64 (atN r.1 s : Int)) := by
  refine atR_i _ _ _ (.of [ordE] rfl ⟨ord_ok, trivial⟩) ?_
  have hn1 : (strv r.1).length = r.1.length := strv_length r.1
  refine loopV_intro (α := Nat) (fun i => atRL_S r s (atN (r.1.take i) s) i) (fun i => i ≤ r.1.length) (fun i => r.1.length - i) ?_ 0 (Nat.zero_le _)
  rintro i hi L hL
  refine Eq.mpr (atRL_r r s _ i L _) ?_
  simp only [hold_eq]
  refine brV_by (fun h => ?_) (fun h => ?_)
  · have hlt : i < r.1.length := by simpa using h
    have hle := atN_le (r.1.take i) s
    rw [List.length_take] at hle
    rw [i64_succ hlt h1, elemAt_strv r.1 i hlt]
    have hw : IntKind.i64.wrap ((atN (r.1.take i) s : Int) + 1) = ((atN (r.1.take i) s + 1 : Nat) : Int) := by rw [wrap_i64 (by omega) (by omega)]; rfl
    rw [hw]
    have hstep : atN (r.1.take (i + 1)) s = atN (r.1.take i) s + (if tlt s r.1[i] then 0 else 1) := by
      rw [List.take_succ_eq_append_getElem hlt]
      unfold atN
      rw [List.filter_append, List.length_append]
      cases ht : tlt s r.1[i] <;> simp [ht]
    refine gb_by (dt (by omega)) (gb_by rfl (gb_by (dt (short_get hs hlt)) (brV_by (fun h => ?_) (fun h => ?_))))
    · have h : tlt s r.1[i] = false := ordT_le'.1 (of_decide_eq_true h)
      have := hL (i + 1) hlt (by omega)
      rw [hstep, h] at this
      exact this
    · have h : tlt s r.1[i] = true := by
        have : ¬ tlt s r.1[i] = false := fun e => of_decide_eq_false h (ordT_le'.2 e)
        simpa using this
      have := hL (i + 1) hlt (by omega)
      rw [hstep, h] at this
      exact this
  · have hge : ¬ i < r.1.length := by simpa using h
    rw [List.take_of_length_le (by omega)]
    exact leaveTo (toCut (Eq.mpr (atRF_r _ _) (Wk.refl _)))

theorem atR_ok : EntOk Try.prog atRE := by
  intro xs σ; simp only [atRE]; split
  · rename_i v s
    intro hc
    obtain ⟨⟨h1, h2, h3⟩, h4⟩ := rootH_spec hc
    exact pcall_of (.cons (wk_root h1) (.refl _)) (atR_c _ s h2 h4) (by simp only [noOutL, root_noOut, AVal.noOut, Bool.and_true]) (by simp only [noTokL, root_noTok, AVal.noTok, Bool.and_true]) rfl rfl
  · trivial

theorem find_ok : EntOk Try.prog findE := by
  intro xs σ; simp only [findE]; split
  · rename_i v s
    intro hc
    obtain ⟨h1, h2, h3⟩ := rootG_spec hc
    refine pcall_of (.cons (wk_root h1) (.refl _)) (find_i (rootOf v) s _ (.of [rootE, atE] rfl ⟨root_ok, at_ok, trivial⟩) ?_) (by simp only [noOutL, root_noOut, AVal.noOut, Bool.and_true]) (by simp only [noTokL, root_noTok, AVal.noTok, Bool.and_true]) rfl rfl
    generalize hr : rootOf v = r at h2 h3
    simp only [hold_eq, map_strOf_strv, map_intOf_iv, iv_length, fold_root]
    refine gb_by (rootG_mk h2 h3) (brV_by (fun h => ?_) (fun h => ?_))
    · have h : rootB r = false := by simpa using h
      simp only [findN, h]; exact Wk.refl _
    · have h : rootB r = true := by simpa using h
      intro y hy
      obtain ⟨g1, g2, g3, g4⟩ := rootB_iff.1 h
      have hle := atN_le r.1 s
      have hlt : y < r.2.length := by omega
      rw [elemAt_iv r.2 y hlt]
      refine gb_by (by rw [rootG_mk h2 h3, g2]; rfl) (gb_by (dt (by omega)) (gb_by rfl ?_))
      have : findN r s = r.2[y] := by
        simp only [findN, h, if_true, ← hy]
        simp [hlt]
      rw [this]; exact Wk.refl _
  · trivial
theorem findR_ok : EntOk Try.prog findRE := by
  intro xs σ; simp only [findRE]; split
  · rename_i v s
    intro hc
    obtain ⟨⟨h1, h2, h3⟩, h4⟩ := rootH_spec hc
    refine pcall_of (.cons (wk_root h1) (.refl _)) (findR_i (rootOf v) s _ (.of [rootRE, atRE] rfl ⟨rootR_ok, atR_ok, trivial⟩) ?_) (by simp only [noOutL, root_noOut, AVal.noOut, Bool.and_true]) (by simp only [noTokL, root_noTok, AVal.noTok, Bool.and_true]) rfl rfl
    generalize hr : rootOf v = r at h2 h3 h4
    simp only [hold_eq, map_strOf_strv, map_intOf_iv, iv_length, fold_root]
    refine gb_by (rootH_mk h2 h3 h4) (brV_by (fun h => ?_) (fun h => ?_))
    · have h : rootB r = false := by simpa using h
      simp only [findN, h]; exact Wk.refl _
    · have h : rootB r = true := by simpa using h
      intro y hy
      obtain ⟨g1, g2, g3, g4⟩ := rootB_iff.1 h
      have hle := atN_le r.1 s
      have hlt : y < r.2.length := by omega
      rw [elemAt_iv r.2 y hlt]
      refine gb_by (rootH_mk h2 h3 h4) (gb_by (dt (by omega)) (gb_by rfl ?_))
      have : findN r s = r.2[y] := by
        simp only [findN, h, if_true, ← hy]
        simp [hlt]
      rw [this]; exact Wk.refl _
  · trivial
end Go.Proofs.Ytlfnmhfmikomkaa
