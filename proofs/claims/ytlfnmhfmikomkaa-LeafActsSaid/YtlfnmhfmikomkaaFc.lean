/-
  Seat 11 (leaf): contracts: texts held against each other, searched, found.
-/
import Derived.Test.YtlfnmhfmikomkaaFr
namespace Go.Proofs.Ytlfnmhfmikomkaa
open Go.AL
set_option linter.unusedSimpArgs false
set_option linter.unusedVariables false
set_option maxHeartbeats 4000000
set_option maxRecDepth 20000

theorem wrap_u64 {n : Int} (h0 : 0 ≤ n) (h1 : n ≤ 18446744073709551615) : IntKind.u64.wrap n = n := by
  simp only [IntKind.wrap, IntKind.signed, IntKind.bits]
  simp
  omega
theorem mid_wrap {i j : Nat} (h : i ≤ j) (hj : j ≤ 140737488351232) : IntKind.i64.wrap (Int.fdiv (IntKind.u64.wrap (IntKind.i64.wrap ((i : Int) + (j : Int)))) 2) = (((i + j) / 2 : Nat) : Int) := by
  have e1 : IntKind.i64.wrap ((i : Int) + (j : Int)) = (i : Int) + (j : Int) := wrap_i64 (by omega) (by omega)
  have e2 : IntKind.u64.wrap ((i : Int) + (j : Int)) = (i : Int) + (j : Int) := wrap_u64 (by omega) (by omega)
  have e3 : Int.fdiv ((i : Int) + (j : Int)) 2 = (((i + j) / 2 : Nat) : Int) := by
    rw [Int.fdiv_eq_ediv_of_nonneg _ (by omega)]
    omega
  rw [e1, e2, e3, wrap_i64 (by omega) (by omega)]
theorem pred_wrap {i : Nat} (h : 0 < i) (hi : i ≤ 140737488351232) : IntKind.i64.wrap ((i : Int) - 1) = ((i - 1 : Nat) : Int) := by
  rw [wrap_i64 (by omega) (by omega)]; omega
theorem lenOk_of {n : Nat} (h : lenOk n = true) : n ≤ 140737488351232 := by simpa [lenOk] using h
theorem lenOk_mk {n : Nat} (h : n ≤ 140737488351232) : lenOk n = true := by simpa [lenOk] using h
theorem getD_one (a : AVal) : List.getD [a] 0 AVal.undef = a := rfl

theorem sign_ok : EntOk Try.prog signE := by
  intro xs σ; simp only [signE]; split
  · rename_i b
    intro _
    refine pcall_of (.refl _) (sign_i b _ (.of_none rfl) ?_) rfl rfl rfl rfl
    cases b <;> exact Wk.refl _
  · trivial

theorem ord_c (a b : Txt) (hl : a.length ≤ 1000000) : ACall Try.prog 14 [.str a, .str b] Sto.empty fun r _ => Wk r (.int .i64 (ordT a b)) := by
  refine ord_i _ _ _ (.of [signE] rfl ⟨sign_ok, trivial⟩) ?_
  refine loopV_intro (α := Nat) (fun i => ordL_S a b i) (fun i => i ≤ a.length ∧ i ≤ b.length ∧ a.take i = b.take i) (fun i => a.length - i) ?_ 0 ⟨Nat.zero_le _, Nat.zero_le _, rfl⟩
  rintro i ⟨hi, hj, hpre⟩ L hL
  refine Eq.mpr (ordL_r a b i L _) ?_
  simp only [hold_eq]
  have hd := ordT_drop hpre
  have fin : ¬ (i < a.length ∧ i < b.length) → (if a.length = b.length then (0 : Int) else sgnN (decide (a.length < b.length))) = ordT a b := by
    intro hn
    rw [hd]
    by_cases h1 : a.length = b.length
    · rw [if_pos h1]
      have : a = b := by
        have e1 : a.take i = a := List.take_of_length_le (by omega)
        have e2 : b.take i = b := List.take_of_length_le (by omega)
        rw [← e1, ← e2, hpre]
      subst this
      exact ((ordT_eq _ _).2 rfl).symm
    · rw [if_neg h1]
      by_cases h2 : a.length < b.length
      · have e1 : a.drop i = [] := List.drop_eq_nil_of_le (by omega)
        rw [e1]
        have hb : i < b.length := by omega
        rw [List.drop_eq_getElem_cons hb]
        unfold ordT
        rw [if_neg (by intro h; cases h), tlt_nil_cons]
        simp only [sgnN, h2, decide_true, if_true]
      · have e1 : b.drop i = [] := List.drop_eq_nil_of_le (by omega)
        rw [e1]
        have hb : i < a.length := by omega
        rw [List.drop_eq_getElem_cons hb]
        unfold ordT
        rw [if_neg (by intro h; cases h), tlt_nil_right]
        simp only [sgnN, h2, decide_false, if_false, Bool.false_eq_true]
  have leave : ¬ (i < a.length ∧ i < b.length) → Go.AL.cutV (Go.AL.vc Try.prog cOrd code_14_1_1 (Go.AL.endK Try.prog Try.f14.results.toList fun r _ => Wk r (.int .i64 (ordT a b)))) (ordF_S a b) := by
    intro hn
    refine toCut (Eq.mpr (ordF_r a b _) ?_)
    simp only [hold_eq]
    rw [← fin hn]
    refine brV_by (fun h => ?_) (fun h => ?_)
    · have h : a.length = b.length := by simp at h; omega
      rw [if_pos h]; exact Wk.refl _
    · have h : ¬ a.length = b.length := by simp at h; omega
      rw [if_neg h]
      have : (decide ((a.length : Int) < (b.length : Int))) = decide (a.length < b.length) := by simp
      rw [this]
      exact Wk.refl _
  refine brV_by (fun h => ?_) (fun h => ?_)
  · have h1 : i < a.length := by simpa using h
    refine brV_by (fun h => ?_) (fun h => ?_)
    · have h2 : i < b.length := by simpa using h
      refine gb_by (dt (by omega)) (gb_by (dt (by omega)) ?_)
      have g1 : List.getD a (Int.toNat (i : Int)) 0 = a[i] := by simp [h1]
      have g2 : List.getD b (Int.toNat (i : Int)) 0 = b[i] := by simp [h2]
      rw [g1, g2]
      refine brV_by (fun hne => ?_) (fun he => ?_)
      · have hne : a[i] ≠ b[i] := by
          intro e; rw [e] at hne; simp at hne
        refine gb_by (dt (by omega)) (gb_by (dt (by omega)) ?_)
        have : ordT a b = sgnN (decide ((a[i].toNat : Int) < (b[i].toNat : Int))) := by
          rw [hd, List.drop_eq_getElem_cons h1, List.drop_eq_getElem_cons h2, ordT_cons hne]
          congr 1
          rw [decide_eq_decide]
          show a[i].toNat < b[i].toNat ↔ _
          omega
        rw [this]
        exact Wk.refl _
      · have he : a[i] = b[i] := by
          have : a[i].toNat = b[i].toNat := by simp at he; omega
          exact UInt8.toNat_inj.1 this
        rw [i64_succ h1 (by omega)]
        refine hL (i + 1) ⟨h1, h2, ?_⟩ (by omega)
        rw [List.take_succ_eq_append_getElem h1, List.take_succ_eq_append_getElem h2, hpre, he]
    · have h2 : ¬ i < b.length := by simpa using h
      exact leaveTo (leave fun h => h2 h.2)
  · have h1 : ¬ i < a.length := by simpa using h
    exact leaveTo (leave fun h => h1 h.1)

theorem ord_ok : EntOk Try.prog ordE := by
  intro xs σ; simp only [ordE]; split
  · rename_i a b
    intro hc
    simp only [hold_eq, decide_eq_true_eq] at hc
    exact pcall_of (.refl _) (ord_c a b hc) rfl rfl rfl rfl
  · trivial

theorem nan_ok : EntOk Try.prog nanE := by
  intro xs σ; simp only [nanE]; split
  · rename_i a
    intro _
    refine pcall_of (.refl _) (nan_i a _ (.of_none rfl) ?_) rfl rfl rfl rfl
    simp only [hold_eq, beq_self_eq_true, Bool.not_true]
    exact Wk.refl _
  · trivial
theorem nan2_ok : EntOk Try.prog nan2E := by
  intro xs σ; simp only [nan2E]; split
  · rename_i a
    intro _
    refine pcall_of (.refl _) (nan2_i a _ (.of_none rfl) ?_) rfl rfl rfl rfl
    simp only [hold_eq, beq_self_eq_true, Bool.not_true]
    exact Wk.refl _
  · trivial
theorem less_ok : EntOk Try.prog lessE := by
  intro xs σ; simp only [lessE]; split
  · rename_i a b
    intro _
    refine pcall_of (.refl _) (less_i a b _ (.of [nanE] rfl ⟨nan_ok, trivial⟩) ?_) rfl rfl rfl rfl
    simp only [hold_eq]
    exact Wk.refl _
  · trivial

theorem bs_c (l : List Txt) (s : Txt) (hr : riseL l = true) (hl : l.length ≤ 140737488351232) : ACall Try.prog 35 [.slice (strv l) 1 .ro, .str s] Sto.empty fun r _ => Wk r (.tuple [.int .i64 (posN l s : Int), .bool (l.contains s)]) := by
  refine bs_i _ _ _ (.of [lessE, nan2E] rfl ⟨less_ok, nan2_ok, trivial⟩) ?_
  have hn : (strv l).length = l.length := strv_length l
  refine loopV_intro (α := Nat × Nat) (fun x => bsL_S l s (strv l).length x.1 x.2) (fun x => x.1 ≤ x.2 ∧ x.2 ≤ l.length ∧ x.1 ≤ posN l s ∧ posN l s ≤ x.2) (fun x => x.2 - x.1) ?_ (0, (strv l).length) ⟨Nat.zero_le _, by simp, Nat.zero_le _, by simp only [hn]; exact posN_le _ _⟩
  rintro ⟨i, j⟩ ⟨hij, hj, h1, h2⟩ L hL
  simp only [] at hij hj h1 h2
  refine Eq.mpr (bsL_r l s _ i j L _) ?_
  simp only [hold_eq]
  rw [mid_wrap hij (by omega)]
  refine brV_by (fun h => ?_) (fun h => ?_)
  · have hlt : i < j := by simpa using h
    have hm : (i + j) / 2 < l.length := by omega
    rw [elemAt_strv l _ hm]
    refine gb_by (dt (by omega)) (gb_by rfl (brV_by (fun h => ?_) (fun h => ?_)))
    · have := (posN_lt hr s _ hm).1 h
      rw [i64_succ hm hl]
      exact hL ((i + j) / 2 + 1, j) ⟨by simp only []; omega, hj, by simp only []; omega, h2⟩ (by simp only []; omega)
    · have hnl : ¬ (i + j) / 2 < posN l s := fun h3 => by
        have := (posN_lt hr s _ hm).2 h3
        have h : tlt l[(i + j) / 2] s = false := h
        rw [h] at this; cases this
      exact hL (i, (i + j) / 2) ⟨by simp only []; omega, by simp only []; omega, h1, by simp only []; omega⟩ (by simp only []; omega)
  · have hge : i = j := by simp at h; omega
    subst hge
    have hp : posN l s = i := by omega
    refine leaveTo (toCut (Eq.mpr (bsF_r l s _ i _) ?_))
    simp only [hold_eq]
    have hc := contains_pos hr s
    rw [hp] at hc
    rw [hp]
    refine brV_by (fun h => ?_) (fun h => ?_)
    · have hlt : i < l.length := by simpa using h
      rw [elemAt_strv l i hlt]
      have hg : l.getD i [] = l[i] := by simp [hlt]
      rw [hg] at hc
      refine gb_by (dt (by omega)) (gb_by rfl (brV_by' (fun h => ?_) (fun h => ?_)))
      · have h : (l[i] == s) = false := h
        rw [h] at hc
        rw [hc]
        refine gb_by (dt (by omega)) (gb_by rfl ?_)
        simp
        exact Wk.refl _
      · have h : (l[i] == s) = true := h
        rw [h] at hc
        rw [hc]
        simp [hlt]
        exact Wk.refl _
    · have hge : ¬ i < l.length := by simpa using h
      rw [hc]
      simp [hge]
      exact Wk.refl _

theorem bs_ok : EntOk Try.prog bsE := by
  intro xs σ; simp only [bsE]; split
  · rename_i es s t x
    intro hc
    simp only [Bool.and_eq_true, hold_eq] at hc
    obtain ⟨h1, h2, h3, h4⟩ := hc
    simp only [hold_eq]
    exact pcall_of (.cons (wk_strv t h1 h2) (.refl _)) (bs_c _ x h3 (by simpa using lenOk_of h4)) (by simp only [noOutL, AVal.noOut, strv_noOut, Bool.and_true]) (by simp only [noTokL, AVal.noTok, strv_noTok, Tag.below, Bool.and_true]) rfl rfl
  · trivial

theorem rise_c (l : List Txt) (hl : l.length ≤ 140737488351232) : ACall Try.prog 71 [.slice (strv l) 1 .ro] Sto.empty fun r _ => Wk r (.bool (riseL l)) := by
  refine rise_i _ _ (.of_none rfl) ?_
  have hn : (strv l).length = l.length := strv_length l
  refine loopV_intro (α := Nat) (fun i => riseLp_S l (strv l).length i) (fun i => i ≤ l.length ∧ ∀ j (hj : j + 1 < l.length), j + 1 < i → tlt l[j] l[j + 1] = true) (fun i => l.length - i) ?_ 0 ⟨Nat.zero_le _, fun j _ h => by omega⟩
  rintro i ⟨hi, hpre⟩ L hL
  refine Eq.mpr (riseLp_r l _ i L _) ?_
  simp only [hold_eq]
  refine brV_by (fun h => ?_) (fun h => ?_)
  · have hlt : i < l.length := by simpa using h
    rw [i64_succ hlt hl]
    refine brV_by (fun h => ?_) (fun h => ?_)
    · have h0 : 0 < i := by simpa using h
      rw [pred_wrap h0 (by omega), elemAt_strv l (i - 1) (by omega), elemAt_strv l i hlt]
      refine gb_by (dt (by omega)) (gb_by rfl (gb_by (dt (by omega)) (gb_by rfl (brV_by (fun h => ?_) (fun h => ?_)))))
      · have h : (!tlt l[i - 1] l[i]) = true := h
        have : riseL l = false := by
          cases hr : riseL l with
          | false => rfl
          | true =>
            have := riseL_get hr (i := i - 1) (j := i) (by omega) hlt
            rw [this] at h; cases h
        rw [this]; exact Wk.refl _
      · have h : (!tlt l[i - 1] l[i]) = false := h
        refine hL (i + 1) ⟨hlt, fun j hj hji => ?_⟩ (by omega)
        rcases Nat.lt_or_ge (j + 1) i with h1 | h1
        · exact hpre j hj h1
        · obtain rfl : i = j + 1 := by omega
          simpa using h
    · have h0 : i = 0 := by simp at h; omega
      subst h0
      exact hL 1 ⟨hlt, fun j hj hji => by omega⟩ (by omega)
  · have hge : ¬ i < l.length := by simpa using h
    refine leaveTo (toCut (Eq.mpr (riseF_r _) ?_))
    have : riseL l = true := riseL_of fun j hj => hpre j hj (by omega)
    rw [this]; exact Wk.refl _

theorem rise_ok : EntOk Try.prog riseE := by
  intro xs σ; simp only [riseE]; split
  · rename_i es s t
    intro hc
    simp only [Bool.and_eq_true, hold_eq] at hc
    obtain ⟨h1, h2, h4⟩ := hc
    simp only [hold_eq]
    exact pcall_of (.cons (wk_strv t h1 h2) (.refl _)) (rise_c _ (by simpa using lenOk_of h4)) (by simp only [noOutL, AVal.noOut, strv_noOut, Bool.and_true]) (by simp only [noTokL, AVal.noTok, strv_noTok, Tag.below, Bool.and_true]) rfl rfl
  · trivial

theorem short_get {l : List Txt} (h : shortL l = true) {i : Nat} (hi : i < l.length) : l[i].length ≤ 1000000 := by
  simp only [shortL, List.all_eq_true, decide_eq_true_eq] at h
  exact h _ (List.getElem_mem hi)

theorem riseR_c (l : List Txt) (hs : shortL l = true) (hl : l.length ≤ 140737488351232) : ACall Try.prog 16 [.slice (strv l) 1 .ro] Sto.empty fun r _ => Wk r (.bool (riseL l)) := by
  refine riseR_i _ _ (.of [ordE] rfl ⟨ord_ok, trivial⟩) ?_
  have hn : (strv l).length = l.length := strv_length l
  refine loopV_intro (α := Nat) (fun i => riseRL_S l i) (fun i => 1 ≤ i ∧ (i ≤ l.length ∨ i = 1) ∧ ∀ j (hj : j + 1 < l.length), j + 1 < i → tlt l[j] l[j + 1] = true) (fun i => l.length - i) ?_ 1 ⟨Nat.le_refl _, .inr rfl, fun j _ h => by omega⟩
  rintro i ⟨hi1, hi, hpre⟩ L hL
  refine Eq.mpr (riseRL_r l i L _) ?_
  simp only [hold_eq]
  refine brV_by (fun h => ?_) (fun h => ?_)
  · have hlt : i < l.length := by simpa using h
    rw [i64_succ hlt hl, pred_wrap hi1 (by omega), elemAt_strv l (i - 1) (by omega), elemAt_strv l i hlt]
    refine gb_by (dt (by omega)) (gb_by rfl (gb_by (dt (by omega)) (gb_by rfl (gb_by (dt (short_get hs _)) (brV_by (fun h => ?_) (fun h => ?_))))))
    · have h : tlt l[i - 1] l[i] = false := ordT_ge'.1 (of_decide_eq_true h)
      have : riseL l = false := by
        cases hr : riseL l with
        | false => rfl
        | true =>
          have := riseL_get hr (i := i - 1) (j := i) (by omega) hlt
          rw [this] at h; cases h
      rw [this]; exact Wk.refl _
    · have h : ¬ tlt l[i - 1] l[i] = false := fun e => of_decide_eq_false h (ordT_ge'.2 e)
      refine hL (i + 1) ⟨by omega, .inl hlt, fun j hj hji => ?_⟩ (by omega)
      rcases Nat.lt_or_ge (j + 1) i with h1 | h1
      · exact hpre j hj h1
      · obtain rfl : i = j + 1 := by omega
        simpa using h
  · have hge : ¬ i < l.length := by simpa using h
    refine leaveTo (toCut (Eq.mpr (riseRF_r _) ?_))
    have : riseL l = true := riseL_of fun j hj => hpre j hj (by omega)
    rw [this]; exact Wk.refl _

theorem riseR_ok : EntOk Try.prog riseRE := by
  intro xs σ; simp only [riseRE]; split
  · rename_i es s t
    intro hc
    simp only [Bool.and_eq_true, hold_eq] at hc
    obtain ⟨h1, h2, h3, h4⟩ := hc
    simp only [hold_eq]
    exact pcall_of (.cons (wk_strv t h1 h2) (.refl _)) (riseR_c _ h3 (by simpa using lenOk_of h4)) (by simp only [noOutL, AVal.noOut, strv_noOut, Bool.and_true]) (by simp only [noTokL, AVal.noTok, strv_noTok, Tag.below, Bool.and_true]) rfl rfl
  · trivial

theorem indexI_c (l : List Int) (x : Int) (hl : l.length ≤ 140737488351232) : ACall Try.prog 68 [.slice (iv l) 1 .ro, .int .i64 x] Sto.empty fun r _ => Wk r (.int .i64 (if l.contains x then (l.idxOf x : Int) else -1)) := by
  refine indexI_i _ _ _ (.of_none rfl) ?_
  have hn : (iv l).length = l.length := iv_length l
  refine loopV_intro (α := Nat) (fun i => indexIL_S l x (iv l).length i) (fun i => i ≤ l.length ∧ ∀ y ∈ l.take i, y ≠ x) (fun i => l.length - i) ?_ 0 ⟨Nat.zero_le _, fun x hx => by simp at hx⟩
  rintro i ⟨hi, hpre⟩ L hL
  refine Eq.mpr (indexIL_r l x _ i L _) ?_
  simp only [hold_eq]
  refine brV_by (fun h => ?_) (fun h => ?_)
  · have hlt : i < l.length := by simpa using h
    rw [i64_succ hlt hl, elemAt_iv l i hlt]
    refine gb_by (dt (by omega)) (gb_by rfl (brV_by (fun h => ?_) (fun h => ?_)))
    · have e : x = l[i] := by
        have h : (x == l[i]) = true := h
        simpa using h
      have hc : l.contains x = true := by rw [e]; simp
      have hx : l.idxOf x = i := by
        unfold List.idxOf
        rw [List.findIdx_eq hlt]
        refine ⟨by simp [e], fun j hj => ?_⟩
        have := hpre l[j] (List.mem_take_iff_getElem.2 ⟨j, by omega, rfl⟩)
        simpa using this
      rw [if_pos hc, hx]
      exact Wk.refl _
    · have e : x ≠ l[i] := by
        have h : (x == l[i]) = false := h
        simpa using h
      refine hL (i + 1) ⟨hlt, fun y hy => ?_⟩ (by omega)
      rw [List.take_succ_eq_append_getElem hlt] at hy
      rcases List.mem_append.1 hy with h1 | h1
      · exact hpre y h1
      · simp at h1; subst h1; exact fun e' => e e'.symm
  · have hge : ¬ i < l.length := by simpa using h
    rw [List.take_of_length_le (by omega)] at hpre
    have hc : ¬ l.contains x = true := by
      intro hc
      have : x ∈ l := by simpa using hc
      exact hpre x this rfl
    rw [if_neg hc]
    exact Wk.refl _

theorem indexI_ok : EntOk Try.prog indexIE := by
  intro xs σ; simp only [indexIE]; split
  · rename_i es s t n
    intro hc
    simp only [Bool.and_eq_true, hold_eq] at hc
    obtain ⟨h1, h2, h3⟩ := hc
    exact pcall_of (.cons (wk_iv t h1 h2) (.refl _)) (indexI_c _ n (by simpa using lenOk_of h3)) (by simp only [noOutL, AVal.noOut, iv_noOut, Bool.and_true]) (by simp only [noTokL, AVal.noTok, iv_noTok, Bool.and_true, Tag.below]) rfl rfl
  · trivial

theorem containsI_c (l : List Int) (n : Int) (hl : l.length ≤ 140737488351232) : ACall Try.prog 37 [.slice (iv l) 1 .ro, .int .i64 n] Sto.empty fun r _ => Wk r (.bool (l.contains n)) := by
  refine containsI_i _ _ _ (.of [indexIE] rfl ⟨indexI_ok, trivial⟩) ?_
  simp only [hold_eq, iv_length, iv_isI64, okW_same, map_intOf_iv]
  intro y hy i hi
  have hy : y = l.contains n := hy
  subst hy
  refine gb_by (by simp [lenOk_mk hl]) ?_
  have : decide (0 ≤ i) = l.contains n := by
    have hn : i = if l.contains n = true then (l.idxOf n : Int) else -1 := hi
    rw [hn]
    cases h : l.contains n with
    | true => simp
    | false => simp
  rw [this]
  exact Wk.refl _

theorem containsI_ok : EntOk Try.prog containsIE := by
  intro xs σ; simp only [containsIE]; split
  · rename_i es s t n
    intro hc
    simp only [Bool.and_eq_true, hold_eq] at hc
    obtain ⟨h1, h2, h3⟩ := hc
    simp only [hold_eq]
    exact pcall_of (.cons (wk_iv t h1 h2) (.refl _)) (containsI_c _ n (by simpa using lenOk_of h3)) (by simp only [noOutL, AVal.noOut, iv_noOut, Bool.and_true]) (by simp only [noTokL, AVal.noTok, iv_noTok, Bool.and_true, Tag.below]) rfl rfl
  · trivial
end Go.Proofs.Ytlfnmhfmikomkaa
