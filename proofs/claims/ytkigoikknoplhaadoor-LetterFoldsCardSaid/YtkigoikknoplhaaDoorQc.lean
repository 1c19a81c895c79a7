/-
  Seat 01 (letter): contracts: letters, names, counts, cuts, the order.
-/
import Derived.Test.YtkigoikknoplhaaDoorQr
namespace Go.Proofs.YtkigoikknoplhaaDoor
open Go.AL
set_option linter.unusedSimpArgs false
set_option linter.unusedVariables false
set_option maxHeartbeats 2000000
set_option maxRecDepth 20000

theorem and_tt {a b : Bool} (h1 : a = true) (h2 : b = true) : (a && b) = true := by rw [h1, h2]; rfl
theorem thenN {f : St → Prop} {K : Exit → St → Prop} {st : St} (h : f st) : thenK f K .normal st := h
theorem dtt {b : Bool} (h : b = true) : decide (b = true ∧ True) = true := by subst h; rfl
theorem lenOk_of {n : Nat} (h : lenOk n = true) : n ≤ 140737488351232 := by simpa [lenOk] using h
theorem lenOk_mk {n : Nat} (h : n ≤ 140737488351232) : lenOk n = true := by simpa [lenOk] using h
theorem lenT_of {s : Txt} (h : lenT s = true) : s.length ≤ 1000000 := by simpa [lenT] using h
theorem lenT_mk {s : Txt} (h : s.length ≤ 1000000) : lenT s = true := by simpa [lenT] using h
theorem letB_of {r : Int} {b : Bool} (h : b = true ↔ (97 ≤ r ∧ r ≤ 122 ∨ 65 ≤ r ∧ r ≤ 90 ∨ r = 95 ∨ 192 ≤ r ∧ r ≤ 591 ∧ r ≠ 215 ∧ r ≠ 247)) : Wk (.bool b) (.bool (letB r)) := by
  have : b = letB r := by
    rw [Bool.eq_iff_iff, h]; simp [letB]
  rw [this]; exact Wk.refl _
theorem letter_c (r : Int) : ACall Tryd.prog 41 [.int .i32 r] Sto.empty fun v _ => Wk v (.bool (letB r)) := by
  refine letter_i r _ (.of_none rfl) ?_
  simp only [hold_eq]
  repeat' (first | refine brV_by (fun h => ?_) (fun h => ?_) | refine brV_by' (fun h => ?_) (fun h => ?_))
  all_goals
    refine letB_of ?_
    simp only [decide_eq_true_eq, decide_eq_false_iff_not, beq_iff_eq, beq_eq_false_iff_ne, bne_iff_ne, bne_eq_false_iff_eq, ne_eq, Bool.false_eq_true, false_iff, true_iff, iff_true] at *
    omega
theorem letter_ok : EntOk Tryd.prog letE := by
  intro xs σ; simp only [letE]; split
  · rename_i r
    intro _
    exact pcall_of (.refl _) (by rw [hold_eq]; exact letter_c r) rfl rfl rfl rfl
  · trivial
theorem letterR_c (r : Int) : ACall Tryd.prog 30 [.int .i32 r] Sto.empty fun v _ => Wk v (.bool (letB r)) := by
  refine letterR_i r _ (.of_none rfl) ?_
  simp only [hold_eq]
  repeat' (first | refine brV_by (fun h => ?_) (fun h => ?_) | refine brV_by' (fun h => ?_) (fun h => ?_))
  all_goals
    refine letB_of ?_
    simp only [decide_eq_true_eq, decide_eq_false_iff_not, beq_iff_eq, beq_eq_false_iff_ne, bne_iff_ne, bne_eq_false_iff_eq, ne_eq, Bool.false_eq_true, false_iff, true_iff, iff_true] at *
    omega
theorem letterR_ok : EntOk Tryd.prog letRE := by
  intro xs σ; simp only [letRE]; split
  · rename_i r
    intro _
    exact pcall_of (.refl _) (by rw [hold_eq]; exact letterR_c r) rfl rfl rfl rfl
  · trivial
/-- A beginning of a name. -/
def preB : List Int → Bool
  | [] => true
  | r :: l => letB r && l.all fun x => letB x || digB x
theorem preB_snoc (l : List Int) (r : Int) : preB (l ++ [r]) = (preB l && (letB r || (!l.isEmpty && digB r))) := by
  cases l with
  | nil => simp [preB]
  | cons x t => simp [preB, Bool.and_assoc]
theorem nameR_pre (l : List Int) : nameR l = (preB l && decide (l ≠ [] ∧ l.length ≤ 32)) := by
  cases l with
  | nil => simp [nameR]
  | cons x t => simp [nameR, preB]
theorem preB_app {l m : List Int} (h : preB l = false) : nameR (l ++ m) = false := by
  rw [nameR_pre]
  have : preB (l ++ m) = false := by
    cases l with
    | nil => simp [preB] at h
    | cons x t =>
      simp only [preB, List.cons_append, List.all_append] at h ⊢
      rw [← Bool.and_assoc, h]; rfl
  rw [this]; rfl
theorem wrong_c (s : Txt) (hs : s.length ≤ 1000000) : ACall Tryd.prog 32 [.str s] Sto.empty fun v _ => Wk v (.bool (!nameT s)) := by
  refine wrong_i s _ (.of [letE] rfl ⟨letter_ok, trivial⟩) ?_
  refine loopV_intro (α := List Int × Nat) (fun x => wrongL_S s x.1.length x.2) (fun x => runeL s = x.1 ++ restR s x.2 ∧ preB x.1 = true) (fun x => s.length - x.2) ?_ ([], 0) ⟨rfl, rfl⟩
  rintro ⟨l, p⟩ ⟨g1, g2⟩ L hL
  simp only at g1 g2
  have hl := runeL_len s
  refine Eq.mpr (wrongL_r s l.length p L _) ?_
  simp only [hold_eq]
  refine brV_by (fun h => ?_) (fun h => ?_)
  · have hp : p < s.length := of_decide_eq_true h
    rw [restR_step hp] at g1
    have hll : l.length < s.length := by rw [g1, List.length_append, List.length_cons] at hl; omega
    have bad : preB (l ++ [decR s p]) = false → Wk (.bool true) (.bool (!nameT s)) := fun hb => by
      have : nameT s = false := by
        unfold nameT
        rw [g1, show l ++ decR s p :: restR s (p + decW s p) = (l ++ [decR s p]) ++ restR s (p + decW s p) by simp]
        exact preB_app hb
      rw [this]; exact Wk.refl _
    have nxt : preB (l ++ [decR s p]) = true → L (wrongL_S s (l ++ [decR s p]).length (p + decW s p)) := fun hb =>
      hL (l ++ [decR s p], p + decW s p) ⟨by simp only; rw [g1]; simp, hb⟩ (by have := decW_pos hp; simp only; omega)
    rw [List.length_append, List.length_singleton] at nxt
    rw [i64_succ hll (by omega)]
    rw [preB_snoc, g2, Bool.true_and] at bad nxt
    refine brV_by (fun h1 => ?_) (fun h1 => nxt (by have h1 : letB (decR s p) = true := by simpa using h1
                                                    rw [h1]; rfl))
    have h1 : letB (decR s p) = false := by simpa using h1
    rw [h1, Bool.false_or] at bad nxt
    refine brV_by' (fun h2 => ?_) (fun h2 => bad ?_)
    rotate_left
    · have h2 : ((l.length : Int) == 0) = true := h2
      have : l = [] := List.eq_nil_of_length_eq_zero (by have : (l.length : Int) = 0 := by simpa using h2
                                                         omega)
      rw [this]; rfl
    have h2 : l.isEmpty = false := by
      have h2 : ((l.length : Int) == 0) = false := h2
      cases l with
      | nil => simp at h2
      | cons x t => rfl
    rw [h2] at bad nxt
    refine brV_by' (fun h3 => ?_) (fun h3 => bad (by have := of_decide_eq_true h3; simp [digB]; omega))
    have h3 := of_decide_eq_false h3
    exact brV_by (fun h4 => bad (by have := of_decide_eq_true h4; simp [digB]; omega)) (fun h4 => nxt (by have := of_decide_eq_false h4; simp [digB]; omega))
  · have hp : s.length ≤ p := by have := of_decide_eq_false h; omega
    rw [restR_end hp, List.append_nil] at g1
    have hn : nameT s = decide (l ≠ [] ∧ l.length ≤ 32) := by unfold nameT; rw [g1, nameR_pre, g2]; rfl
    refine leaveTo (toCut (Eq.mpr (wrongF_r l.length _) ?_))
    simp only [hold_eq]
    have fin : ∀ b : Bool, (b = true ↔ (l = [] ∨ 32 < l.length)) → Wk (.bool b) (.bool (!nameT s)) := fun b hb => by
      have : b = !nameT s := by
        rw [hn, Bool.eq_iff_iff, hb]
        simp only [Bool.not_eq_true', decide_eq_false_iff_not, not_and, ne_eq]
        constructor
        · rintro (h | h) h2
          · exact absurd h h2
          · omega
        · intro h
          by_cases h0 : l = []
          · exact .inl h0
          · exact .inr (by have := h h0; omega)
      rw [this]; exact Wk.refl _
    refine brV_by' (fun h2 => fin _ ?_) (fun h2 => fin _ ?_)
    · have h2 : ((l.length : Int) == 0) = false := h2
      have hne : l ≠ [] := by rintro rfl; simp at h2
      simp only [decide_eq_true_eq]
      constructor
      · intro h; exact .inr (by omega)
      · rintro (h | h)
        · exact absurd h hne
        · omega
    · have h2 : ((l.length : Int) == 0) = true := h2
      have : l = [] := List.eq_nil_of_length_eq_zero (by have : (l.length : Int) = 0 := by simpa using h2
                                                         omega)
      simp [this]
theorem wrong_ok : EntOk Tryd.prog wrongE := by
  intro xs σ; simp only [wrongE]; split
  · rename_i s
    intro hc
    exact pcall_of (.refl _) (by rw [hold_eq]; exact wrong_c s (lenT_of hc)) rfl rfl rfl rfl
  · trivial
theorem indexF_c (l : List Txt) (hl : l.length ≤ 140737488351232) (hs : ∀ s ∈ l, s.length ≤ 1000000) : ACall Tryd.prog 40 [.slice (strv l) 1 .ro, .func (.func 32) [] []] Sto.empty fun r _ => Wk r (.int .i64 (if l.all nameT then -1 else (l.findIdx (fun x => !nameT x) : Int))) := by
  refine indexF_i l _ (.of [wrongE] rfl ⟨wrong_ok, trivial⟩) ?_
  have hn : (strv l).length = l.length := strv_length l
  refine loopV_intro (α := Nat) (fun i => indexFL_S l (strv l).length i) (fun i => i ≤ l.length ∧ ∀ j (h : j < l.length), j < i → nameT l[j] = true) (fun i => l.length - i) ?_ 0 ⟨Nat.zero_le _, fun j _ h => by omega⟩
  rintro i ⟨hi, hpre⟩ L hL
  refine Eq.mpr (indexFL_r l (strv l).length i L _) ?_
  simp only [hold_eq]
  refine brV_by (fun h => ?_) (fun h => ?_)
  · have hlt : i < l.length := by have := of_decide_eq_true h; omega
    have hm := hs _ (List.getElem_mem hlt)
    rw [i64_succ hlt hl, elemAt_strv l i hlt]
    have e : AVal.strOf (List.getD [AVal.str l[i]] 0 .undef) = l[i] := rfl
    rw [e]
    refine gb_by (dt (by omega)) (gb_by rfl (gb_by (lenT_mk hm) (brV_by (fun h => ?_) (fun h => ?_))))
    · have hb : nameT l[i] = false := by simpa using h
      have h1 : ¬ l.all nameT = true := fun ha => by have := List.all_eq_true.1 ha _ (List.getElem_mem hlt); rw [hb] at this; cases this
      have h2 : l.findIdx (fun x => !nameT x) = i := by
        rw [List.findIdx_eq hlt]
        exact ⟨by rw [hb]; rfl, fun j hj => by have := hpre j (by omega) hj; simp [this]⟩
      rw [if_neg h1, h2]; exact Wk.refl _
    · have hb : nameT l[i] = true := by simpa using h
      refine hL (i + 1) ⟨hlt, fun j hj hji => ?_⟩ (by omega)
      rcases Nat.lt_or_ge j i with h9 | h9
      · exact hpre j hj h9
      · obtain rfl : j = i := by omega
        exact hb
  · have hge : i = l.length := by have := of_decide_eq_false h; omega
    have ha : l.all nameT = true := List.all_eq_true.2 fun x hx => by
      obtain ⟨j, hj, rfl⟩ := List.getElem_of_mem hx
      exact hpre j hj (by omega)
    rw [if_pos ha]; exact Wk.refl _
theorem strs_of {es : List AVal} (h : es.all strOk = true) : ∀ s ∈ es.map AVal.strOf, s.length ≤ 1000000 := by
  intro s hs
  obtain ⟨e, he, rfl⟩ := List.mem_map.1 hs
  have := List.all_eq_true.1 h e he
  unfold strOk at this
  split at this
  · exact lenT_of this
  · cases this
theorem strs_mk {l : List Txt} (h : ∀ s ∈ l, s.length ≤ 1000000) : (strv l).all strOk = true := by
  rw [List.all_eq_true]
  intro e he
  obtain ⟨s, hs, rfl⟩ := List.mem_map.1 he
  exact lenT_mk (h s hs)
theorem indexF_ok : EntOk Tryd.prog indexFE := by
  intro xs σ; simp only [indexFE]; split
  · rename_i es s t g
    intro hc
    simp only [Bool.and_eq_true] at hc
    obtain ⟨h0, h1, h2, h3, h4⟩ := hc
    have h0 := Nat.eq_of_beq_eq_true h0
    subst h0
    exact pcall_of (.cons (wk_strv t h1 h2) (.refl _)) (indexF_c _ (by simpa using lenOk_of h3) (strs_of h4)) (by simp only [noOutL, AVal.noOut, strv_noOut, Bool.and_true]) (by simp only [noTokL, AVal.noTok, strv_noTok, Bool.and_true, Tag.below]) rfl rfl
  · trivial
theorem containsF_c (l : List Txt) (hl : l.length ≤ 140737488351232) (hs : ∀ s ∈ l, s.length ≤ 1000000) : ACall Tryd.prog 31 [.slice (strv l) 1 .ro, .func (.func 32) [] []] Sto.empty fun r _ => Wk r (.bool (!l.all nameT)) := by
  refine containsF_i l _ (.of [indexFE] rfl ⟨indexF_ok, trivial⟩) ?_
  have hn : (strv l).length = l.length := strv_length l
  simp only [map_strOf_strv, hold_eq]
  intro y hy i hi
  refine gb_by (and_tt (strv_is _) (and_tt (lenOk_mk (by omega)) (strs_mk hs))) ?_
  rw [← hy]
  have : decide (0 ≤ i) = !y := by
    cases y with
    | true => rw [hi]; rfl
    | false =>
      rw [hi]
      simp
  rw [this]; exact Wk.refl _
theorem containsF_ok : EntOk Tryd.prog containsFE := by
  intro xs σ; simp only [containsFE]; split
  · rename_i es s t g
    intro hc
    simp only [Bool.and_eq_true] at hc
    obtain ⟨h0, h1, h2, h3, h4⟩ := hc
    have h0 := Nat.eq_of_beq_eq_true h0
    subst h0
    exact pcall_of (.cons (wk_strv t h1 h2) (.refl _)) (by rw [hold_eq]; exact containsF_c _ (by simpa using lenOk_of h3) (strs_of h4)) (by simp only [noOutL, AVal.noOut, strv_noOut, Bool.and_true]) (by simp only [noTokL, AVal.noTok, strv_noTok, Bool.and_true, Tag.below]) rfl rfl
  · trivial
theorem right_c (l : List Txt) (hl : l.length ≤ 140737488351232) (hs : ∀ s ∈ l, s.length ≤ 1000000) : ACall Tryd.prog 14 [.slice (strv l) 1 .ro] Sto.empty fun r _ => Wk r (.bool (l.all nameT)) := by
  refine right_i l _ (.of [containsFE] rfl ⟨containsF_ok, trivial⟩) ?_
  have hn : (strv l).length = l.length := strv_length l
  simp only [map_strOf_strv, hold_eq, Bool.not_not]
  exact gb_by (and_tt (strv_is _) (and_tt (lenOk_mk (by omega)) (strs_mk hs))) (Wk.refl _)
theorem right_ok : EntOk Tryd.prog rightE := by
  intro xs σ; simp only [rightE]; split
  · rename_i es s t
    intro hc
    simp only [Bool.and_eq_true] at hc
    obtain ⟨h1, h2, h3, h4⟩ := hc
    exact pcall_of (.cons (wk_strv t h1 h2) (.refl _)) (by rw [hold_eq]; exact right_c _ (by simpa using lenOk_of h3) (strs_of h4)) (by simp only [noOutL, AVal.noOut, strv_noOut, Bool.and_true]) (by simp only [noTokL, AVal.noTok, strv_noTok, Bool.and_true, Tag.below]) rfl rfl
  · trivial
theorem count_c (s : Txt) (hs : s.length ≤ 1000000) : ACall Tryd.prog 20 [.str s] Sto.empty fun v _ => Wk v (.int .i64 ((runeL s).length : Int)) := by
  refine count_i s _ (.of_none rfl) ?_
  refine loopV_intro (α := List Int × Nat) (fun x => countL_S s x.1.length x.2) (fun x => runeL s = x.1 ++ restR s x.2) (fun x => s.length - x.2) ?_ ([], 0) rfl
  rintro ⟨l, p⟩ g1 L hL
  simp only at g1
  have hl := runeL_len s
  refine Eq.mpr (countL_r s l.length p L _) ?_
  simp only [hold_eq]
  refine brV_by (fun h => ?_) (fun h => ?_)
  · have hp : p < s.length := of_decide_eq_true h
    rw [restR_step hp] at g1
    have hll : l.length < s.length := by rw [g1, List.length_append, List.length_cons] at hl; omega
    have nxt := hL (l ++ [decR s p], p + decW s p) (by simp only; rw [g1]; simp) (by have := decW_pos hp; simp only; omega)
    rw [List.length_append, List.length_singleton] at nxt
    rw [i64_succ hll (by omega)]
    exact nxt
  · have hp : s.length ≤ p := by have := of_decide_eq_false h; omega
    rw [restR_end hp, List.append_nil] at g1
    refine leaveTo (toCut (Eq.mpr (countF_r l.length _) ?_))
    rw [g1]; exact Wk.refl _
theorem count_ok : EntOk Tryd.prog countE := by
  intro xs σ; simp only [countE]; split
  · rename_i s
    intro hc
    exact pcall_of (.refl _) (count_c s (lenT_of hc)) rfl rfl rfl rfl
  · trivial
theorem posT_add (s : Txt) : ∀ (k p : Nat), posT s (k + 1) p = (if posT s k p < s.length then posT s k p + decW s (posT s k p) else posT s k p)
  | 0, p => by rw [posT]; rfl
  | k + 1, p => by
    by_cases h : p < s.length
    · have := posT_add s k (p + decW s p)
      rw [posT, if_pos h, this]
      have e : posT s (k + 1) p = posT s k (p + decW s p) := by rw [posT, if_pos h]
      rw [e]
    · have e1 : posT s (k + 1 + 1) p = p := by rw [posT, if_neg h]
      have e2 : posT s (k + 1) p = p := by rw [posT, if_neg h]
      rw [e1, e2, if_neg h]
theorem cut_c (s : Txt) (n : Int) (hs : s.length ≤ 1000000) (hn : -9223372036854775808 ≤ n ∧ n ≤ 9223372036854775807) : ACall Tryd.prog 21 [.str s, .int .i64 n] Sto.empty fun v _ => Wk v (.str (cutT s n)) := by
  refine cut_i s n _ (.of_none rfl) ?_
  refine loopV_intro (α := Int × Nat × Nat) (fun x => cutL_S s x.1 x.2.2) (fun x => x.2.2 = posT s x.2.1 0 ∧ (x.2.1 = 0 ∧ x.1 = n ∨ 0 ≤ x.1 ∧ x.1 = n - x.2.1 ∧ (x.2.1 : Int) ≤ n) ∧ x.2.1 ≤ x.2.2) (fun x => s.length - x.2.2) ?_ (n, 0, 0) ⟨rfl, .inl ⟨rfl, rfl⟩, Nat.le_refl _⟩
  rintro ⟨m, k, p⟩ ⟨g1, g2, g3⟩ L hL
  simp only at g1 g2 g3
  refine Eq.mpr (cutL_r s m p L _) ?_
  simp only [hold_eq]
  refine brV_by (fun h => ?_) (fun h => ?_)
  · have hp : p < s.length := of_decide_eq_true h
    refine brV_by (fun h1 => ?_) (fun h1 => ?_)
    · have h1 : m < 1 := of_decide_eq_true h1
      refine gb_by (dt (by omega)) ?_
      have e : n.toNat = k := by omega
      have : cutT s n = s.take p := by unfold cutT; rw [e, ← g1]
      rw [this]
      have e2 : Int.toNat (p : Int) - 0 = p := by omega
      rw [e2]
      exact Wk.refl _
    · have h1 : ¬ m < 1 := of_decide_eq_false h1
      have hw : IntKind.i64.wrap (m - 1) = m - 1 := wrap_i64 (by omega) (by omega)
      rw [hw]
      refine hL (m - 1, k + 1, p + decW s p) ⟨?_, .inr ⟨by simp only; omega, by simp only; omega, by simp only; omega⟩, by have := decW_pos hp; simp only; omega⟩ (by have := decW_pos hp; simp only; omega)
      simp only
      rw [posT_add, ← g1, if_pos hp]
  · have hp : s.length ≤ p := by have := of_decide_eq_false h; omega
    refine leaveTo (toCut (Eq.mpr (cutF_r s _) ?_))
    have mono : ∀ j, s.length ≤ posT s (k + j) 0 := by
      intro j
      induction j with
      | zero => rw [Nat.add_zero, ← g1]; exact hp
      | succ j ih => rw [← Nat.add_assoc, posT_add, if_neg (by omega)]; exact ih
    have e : cutT s n = s := by
      unfold cutT
      rcases g2 with ⟨h0, _⟩ | ⟨h0, h1, h2⟩
      · subst h0
        have : p = 0 := by rw [g1]; rfl
        have : s = [] := List.eq_nil_of_length_eq_zero (by omega)
        rw [this]; exact List.take_nil
      · obtain ⟨j, hj⟩ : ∃ j, n.toNat = k + j := ⟨n.toNat - k, by omega⟩
        rw [hj]; exact List.take_of_length_le (mono j)
    rw [e]; exact Wk.refl _
theorem i64r_of {n : Int} (h : i64r n = true) : -9223372036854775808 ≤ n ∧ n ≤ 9223372036854775807 := by
  unfold i64r at h; rw [hold_eq] at h; exact @of_decide_eq_true _ (_) h
theorem i64r_mk {n : Int} (h : -9223372036854775808 ≤ n ∧ n ≤ 9223372036854775807) : i64r n = true := by
  unfold i64r; rw [hold_eq]; exact @decide_eq_true _ (_) h
theorem cut_ok : EntOk Tryd.prog cutE := by
  intro xs σ; simp only [cutE]; split
  · rename_i s n
    intro hc
    rw [Bool.and_eq_true] at hc
    exact pcall_of (.refl _) (cut_c s n (lenT_of hc.1) (i64r_of hc.2)) rfl rfl rfl rfl
  · trivial
theorem nan_ok : EntOk Tryd.prog nanE := by
  intro xs σ; simp only [nanE]; split
  · rename_i r
    intro _
    refine pcall_of (.refl _) (nan_i r _ (.of_none rfl) ?_) rfl rfl rfl rfl
    rw [hold_eq, bne_self_eq_false]; exact Wk.refl _
  · trivial
theorem cmp_ok : EntOk Tryd.prog cmpE := by
  intro xs σ; simp only [cmpE]; split
  · rename_i a b
    intro _
    refine pcall_of (v := .int .i64 _) (.refl _) (cmp_i a b _ (.of [nanE] rfl ⟨nan_ok, trivial⟩) ?_) rfl rfl rfl rfl
    simp only [hold_eq]
    refine brV_by (fun h => ?_) (fun h => brV_by (fun h1 => ?_) (fun h1 => ?_))
    · rw [if_pos (of_decide_eq_true h)]; exact Wk.refl _
    · rw [if_neg (of_decide_eq_false h), if_pos (of_decide_eq_true h1)]; exact Wk.refl _
    · rw [if_neg (of_decide_eq_false h), if_neg (of_decide_eq_false h1)]; exact Wk.refl _
  · trivial
end Go.Proofs.YtkigoikknoplhaaDoor
