/-
  Seat 01 (letter): contracts: the order of texts, runes, texts of runes.
-/
import Derived.Test.YtkigoikknoplhaaDoorQc
import Derived.Test.YtkigoikknoplhaaDoorQu
namespace Go.Proofs.YtkigoikknoplhaaDoor
open Go.AL
set_option linter.unusedSimpArgs false
set_option linter.unusedVariables false
set_option maxHeartbeats 2000000
set_option maxRecDepth 20000

theorem compareS_c (a b : List Int) (ha : a.length ≤ 140737488351232) (hb : b.length ≤ 140737488351232) : ACall Tryd.prog 39 [.slice (rv a) 1 .ro, .slice (rv b) 1 .ro] Sto.empty fun v _ => Wk v (.int .i64 (cmpR a b)) := by
  refine compareS_i a b _ (.of [cmpE] rfl ⟨cmp_ok, trivial⟩) ?_
  have hn : (rv a).length = a.length := rv_length a
  have hm : (rv b).length = b.length := rv_length b
  refine loopV_intro (α := Nat) (fun i => compareSL_S a b (rv a).length i) (fun i => cmpR a b = cmpR (a.drop i) (b.drop i) ∧ i ≤ a.length ∧ i ≤ b.length) (fun i => a.length - i) ?_ 0 ⟨rfl, Nat.zero_le _, Nat.zero_le _⟩
  rintro i ⟨hc, hi, hj⟩ L hL
  refine Eq.mpr (compareSL_r a b (rv a).length i L _) ?_
  simp only [hold_eq]
  refine brV_by (fun h => ?_) (fun h => ?_)
  · have hlt : i < a.length := by have := of_decide_eq_true h; omega
    rw [elemAt_rv a i hlt, List.drop_eq_getElem_cons hlt] at *
    refine gb_by (dt (by omega)) (gb_by rfl (brV_by (fun h1 => ?_) (fun h1 => ?_)))
    · have h1 := of_decide_eq_true h1
      have : b.drop i = [] := List.drop_eq_nil_of_le (by omega)
      rw [this] at hc
      rw [hc]; exact Wk.refl _
    · have h1 := of_decide_eq_false h1
      have hl2 : i < b.length := by omega
      rw [elemAt_rv b i hl2]
      rw [List.drop_eq_getElem_cons hl2] at hc
      refine gb_by (dt (by omega)) (gb_by rfl ?_)
      intro y hy
      have e1 : AVal.intOf (List.getD [AVal.int .i32 a[i]] 0 .undef) = a[i] := rfl
      have e2 : AVal.intOf (List.getD [AVal.int .i32 b[i]] 0 .undef) = b[i] := rfl
      rw [e1, e2] at hy
      rw [cmpR] at hc
      refine brV_by (fun h2 => ?_) (fun h2 => ?_)
      · have h2 : y ≠ 0 := by simpa using h2
        have : cmpR a b = y := by
          rw [hc, hy]
          split
          · rfl
          · rename_i g1
            rw [if_neg g1] at hy
            split
            · rfl
            · rename_i g2
              rw [if_neg g2] at hy
              exact absurd hy h2
        rw [this]; exact Wk.refl _
      · have h2 : y = 0 := by simpa using h2
        have : cmpR a b = cmpR (a.drop (i + 1)) (b.drop (i + 1)) := by
          rw [hc]
          split
          · rename_i g1; rw [if_pos g1] at hy; omega
          · rename_i g1; rw [if_neg g1] at hy
            split
            · rename_i g2; rw [if_pos g2] at hy; omega
            · rfl
        refine toCut (Eq.mpr (compareSI_r a b (rv a).length i _) ?_)
        rw [i64_succ hlt (by omega)]
        exact hL (i + 1) ⟨this, hlt, hl2⟩ (by omega)
  · have h := of_decide_eq_false h
    have : a.drop i = [] := List.drop_eq_nil_of_le (by omega)
    rw [this] at hc
    refine leaveTo (toCut (Eq.mpr (compareSF_r a b _) ?_))
    simp only [hold_eq]
    refine brV_by (fun h1 => ?_) (fun h1 => ?_)
    · have h1 := of_decide_eq_true h1
      have hl2 : i < b.length := by omega
      rw [List.drop_eq_getElem_cons hl2] at hc
      rw [hc]; exact Wk.refl _
    · have h1 := of_decide_eq_false h1
      have : b.drop i = [] := List.drop_eq_nil_of_le (by omega)
      rw [this] at hc
      rw [hc]; exact Wk.refl _
theorem compareS_ok : EntOk Tryd.prog compareSE := by
  intro xs σ; simp only [compareSE]; split
  · rename_i es s t fs s' t'
    intro hc
    simp only [Bool.and_eq_true] at hc
    obtain ⟨h1, h2, h3, h4, h5, h6⟩ := hc
    refine pcall_of (v := .int .i64 _) (.cons (wk_rv t h1 h3) (.cons (wk_rv t' h2 h4) (.refl _))) (compareS_c _ _ (by simpa using lenOk_of h5) (by simpa using lenOk_of h6)) ?_ ?_ rfl rfl
    · simp only [noOutL, AVal.noOut, rv_noOut, Bool.and_true]
    · simp only [noTokL, AVal.noTok, rv_noTok, Bool.and_true, Tag.below]
  · trivial
theorem compare_c (a b : Txt) (ha : a.length ≤ 1000000) (hb : b.length ≤ 1000000) : ACall Tryd.prog 28 [.str a, .str b] Sto.empty fun v _ => Wk v (.int .i64 (cmpR (runeL a) (runeL b))) := by
  refine compare_i a b _ (.of [compareSE] rfl ⟨compareS_ok, trivial⟩) ?_
  have h1 := runeL_len a
  have h2 := runeL_len b
  refine gb_by (dt (by omega)) (gb_by (dt (by omega)) ?_)
  intro y hy
  have e : ∀ l : List Int, List.map (AVal.int .i32) l = rv l := fun _ => rfl
  simp only [e, map_intOf_rv] at hy ⊢
  refine gb_by (and_tt (rv_is _) (and_tt (rv_is _) (and_tt (lenOk_mk ?_) (lenOk_mk ?_)))) ?_
  · rw [rv_length]; omega
  · rw [rv_length]; omega
  · rw [hy]; exact Wk.refl _
theorem compare_ok : EntOk Tryd.prog compareE := by
  intro xs σ; simp only [compareE]; split
  · rename_i a b
    intro hc
    rw [Bool.and_eq_true] at hc
    exact pcall_of (v := .int .i64 _) (.refl _) (compare_c a b (lenT_of hc.1) (lenT_of hc.2)) rfl rfl rfl rfl
  · trivial
theorem runes_c (s : Txt) (hs : s.length ≤ 1000000) : ACall Tryd.prog 16 [.str s] Sto.empty fun v _ => Wk v (.slice (rv (runeL s)) 1 .ro) := by
  refine runes_i s _ (.of_none rfl) ?_
  have hl := runeL_len s
  refine loopV_intro (α := List Int × Nat) (fun x => runesL_S s x.1 x.2) (fun x => runeL s = x.1 ++ restR s x.2) (fun x => s.length - x.2) ?_ ([], 0) rfl
  rintro ⟨l, p⟩ g1 L hL
  simp only at g1
  refine Eq.mpr (runesL_r s l p L _) ?_
  simp only [hold_eq]
  have hll : l.length ≤ s.length := by rw [g1, List.length_append] at hl; omega
  have hrl : (rv l).length = l.length := rv_length l
  refine brV_by (fun h => ?_) (fun h => ?_)
  · have hp : p < s.length := of_decide_eq_true h
    rw [restR_step hp] at g1
    have nxt := hL (l ++ [decR s p], p + decW s p) (by simp only; rw [g1]; simp) (by have := decW_pos hp; simp only; omega)
    refine gb_by (dt ⟨dt ⟨trivial, trivial, by omega, by omega⟩, trivial⟩) ?_
    rw [setOwn_e1]
    have e : rv l ++ [AVal.int .i32 (decR s p)] = rv (l ++ [decR s p]) := by simp [rv]
    have e2 : (rv l).length + 1 = (rv (l ++ [decR s p])).length := by simp
    rw [e, e2]
    exact nxt
  · have hp : s.length ≤ p := by have := of_decide_eq_false h; omega
    rw [restR_end hp, List.append_nil] at g1
    refine leaveTo (toCut (Eq.mpr (runesF_r l _) ?_))
    rw [g1]; exact Wk.ro _ _ _
theorem runes_ok : EntOk Tryd.prog runesE := by
  intro xs σ; simp only [runesE]; split
  · rename_i s
    intro hc
    exact pcall_of (v := .slice (rv (runeL s)) 1 .ro) (.refl _) (runes_c s (lenT_of hc)) rfl rfl (by simp only [AVal.noOut, rv_noOut]) (by simp only [AVal.noTok, rv_noTok, Tag.below, Bool.and_true])
  · trivial
theorem text_c (l : List Int) (hl : l.length ≤ 1000000) : ACall Tryd.prog 27 [.slice (rv l) 1 .ro] Sto.empty fun v _ => Wk v (.str (txtR l)) := by
  refine text_i l _ (.of_none rfl) ?_
  have hrl : (rv l).length = l.length := rv_length l
  refine loopV_intro (α := Nat) (fun i => textL_S l (txtR (l.take i)) i) (fun i => i ≤ l.length) (fun i => l.length - i) ?_ 0 (Nat.zero_le _)
  rintro i hi L hL
  refine Eq.mpr (textL_r l (txtR (l.take i)) i L _) ?_
  simp only [hold_eq]
  refine brV_by (fun h => ?_) (fun h => ?_)
  · have hlt : i < l.length := by have := of_decide_eq_true h; omega
    rw [elemAt_rv l i hlt, i64_succ hlt (by omega)]
    have e1 : AVal.intOf (List.getD [AVal.int .i32 l[i]] 0 .undef) = l[i] := rfl
    have := txtR_len (l.take i)
    have htl : (l.take i).length = i := by rw [List.length_take]; omega
    have := encA_len l[i]
    refine gb_by (dt (by omega)) (gb_by rfl ?_)
    rw [e1]
    refine gb_by (dt (by omega)) ?_
    rw [← txtR_take l i hlt]
    exact hL (i + 1) hlt (by omega)
  · have hi' : i = l.length := by have := of_decide_eq_false h; omega
    subst hi'
    rw [List.take_length]
    refine leaveTo (toCut (Eq.mpr (textF_r (txtR l) _) ?_))
    exact Wk.refl _
theorem text_ok : EntOk Tryd.prog textE := by
  intro xs σ; simp only [textE]; split
  · rename_i es s t
    intro hc
    simp only [Bool.and_eq_true] at hc
    obtain ⟨h1, h2, h3⟩ := hc
    rw [hold_eq] at h3
    refine pcall_of (v := .str _) (.cons (wk_rv t h1 h2) (.refl _)) (text_c _ (by simpa using of_decide_eq_true h3)) ?_ ?_ rfl rfl
    · simp only [noOutL, AVal.noOut, rv_noOut, Bool.and_true]
    · simp only [noTokL, AVal.noTok, rv_noTok, Bool.and_true, Tag.below]
  · trivial
end Go.Proofs.YtkigoikknoplhaaDoor
