/-
  Seat 11 (leaf): whether a root and leaves are right, as the reference says it.
-/
import Derived.Test.YtlfnmhfmikomkaaFA
import Derived.Test.YtlfnmhfmikomkaaGa
set_option linter.unusedVariables false
set_option linter.unusedSimpArgs false
set_option maxRecDepth 20000
set_option maxHeartbeats 4000000
namespace Go.Proofs.Ytlfnmhfmikomkaa
open Go.AL

theorem rightR_c (r : Root) (ls : List Lf) (h1 : r.1.length ≤ 140737488351232) (h2 : r.2.length ≤ 140737488351232) (h3 : ls.length ≤ 140737488351232) (hs : shortL r.1 = true) (h4 : ∀ x ∈ ls, x.2.1.length ≤ 140737488351232 ∧ shortL x.2.1 = true) :
    ACall Try.prog 25 [rootV r, .slice (lfv ls) 3 .ro] Sto.empty fun v _ => Wk v (.bool (hold (rightB r ls))) := by
  refine rightR_i r ls _ (.of [rootRE, leafRE, atRE] rfl ⟨rootR_ok, leafR_ok, atR_ok, trivial⟩) ?_
  have hn2 : (iv r.2).length = r.2.length := iv_length r.2
  have hn3 : (lfv ls).length = ls.length := lfv_length _
  have hH : rootH (rootV r) = true := rootH_mk h1 h2 hs
  simp only [hold_eq, map_strOf_strv, map_intOf_iv, fold_root]
  refine gb_by hH (brV_by' (fun h => ?_) (fun h => ?_))
  case refine_2 =>
    have h : (!rootB r) = true := h
    have : rightB r ls = false := by
      rw [← Bool.not_eq_true, rightB_iff]
      rintro ⟨h', _⟩
      rw [h'] at h; cases h
    rw [this]; exact Wk.refl _
  have hb : rootB r = true := by
    have h : (!rootB r) = false := h
    simpa using h
  refine brV_by (fun h => ?_) (fun h => ?_)
  · have hne : ¬ ((lfv ls).length : Int) = ((iv r.2).length : Int) := by simpa using h
    have : rightB r ls = false := by
      rw [← Bool.not_eq_true, rightB_iff]
      rintro ⟨_, h', _⟩
      omega
    rw [this]; exact Wk.refl _
  have heq : ls.length = r.2.length := by
    have : ((lfv ls).length : Int) = ((iv r.2).length : Int) := by simpa using h
    omega
  refine loopV_intro (α := Nat) (fun i => rightRL_S r ls i) (fun i => i ≤ ls.length ∧ ∀ j, j < i → good r ls j) (fun i => ls.length - i) ?_ 0 ⟨Nat.zero_le _, fun j hj => by cases hj⟩
  rintro i ⟨hi, hpre⟩ L hL
  refine Eq.mpr (rightRL_r r ls i L _) ?_
  simp only [hold_eq]
  refine brV_by (fun h => ?_) (fun h => ?_)
  · have hlt : i < ls.length := by have := of_decide_eq_true h; omega
    obtain ⟨hx, hxs⟩ := h4 _ (List.getElem_mem hlt)
    have hl2 : i < r.2.length := by omega
    rw [elemAt_lfv ls i hlt]
    have bad : (lfB ls[i] = true → ls[i].1 = r.2[i] → (∀ s ∈ ls[i].2.1, atN r.1 s = i) → False) → rightB r ls = false := rightB_bad hlt hl2
    refine gb_by (dt (by omega)) (gb_by rfl (gb_by (lfH_mk (l := ls[i]) hx hxs) (brV_by' (fun h => ?_) (fun h => ?_))))
    case refine_2 =>
      have h : (!lfB (ls[i].1, List.map AVal.strOf (strv ls[i].2.1), ls[i].2.2)) = true := h
      rw [map_strOf_strv] at h
      rw [bad fun h' _ _ => by rw [show (ls[i].1, ls[i].2.1, ls[i].2.2) = ls[i] from rfl, h'] at h; cases h]
      exact Wk.refl _
    have g1 : lfB ls[i] = true := by
      have h : (!lfB (ls[i].1, List.map AVal.strOf (strv ls[i].2.1), ls[i].2.2)) = false := h
      rw [map_strOf_strv] at h
      simpa using h
    rw [elemAt_iv r.2 i hl2]
    refine gb_by (dt (by omega)) (gb_by rfl (gb_by (dt (by omega)) (gb_by rfl (brV_by (fun h => ?_) (fun h => ?_)))))
    · have h : (ls[i].1 != r.2[i]) = true := h
      rw [bad fun _ h' _ => by rw [h'] at h; simp at h]
      exact Wk.refl _
    have g2 : ls[i].1 = r.2[i] := by
      have h : (ls[i].1 != r.2[i]) = false := h
      simpa using h
    refine loopV_intro (α := Nat) (fun k => rightRM_S r ls i k) (fun k => k ≤ ls[i].2.1.length ∧ ∀ s ∈ ls[i].2.1.take k, atN r.1 s = i) (fun k => ls[i].2.1.length - k) ?_ 0 ⟨Nat.zero_le _, fun s hs => by simp at hs⟩
    rintro k ⟨hk, hkp⟩ L2 hL2
    refine Eq.mpr (rightRM_r r ls i k L2 _) ?_
    simp only [hold_eq]
    rw [elemAt_lfv ls i hlt]
    have hsl : (strv ls[i].2.1).length = ls[i].2.1.length := strv_length _
    refine gb_by (dt (by omega)) (gb_by rfl (brV_by (fun h => ?_) (fun h => ?_)))
    · have h : decide ((k : Int) < ((strv ls[i].2.1).length : Int)) = true := h
      have hkl : k < ls[i].2.1.length := by have := of_decide_eq_true h; omega
      have ee : elemAt (AVal.elems (List.getD (List.drop 1 (lfC ls[i])) 0 AVal.undef)) (k : Int) = [.str ls[i].2.1[k]] := elemAt_strv ls[i].2.1 k hkl
      rw [ee, i64_succ hkl hx]
      refine gb_by (dt (by omega)) (gb_by rfl (gb_by ?_ (gb_by rfl ?_)))
      · show decide ((0 : Int) ≤ (k : Int) ∧ (k : Int) < ((strv ls[i].2.1).length : Int)) = true
        exact dt (by omega)
      intro y hy
      have hy : y = atN (List.map AVal.strOf (strv r.1)) ls[i].2.1[k] := hy
      rw [map_strOf_strv] at hy
      refine gb_by hH (brV_by (fun h => ?_) (fun h => ?_))
      · have h : ¬ y = i := by
          have : ¬ (y : Int) = (i : Int) := by simpa using h
          omega
        rw [bad fun _ _ h' => h (by rw [hy]; exact h' _ (List.getElem_mem hkl))]
        exact Wk.refl _
      · have h : y = i := by
          have : (y : Int) = (i : Int) := by simpa using h
          omega
        refine hL2 (k + 1) ⟨hkl, fun s hs' => ?_⟩ (by omega)
        rw [List.take_succ_eq_append_getElem hkl] at hs'
        rcases List.mem_append.1 hs' with h5 | h5
        · exact hkp s h5
        · simp at h5; subst h5; rw [← hy]; exact h
    · have h : decide ((k : Int) < ((strv ls[i].2.1).length : Int)) = false := h
      have hkl : ¬ k < ls[i].2.1.length := by have := of_decide_eq_false h; omega
      rw [List.take_of_length_le (by omega)] at hkp
      refine leaveK (inBlock (toCut (Eq.mpr (rightRN_r r ls i _) ?_)))
      rw [i64_succ hlt h3]
      refine hL (i + 1) ⟨hlt, fun j hj => ?_⟩ (by omega)
      rcases Nat.lt_or_ge j i with h5 | h5
      · exact hpre j h5
      · obtain rfl : j = i := by omega
        exact good_mk hlt hl2 g1 g2 hkp
  · have hge : ¬ i < ls.length := by have := of_decide_eq_false h; omega
    have : rightB r ls = true := rightB_iff.2 ⟨hb, heq, fun j hj => hpre j (by omega)⟩
    rw [this]
    exact leaveTo (toCut (Eq.mpr (rightRF_r _) (Wk.refl _)))
theorem rightR_ok : EntOk Try.prog rightRE := by
  intro xs σ; simp only [rightRE]; split
  · rename_i v es s t
    intro hc
    simp only [Bool.and_eq_true] at hc
    obtain ⟨h1, h2, h3, h4, h5⟩ := hc
    obtain ⟨⟨r1, r2, r3⟩, r4⟩ := rootH_spec h1
    refine pcall_of (.cons (wk_root r1) (.cons (wk_lfs t h2 h3) (.refl _))) (rightR_c _ _ r2 r3 (by simpa using lenOk_of h4) r4 ?_) (by simp only [noOutL, AVal.noOut, root_noOut, lfv_noOut, Bool.and_true]) (by simp only [noTokL, AVal.noTok, root_noTok, lfv_noTok, Bool.and_true, Tag.below]) rfl rfl
    intro x hx
    obtain ⟨e, he, rfl⟩ := List.mem_map.1 hx
    obtain ⟨⟨_, g1⟩, g2⟩ := lfH_spec (List.all_eq_true.1 h5 e he)
    exact ⟨g1, g2⟩
  · trivial
end Go.Proofs.Ytlfnmhfmikomkaa
