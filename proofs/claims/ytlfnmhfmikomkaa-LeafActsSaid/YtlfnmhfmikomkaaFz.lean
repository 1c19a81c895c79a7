/-
  Seat 11 (leaf): the laws' own functions.
-/
import Derived.Test.YtlfnmhfmikomkaaFy
import Derived.Test.YtlfnmhfmikomkaaFx
set_option linter.unusedVariables false
set_option linter.unusedSimpArgs false
set_option maxRecDepth 20000
set_option maxHeartbeats 4000000
namespace Go.Proofs.Ytlfnmhfmikomkaa
open Go.AL

theorem lawTexts_c (l : List Txt) (hl : l.length ≤ 140737488351232) : ACall Try.prog 44 [.slice (strv l) 1 .ro] Sto.empty fun r _ => Wk r (.bool (hold (textsB l))) := by
  refine lawTexts_i l _ (.of_none rfl) ?_
  have hn : (strv l).length = l.length := strv_length l
  simp only [hold_eq]
  refine brV_by (fun h => ?_) (fun h => ?_)
  · have hb : textsB l = false := by
      have := of_decide_eq_true h
      rw [← Bool.not_eq_true, textsB_iff]
      omega
    rw [hb]; exact Wk.refl _
  have h30 : l.length ≤ 30 := by have := of_decide_eq_false h; omega
  refine loopV_intro (α := Nat) (fun i => lawTextsL_S l i) (fun i => i ≤ l.length ∧ ∀ y ∈ l.take i, y.length ≤ 700) (fun i => l.length - i) ?_ 0 ⟨Nat.zero_le _, fun x hx => by simp at hx⟩
  rintro i ⟨hi, hpre⟩ L hL
  refine Eq.mpr (lawTextsL_r l i L _) ?_
  simp only [hold_eq]
  refine brV_by (fun h => ?_) (fun h => ?_)
  · have hlt : i < l.length := by have := of_decide_eq_true h; omega
    rw [i64_succ hlt hl, elemAt_strv l i hlt]
    refine gb_by (dt (by omega)) (gb_by rfl (brV_by (fun h => ?_) (fun h => ?_)))
    · have h7 : 700 < (l[i]).length := by
        have h : (700 : Int) < ((l[i]).length : Int) := of_decide_eq_true h
        omega
      have hb : textsB l = false := by
        rw [← Bool.not_eq_true, textsB_iff]
        rintro ⟨_, h'⟩
        have := h' _ (List.getElem_mem hlt)
        omega
      rw [hb]; exact Wk.refl _
    · have h7 : (l[i]).length ≤ 700 := by
        have h : ¬ (700 : Int) < ((l[i]).length : Int) := of_decide_eq_false h
        omega
      refine hL (i + 1) ⟨hlt, fun y hy => ?_⟩ (by omega)
      rw [List.take_succ_eq_append_getElem hlt] at hy
      rcases List.mem_append.1 hy with h1 | h1
      · exact hpre y h1
      · simp at h1; subst h1; exact h7
  · have hge : ¬ i < l.length := by have := of_decide_eq_false h; omega
    rw [List.take_of_length_le (by omega)] at hpre
    have hb : textsB l = true := textsB_iff.2 ⟨h30, hpre⟩
    rw [hb]
    exact leaveTo (toCut (Eq.mpr (lawTextsF_r _) (Wk.refl _)))
theorem lawTexts_ok : EntOk Try.prog lawTextsE := by
  intro xs σ; simp only [lawTextsE]; split
  · rename_i es s t
    intro hc
    simp only [Bool.and_eq_true, hold_eq] at hc
    obtain ⟨h1, h2, h3⟩ := hc
    exact pcall_of (.cons (wk_strv t h1 h2) (.refl _)) (lawTexts_c _ (by simpa using lenOk_of h3)) (by simp only [noOutL, AVal.noOut, strv_noOut, Bool.and_true]) (by simp only [noTokL, AVal.noTok, strv_noTok, Bool.and_true, Tag.below]) rfl rfl
  · trivial

theorem small_c (r : Root) (ls : List Lf) (h1 : r.1.length ≤ 140737488351232) (h2 : r.2.length ≤ 140737488351232) (h3 : ls.length ≤ 140737488351232) (h4 : ∀ x ∈ ls, x.2.1.length ≤ 140737488351232) :
    ACall Try.prog 17 [rootV r, .slice (lfv ls) 3 .ro] Sto.empty fun v _ => Wk v (.bool (hold (smallB r ls))) := by
  refine small_i r ls _ (.of [lawTextsE] rfl ⟨lawTexts_ok, trivial⟩) ?_
  have hn1 : (strv r.1).length = r.1.length := strv_length _
  have hn2 : (iv r.2).length = r.2.length := iv_length _
  have hn3 : (lfv ls).length = ls.length := lfv_length _
  simp only [hold_eq, map_strOf_strv]
  have no : ¬ (textsB r.1 = true ∧ r.2.length ≤ 40 ∧ ls.length ≤ 40 ∧ ∀ l ∈ ls, textsB l.2.1 = true) → Wk (.bool false) (.bool (smallB r ls)) := fun h => by
    have : smallB r ls = false := by rw [← Bool.not_eq_true, smallB_iff]; exact h
    rw [this]; exact Wk.refl _
  refine gb_by (and_tt (strv_is _) (lenOk_mk (by omega))) (brV_by' (fun h => ?_) (fun h => no ?_))
  case refine_2 =>
    have h : textsB r.1 = false := by
      have h : (!textsB r.1) = true := h
      simpa using h
    rw [h]; simp
  have t1 : textsB r.1 = true := by
    have h : (!textsB r.1) = false := h
    simpa using h
  refine brV_by' (fun h => ?_) (fun h => no ?_)
  case refine_2 =>
    have := of_decide_eq_true h
    omega
  have t2 : r.2.length ≤ 40 := by have := of_decide_eq_false h; omega
  refine brV_by (fun h => no ?_) (fun h => ?_)
  · have := of_decide_eq_true h
    omega
  have t3 : ls.length ≤ 40 := by have := of_decide_eq_false h; omega
  refine loopV_intro (α := Nat) (fun i => smallL_S r ls i) (fun i => i ≤ ls.length ∧ ∀ y ∈ ls.take i, textsB y.2.1 = true) (fun i => ls.length - i) ?_ 0 ⟨Nat.zero_le _, fun x hx => by simp at hx⟩
  rintro i ⟨hi, hpre⟩ L hL
  refine Eq.mpr (smallL_r r ls i L _) ?_
  simp only [hold_eq]
  refine brV_by (fun h => ?_) (fun h => ?_)
  · have hlt : i < ls.length := by have := of_decide_eq_true h; omega
    rw [i64_succ hlt h3, elemAt_lfv ls i hlt]
    have hx := h4 _ (List.getElem_mem hlt)
    refine gb_by (dt (by omega)) (gb_by rfl (gb_by (and_tt (strv_is _) (lenOk_mk (by rw [← strv_length] at hx; exact hx))) (brV_by (fun h => ?_) (fun h => ?_))))
    · have h : (!textsB (List.map AVal.strOf (strv (ls[i]).2.1))) = true := h
      rw [map_strOf_strv] at h
      have h7 : textsB (ls[i]).2.1 = false := by simpa using h
      exact no (fun hh => by
        have := hh.2.2.2 _ (List.getElem_mem hlt)
        rw [h7] at this; cases this)
    · have h : (!textsB (List.map AVal.strOf (strv (ls[i]).2.1))) = false := h
      rw [map_strOf_strv] at h
      have h7 : textsB (ls[i]).2.1 = true := by simpa using h
      refine hL (i + 1) ⟨hlt, fun y hy => ?_⟩ (by omega)
      rw [List.take_succ_eq_append_getElem hlt] at hy
      rcases List.mem_append.1 hy with h1 | h1
      · exact hpre y h1
      · simp at h1; subst h1; exact h7
  · have hge : ¬ i < ls.length := by have := of_decide_eq_false h; omega
    rw [List.take_of_length_le (by omega)] at hpre
    have hb : smallB r ls = true := smallB_iff.2 ⟨t1, t2, t3, hpre⟩
    rw [hb]
    exact leaveTo (toCut (Eq.mpr (smallF_r _) (Wk.refl _)))
theorem small_ok : EntOk Try.prog smallE := by
  intro xs σ; simp only [smallE]; split
  · rename_i v es s t
    intro hc
    simp only [Bool.and_eq_true] at hc
    obtain ⟨h1, h2, h3, h4, h5⟩ := hc
    obtain ⟨r1, r2, r3⟩ := rootG_spec h1
    refine pcall_of (.cons (wk_root r1) (.cons (wk_lfs t h2 h3) (.refl _))) (small_c _ _ r2 r3 (by simpa using lenOk_of h4) ?_) (by simp only [noOutL, AVal.noOut, root_noOut, lfv_noOut, Bool.and_true]) (by simp only [noTokL, AVal.noTok, root_noTok, lfv_noTok, Bool.and_true, Tag.below]) rfl rfl
    intro x hx
    obtain ⟨e, he, rfl⟩ := List.mem_map.1 hx
    exact (lfG_spec (List.all_eq_true.1 h5 e he)).2
  · trivial

theorem awake_c : ACall Try.prog 9 [] Sto.empty fun r _ => Wk r (.bool true) := by
  refine awake_i _ (.of [insertE, sameRootE, sameE] rfl ⟨insert_ok, sameRoot_ok, same_ok, trivial⟩) ?_
  intro y hy
  subst hy
  simp only [hold_eq, map_strOf_strv, map_intOf_iv, map_lfOf, beq_self_eq_true]
  refine gb_by ?_ (brV_by (fun _ => gb_by ?_ (brV_by (fun _ => gb_by ?_ (Wk.refl _)) (fun h => by cases h))) (fun h => by cases h))
  · simp [rootM, lfM, rootIs, lfIs, rootOf, lfOf, okW, strIs, isI64]
  · refine and_tt (rootG_mk (r := ([[100]], [1, 2])) (by decide) (by decide)) ?_
    simp [rootG, rootIs, rootOf, okW, strIs, isI64, lenOk]
  · refine and_tt (lfv_is _) (and_tt (lenOk_mk (by decide)) ?_)
    simp [lfv, lfG_mk]
theorem awake_ok : EntOk Try.prog awakeE := by
  intro xs σ; simp only [awakeE]; split
  · intro hc
    exact pcall_of (.refl _) awake_c rfl rfl rfl rfl
  · trivial
theorem fits_strv {b : Nat} {a : AVal} (h : Fits (.slice .str 1 b) a) : ∃ l : List Txt, a = .slice (strv l) 1 .ro ∧ l.length * b ≤ 140737488351232 := by
  obtain ⟨es, rfl, h1, h2⟩ := h
  obtain ⟨ls, rfl, hx⟩ := map_of (f := AVal.str) (P := fun s => s.length ≤ 140737488351232) fun e he => by
    obtain ⟨s, h3, h4⟩ := h2 e he
    exact ⟨s, h3, h4⟩
  exact ⟨ls, rfl, by simpa using h1⟩
theorem fits_root {a : AVal} (h : Fits (.agg [.slice .str 1 16, .slice (.int .i64) 1 8]) a) : ∃ r : Root, a = rootV r ∧ r.1.length ≤ 140737488351232 / 16 ∧ r.2.length ≤ 140737488351232 / 8 := by
  obtain ⟨cs, rfl, a1, t1, rfl, h1, a2, t2, rfl, h2, rfl⟩ := h
  obtain ⟨l1, rfl, b1⟩ := fits_strv h1
  obtain ⟨l2, rfl, b2, _⟩ := fits_iv h2
  exact ⟨(l1, l2), rfl, by show l1.length ≤ _; omega, by show l2.length ≤ _; omega⟩
theorem fits_lf {a : AVal} (h : Fits (.agg [.int .i64, .slice .str 1 16, .bool]) a) : ∃ l : Lf, a = lfV l ∧ l.2.1.length ≤ 140737488351232 / 16 := by
  obtain ⟨cs, rfl, a1, t1, rfl, h1, a2, t2, rfl, h2, a3, t3, rfl, h3, rfl⟩ := h
  obtain ⟨n, rfl, _, _⟩ := h1
  obtain ⟨l2, rfl, b2⟩ := fits_strv h2
  obtain ⟨b, rfl⟩ := h3
  exact ⟨(n, l2, b), rfl, by show l2.length ≤ _; omega⟩

end Go.Proofs.Ytlfnmhfmikomkaa
