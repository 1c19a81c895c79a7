/-
  Seat 10 (chunk): contracts: the laws' own functions.
-/
import Derived.Test.YtjdjecaclbdhhaaCu
namespace Go.Proofs.Ytjdjecaclbdhhaa
open Go.AL
set_option linter.unusedSimpArgs false
set_option linter.unusedVariables false
set_option maxHeartbeats 2000000
set_option maxRecDepth 20000

theorem smallC_iff {l : List Ck} : smallC l = true ↔ l.length ≤ 40 ∧ ∀ c ∈ l, c.2.1.length ≤ 20 := by simp [smallC]
theorem small_c (l : List Ck) (hl : l.length ≤ 140737488351232) : ACall Try.prog 14 [.slice (ckv l) 4 .ro] Sto.empty fun v _ => Wk v (.bool (smallC l)) := by
  refine small_i l _ (.of_none rfl) ?_
  have hn : (ckv l).length = l.length := ckv_length l
  have no : ¬ (l.length ≤ 40 ∧ ∀ c ∈ l, c.2.1.length ≤ 20) → Wk (.bool false) (.bool (smallC l)) := fun h => by
    have : smallC l = false := by rw [← Bool.not_eq_true, smallC_iff]; exact h
    rw [this]; exact Wk.refl _
  simp only [hold_eq]
  refine brV_by (fun h => no fun hh => by have := of_decide_eq_true h; have := hh.1; omega) (fun h => ?_)
  have h40 : l.length ≤ 40 := by have := of_decide_eq_false h; omega
  refine loopV_intro (α := Nat) (fun i => smallL_S l i) (fun i => i ≤ l.length ∧ ∀ c ∈ l.take i, c.2.1.length ≤ 20) (fun i => l.length - i) ?_ 0 ⟨Nat.zero_le _, fun x hx => by simp at hx⟩
  rintro i ⟨hi, hpre⟩ L hL
  refine Eq.mpr (smallL_r l i L _) ?_
  simp only [hold_eq]
  refine brV_by (fun h => ?_) (fun h => ?_)
  · have hlt : i < l.length := by have := of_decide_eq_true h; omega
    have hiv : (iv l[i].2.1).length = l[i].2.1.length := iv_length _
    have ee : AVal.elems (List.getD (List.drop 1 (ckC l[i])) 0 .undef) = iv l[i].2.1 := rfl
    rw [i64_succ hlt (by omega), elemAt_ckv l i hlt, ee]
    refine gb_by (dt (by omega)) (gb_by rfl (brV_by (fun h => no fun hh => ?_) (fun h => ?_)))
    · have := of_decide_eq_true h
      have := hh.2 _ (List.getElem_mem hlt)
      omega
    · have h20 : l[i].2.1.length ≤ 20 := by have := of_decide_eq_false h; omega
      refine hL (i + 1) ⟨hlt, fun c hc => ?_⟩ (by omega)
      rw [List.take_succ_eq_append_getElem hlt] at hc
      rcases List.mem_append.1 hc with h1 | h1
      · exact hpre c h1
      · rw [List.mem_singleton] at h1; rw [h1]; exact h20
  · have hge : i = l.length := by have := of_decide_eq_false h; omega
    rw [hge, List.take_length] at hpre
    have : smallC l = true := smallC_iff.2 ⟨h40, hpre⟩
    rw [this]
    exact leaveTo (toCut (Eq.mpr (smallF_r _) (Wk.refl _)))
theorem small_ok : EntOk Try.prog smallE := by
  intro xs σ; simp only [smallE]; split
  · rename_i es s t
    intro hc
    simp only [Bool.and_eq_true] at hc
    obtain ⟨h1, h2, h3⟩ := hc
    exact pcall_of (.cons (wk_cks t h1 h2) (.refl _)) (by rw [hold_eq]; exact small_c _ (by simpa using lenOk_of h3)) (by simp only [noOutL, AVal.noOut, ckv_noOut, Bool.and_true]) (by simp only [noTokL, AVal.noTok, ckv_noTok, Bool.and_true, Tag.below]) rfl rfl
  · trivial
theorem own_oneC (o : List Ck) (x : Ck) : Sto.setOwn (Sto.pushOwn Sto.empty (ckv o).length) 0 ((ckv o).length + 1) = Sto.pushOwn Sto.empty (ckv (o ++ [x])).length := by
  rw [setOwn_e1, ← ckv_one, List.length_append]; rfl
theorem copied_c (l : List Ck) (hl : l.length ≤ 1000000) (hm : ∀ c ∈ l, c.2.1.length ≤ 1000000) : ACall Try.prog 15 [.slice (ckv l) 4 .ro] Sto.empty fun v _ => Wk v (.slice (ckv l) 4 .ro) := by
  refine copied_i l _ (.of_none rfl) ?_
  have hn : (ckv l).length = l.length := ckv_length l
  refine loopV_intro (α := List Ck × Nat) (fun s => copiedL_S l s.1 s.2) (fun s => s.2 ≤ l.length ∧ s.1 = l.take s.2) (fun s => l.length - s.2) ?_ ([], 0) ⟨Nat.zero_le _, rfl⟩
  rintro ⟨o, i⟩ ⟨g1, g2⟩ L hL
  simp only at g1 g2
  have hov : (ckv o).length = o.length := ckv_length o
  have hol : o.length = i := by rw [g2, List.length_take]; omega
  refine Eq.mpr (copiedL_r l o i L _) ?_
  simp only [hold_eq]
  refine brV_by (fun h => ?_) (fun h => ?_)
  · have hlt : i < l.length := by have := of_decide_eq_true h; omega
    have hcm := hm _ (List.getElem_mem hlt)
    have hiv : (iv l[i].2.1).length = l[i].2.1.length := iv_length _
    have ee : AVal.elems (List.getD (ckC l[i]) 1 .undef) = iv l[i].2.1 := rfl
    have e2 : ckv o ++ [.agg [.int .i64 (AVal.intOf (List.getD (ckC l[i]) 0 .undef)), .slice (iv l[i].2.1) 1 .ro, .int .i64 (AVal.intOf (List.getD (ckC l[i]) 2 .undef)), .bool (AVal.boolOf (List.getD (ckC l[i]) 3 .undef))]] = ckv (o ++ [l[i]]) := ckv_one o l[i]
    rw [i64_succ hlt (by omega), elemAt_ckv l i hlt, ee]
    refine gb_by (dt (by omega)) (gb_by rfl (gb_by (dt ⟨dt ⟨trivial, by omega, by omega⟩, trivial⟩) (gb_by (dt ⟨dt ⟨trivial, trivial, by omega, by omega⟩, trivial⟩) ?_)))
    rw [own_oneC o l[i], e2]
    exact hL (o ++ [l[i]], i + 1) ⟨hlt, by simp only; rw [g2, List.take_succ_eq_append_getElem hlt]⟩ (by simp only; omega)
  · have hge : i = l.length := by have := of_decide_eq_false h; omega
    rw [hge, List.take_length] at g2
    rw [← g2]
    exact leaveTo (toCut (Eq.mpr (copiedF_r _ _) (Wk.ro _ _ _)))
theorem copied_ok : EntOk Try.prog copiedE := by
  intro xs σ; simp only [copiedE]; split
  · rename_i es s t
    intro hc
    simp only [Bool.and_eq_true] at hc
    obtain ⟨h1, h2, h3, h4⟩ := hc
    exact pcall_of (.cons (wk_cks t h1 h2) (.refl _)) (copied_c _ (by simpa using lenM_of h3) (ckM_of h4)) (by simp only [noOutL, AVal.noOut, ckv_noOut, Bool.and_true]) (by simp only [noTokL, AVal.noTok, ckv_noTok, Bool.and_true, Tag.below]) (by simp only [AVal.noOut, ckv_noOut]) (by simp only [AVal.noTok, ckv_noTok, Tag.below, Bool.and_true])
  · trivial
theorem awake_c : ACall Try.prog 8 [] Sto.empty fun r _ => Wk r (.bool true) := by
  refine awake_i _ (.of [insertE, sameE] rfl ⟨insert_ok, same_ok, trivial⟩) ?_
  intro y hy
  subst hy
  refine gb_by (and_tt (lenM_mk (by decide)) rfl) ?_
  intro z hz
  subst hz
  have m1 : ((ckv [((0 : Int), [(5 : Int)], (0 : Int), false)]).all ckIs && (lenM (ckv [((0 : Int), [(5 : Int)], (0 : Int), false)]).length && (ckv [((0 : Int), [(5 : Int)], (0 : Int), false)]).all ckM)) = true := conds (by decide) (by simp)
  have m2 : ((ckv [((0 : Int), [(1 : Int), 2, 3], (1 : Int), false), (1, [4, 5], 0, false)]).all ckIs && (lenM (ckv [((0 : Int), [(1 : Int), 2, 3], (1 : Int), false), (1, [4, 5], 0, false)]).length && (ckv [((0 : Int), [(1 : Int), 2, 3], (1 : Int), false), (1, [4, 5], 0, false)]).all ckM)) = true := conds (by decide) (by simp)
  simp only [hold_eq, map_ckOf, beq_self_eq_true, brV_tt]
  refine gb_by (and_tt (lenM_mk (by decide)) ?_) (gb_by m1 (gb_by m2 (Wk.refl _)))
  simp [ckM, ckIs, ckOf, okW, isI64, lenM]
theorem awake_ok : EntOk Try.prog awakeE := by
  intro xs σ; simp only [awakeE]; split
  · intro hc
    exact pcall_of (.refl _) (by rw [hold_eq]; exact awake_c) rfl rfl rfl rfl
  · trivial
theorem fits_ck {a : AVal} (h : Fits (.agg [.int .i64, .slice (.int .i64) 1 8, .int .i64, .bool]) a) : ∃ c : Ck, a = ckV c ∧ c.2.1.length ≤ 140737488351232 / 8 := by
  obtain ⟨cs, rfl, a1, t1, rfl, h1, a2, t2, rfl, h2, a3, t3, rfl, h3, a4, t4, rfl, h4, rfl⟩ := h
  obtain ⟨n, rfl, _, _⟩ := h1
  obtain ⟨l2, rfl, b2, _⟩ := fits_iv h2
  obtain ⟨m, rfl, _, _⟩ := h3
  obtain ⟨b, rfl⟩ := h4
  exact ⟨(n, l2, m, b), rfl, by show l2.length ≤ _; omega⟩
theorem fits_ckv {b : Nat} {a : AVal} (h : Fits (.slice (.agg [.int .i64, .slice (.int .i64) 1 8, .int .i64, .bool]) 4 b) a) : ∃ l : List Ck, a = .slice (ckv l) 4 .ro ∧ l.length * b ≤ 140737488351232 := by
  obtain ⟨es, rfl, h1, h2⟩ := h
  obtain ⟨ls, rfl, hx⟩ := map_of (f := ckV) (P := fun c => c.2.1.length ≤ 140737488351232 / 8) fun e he => by
    obtain ⟨s, h3, h4⟩ := fits_ck (h2 e he)
    exact ⟨s, h3, h4⟩
  exact ⟨ls, rfl, by simpa using h1⟩
/-! ### What laying and taking out hand back -/
theorem insK_le (l : List Ck) (x : Int) : (insK l x).1.length ≤ 2 ∧ ∀ c ∈ (insK l x).1, c.2.1.length ≤ 4 := by
  by_cases hR : rightC l = true
  · obtain ⟨p, hG, rfl⟩ := good_right hR
    by_cases hA : x < 0 ∨ 1099511627776 ≤ x
    · have e : insK (mkC p) x = ([], 2) := by unfold insK; rw [if_pos hR, if_pos hA]
      rw [e]; simp
    · by_cases hm : x ∈ idsP p
      · rw [insK_twice hG (by omega) (by omega) hm]; simp
      · obtain ⟨ch, p', e, ⟨h1, h2, h3⟩, _⟩ := insK_apply hG (show 0 ≤ x by omega) (by omega) hm
        rw [e]; exact ⟨h2, h3⟩
  · have e : insK l x = ([], 100) := by unfold insK; rw [if_neg hR]
    rw [e]; simp
theorem remK_none {p : List Pt} (hG : GoodC p) {x : Int} (hm : x ∉ idsP p) : remK (mkC p) x = ([], 101) := by
  have hno : (((mkC p).getD (placeC (mkC p) x) ck0).2.1).contains x = false := by
    by_cases hlt : placeC (mkC p) x < p.length
    · rw [getD_mkC p _ hlt]
      cases hh : p[placeC (mkC p) x].2.contains x with
      | false => rfl
      | true => exact (hm (mem_idsP.2 ⟨_, List.getElem_mem hlt, List.contains_iff_mem.1 hh⟩)).elim
    · rw [List.getD_eq_getElem?_getD, List.getElem?_eq_none (by rw [mkC_length]; omega)]; rfl
  unfold remK
  rw [if_pos hG.right]
  simp only [hno]
  rfl
theorem remK_le (l : List Ck) (x : Int) : (remK l x).1.length ≤ 2 ∧ ∀ c ∈ (remK l x).1, c.2.1.length ≤ 4 := by
  by_cases hR : rightC l = true
  · obtain ⟨p, hG, rfl⟩ := good_right hR
    by_cases hm : x ∈ idsP p
    · obtain ⟨ch, p', e, ⟨h1, h2, h3⟩, _⟩ := remK_apply hG hm
      rw [e]; exact ⟨h2, h3⟩
    · rw [remK_none hG hm]; simp
  · have e : remK l x = ([], 100) := by unfold remK; rw [if_neg hR]
    rw [e]; simp
end Go.Proofs.Ytjdjecaclbdhhaa
