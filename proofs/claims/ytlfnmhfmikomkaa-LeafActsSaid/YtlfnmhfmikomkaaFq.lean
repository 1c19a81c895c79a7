/-
  Seat 11 (leaf): what the references compare and look up.
-/
import Derived.Test.YtlfnmhfmikomkaaFv
import Derived.Test.YtlfnmhfmikomkaaFp
set_option linter.unusedVariables false
set_option linter.unusedSimpArgs false
set_option maxRecDepth 20000
namespace Go.Proofs.Ytlfnmhfmikomkaa
open Go.AL

theorem take_step {α : Type} {a b : List α} {i : Nat} (h1 : i < a.length) (h2 : i < b.length) (he : a.take i = b.take i) (hx : a[i] = b[i]) : a.take (i + 1) = b.take (i + 1) := by
  rw [List.take_succ_eq_append_getElem h1, List.take_succ_eq_append_getElem h2, he, hx]
theorem take_ne {α : Type} {a b : List α} {i : Nat} (h1 : i < a.length) (h2 : i < b.length) (hx : a[i] ≠ b[i]) : a ≠ b := by
  rintro rfl; exact hx rfl
theorem take_all {α : Type} {a b : List α} {i : Nat} (h1 : a.length ≤ i) (h2 : b.length ≤ i) (he : a.take i = b.take i) : a = b := by
  rwa [List.take_of_length_le h1, List.take_of_length_le h2] at he

theorem has_c (l : List Txt) (x : Txt) (hl : l.length ≤ 140737488351232) : ACall Try.prog 49 [.slice (strv l) 1 .ro, .str x] Sto.empty fun r _ => Wk r (.int .i64 (if l.contains x then (l.idxOf x : Int) else -1)) := by
  refine has_i _ _ _ (.of_none rfl) ?_
  have hn : (strv l).length = l.length := strv_length l
  refine loopV_intro (α := Nat) (fun i => hasL_S l x i) (fun i => i ≤ l.length ∧ ∀ y ∈ l.take i, y ≠ x) (fun i => l.length - i) ?_ 0 ⟨Nat.zero_le _, fun x hx => by simp at hx⟩
  rintro i ⟨hi, hpre⟩ L hL
  refine Eq.mpr (hasL_r l x i L _) ?_
  simp only [hold_eq]
  refine brV_by (fun h => ?_) (fun h => ?_)
  · have hlt : i < l.length := by have := of_decide_eq_true h; omega
    rw [i64_succ hlt hl, elemAt_strv l i hlt]
    refine gb_by (dt (by omega)) (gb_by rfl (brV_by (fun h => ?_) (fun h => ?_)))
    · have e : l[i] = x := by
        have h : (l[i] == x) = true := h
        simpa using h
      have hc : l.contains x = true := by rw [← e]; simp
      have hx : l.idxOf x = i := by
        unfold List.idxOf
        rw [List.findIdx_eq hlt]
        refine ⟨by simp [e], fun j hj => ?_⟩
        have := hpre l[j] (List.mem_take_iff_getElem.2 ⟨j, by omega, rfl⟩)
        simpa using this
      rw [if_pos hc, hx]
      exact Wk.refl _
    · have e : l[i] ≠ x := by
        have h : (l[i] == x) = false := h
        simpa using h
      refine hL (i + 1) ⟨hlt, fun y hy => ?_⟩ (by omega)
      rw [List.take_succ_eq_append_getElem hlt] at hy
      rcases List.mem_append.1 hy with h1 | h1
      · exact hpre y h1
      · simp at h1; subst h1; exact e
  · have hge : ¬ i < l.length := by have := of_decide_eq_false h; omega
    rw [List.take_of_length_le (by omega)] at hpre
    have hc : ¬ l.contains x = true := by
      intro hc
      have : x ∈ l := by simpa using hc
      exact hpre x this rfl
    rw [if_neg hc]
    exact leaveTo (toCut (Eq.mpr (hasF_r _) (Wk.refl _)))
theorem has_ok : EntOk Try.prog hasE := by
  intro xs σ; simp only [hasE]; split
  · rename_i es s t x
    intro hc
    simp only [Bool.and_eq_true, hold_eq] at hc
    obtain ⟨h1, h2, h3⟩ := hc
    exact pcall_of (.cons (wk_strv t h1 h2) (.refl _)) (has_c _ x (by simpa using lenOk_of h3)) (by simp only [noOutL, AVal.noOut, strv_noOut, Bool.and_true]) (by simp only [noTokL, AVal.noTok, strv_noTok, Bool.and_true, Tag.below]) rfl rfl
  · trivial

theorem texts_c (a b : List Txt) (ha : a.length ≤ 140737488351232) : ACall Try.prog 15 [.slice (strv a) 1 .ro, .slice (strv b) 1 .ro] Sto.empty fun r _ => Wk r (.bool (hold (a == b))) := by
  refine texts_i a b _ (.of_none rfl) ?_
  have hna : (strv a).length = a.length := strv_length a
  have hnb : (strv b).length = b.length := strv_length b
  simp only [hold_eq]
  refine brV_by (fun h => ?_) (fun h => ?_)
  · have hne : a.length ≠ b.length := by
      have : ¬ ((strv a).length : Int) = ((strv b).length : Int) := by simpa using h
      omega
    have : (a == b) = false := by rw [beq_eq_false_iff_ne]; rintro rfl; exact hne rfl
    rw [this]; exact Wk.refl _
  · have hlen : a.length = b.length := by
      have : ((strv a).length : Int) = ((strv b).length : Int) := by simpa using h
      omega
    refine loopV_intro (α := Nat) (fun i => textsL_S a b i) (fun i => i ≤ a.length ∧ a.take i = b.take i) (fun i => a.length - i) ?_ 0 ⟨Nat.zero_le _, rfl⟩
    rintro i ⟨hi, he⟩ L hL
    refine Eq.mpr (textsL_r a b i L _) ?_
    simp only [hold_eq]
    refine brV_by (fun h => ?_) (fun h => ?_)
    · have hlt : i < a.length := by have := of_decide_eq_true h; omega
      rw [i64_succ hlt ha, elemAt_strv a i hlt, elemAt_strv b i (by omega)]
      refine gb_by (dt (by omega)) (gb_by rfl (gb_by (dt (by omega)) (gb_by rfl (brV_by (fun h => ?_) (fun h => ?_)))))
      · have hne : a[i] ≠ b[i] := by
          have h : (!(a[i] == b[i])) = true := h
          simpa using h
        have : (a == b) = false := by rw [beq_eq_false_iff_ne]; exact take_ne hlt (by omega) hne
        rw [this]; exact Wk.refl _
      · have he2 : a[i] = b[i] := by
          have h : (!(a[i] == b[i])) = false := h
          simpa using h
        exact hL (i + 1) ⟨hlt, take_step hlt (by omega) he he2⟩ (by omega)
    · have hge : ¬ i < a.length := by have := of_decide_eq_false h; omega
      have : (a == b) = true := by rw [beq_iff_eq]; exact take_all (by omega) (by omega) he
      rw [this]
      exact leaveTo (toCut (Eq.mpr (textsF_r _) (Wk.refl _)))
theorem texts_ok : EntOk Try.prog textsE := by
  intro xs σ; simp only [textsE]; split
  · rename_i es s t fs s' t'
    intro hc
    simp only [Bool.and_eq_true, hold_eq] at hc
    obtain ⟨h1, h2, h3, h4, h5⟩ := hc
    exact pcall_of (.cons (wk_strv t h1 h3) (.cons (wk_strv t' h2 h4) (.refl _))) (texts_c _ _ (by simpa using lenOk_of h5)) (by simp only [noOutL, AVal.noOut, strv_noOut, Bool.and_true]) (by simp only [noTokL, AVal.noTok, strv_noTok, Bool.and_true, Tag.below]) rfl rfl
  · trivial

theorem sameRoot_c (r q : Root) (h1 : r.1.length ≤ 140737488351232) (h2 : r.2.length ≤ 140737488351232) : ACall Try.prog 21 [rootV r, rootV q] Sto.empty fun v _ => Wk v (.bool (hold (r == q))) := by
  refine sameRoot_i r q _ (.of [textsE] rfl ⟨texts_ok, trivial⟩) ?_
  have hna : (iv r.2).length = r.2.length := iv_length _
  have hnb : (iv q.2).length = q.2.length := iv_length _
  have hb : (r == q) = (r.1 == q.1 && r.2 == q.2) := rfl
  simp only [hold_eq]
  refine brV_by (fun h => ?_) (fun h => ?_)
  · have hne : r.2.length ≠ q.2.length := by
      have : ¬ ((iv r.2).length : Int) = ((iv q.2).length : Int) := by simpa using h
      omega
    have : (r == q) = false := by rw [beq_eq_false_iff_ne]; rintro rfl; exact hne rfl
    rw [this]; exact Wk.refl _
  · have hlen : r.2.length = q.2.length := by
      have : ((iv r.2).length : Int) = ((iv q.2).length : Int) := by simpa using h
      omega
    refine loopV_intro (α := Nat) (fun i => sameRootL_S r q i) (fun i => i ≤ r.2.length ∧ r.2.take i = q.2.take i) (fun i => r.2.length - i) ?_ 0 ⟨Nat.zero_le _, rfl⟩
    rintro i ⟨hi, he⟩ L hL
    refine Eq.mpr (sameRootL_r r q i L _) ?_
    simp only [hold_eq]
    refine brV_by (fun h => ?_) (fun h => ?_)
    · have hlt : i < r.2.length := by have := of_decide_eq_true h; omega
      rw [i64_succ hlt h2, elemAt_iv r.2 i hlt, elemAt_iv q.2 i (by omega)]
      refine gb_by (dt (by omega)) (gb_by rfl (gb_by (dt (by omega)) (gb_by rfl (brV_by (fun h => ?_) (fun h => ?_)))))
      · have hne : r.2[i] ≠ q.2[i] := by
          have h : (r.2[i] != q.2[i]) = true := h
          simpa using h
        have : (r == q) = false := by rw [beq_eq_false_iff_ne]; rintro rfl; exact hne rfl
        rw [this]; exact Wk.refl _
      · have he2 : r.2[i] = q.2[i] := by
          have h : (r.2[i] != q.2[i]) = false := h
          simpa using h
        exact hL (i + 1) ⟨hlt, take_step hlt (by omega) he he2⟩ (by omega)
    · have hge : ¬ i < r.2.length := by have := of_decide_eq_false h; omega
      have h2e : r.2 = q.2 := take_all (by omega) (by omega) he
      have : (r == q) = (r.1 == q.1) := by rw [hb, h2e]; simp
      rw [this]
      refine leaveTo (toCut (Eq.mpr (sameRootF_r r q _) ?_))
      simp only [hold_eq, map_strOf_strv, strv_is, Bool.true_and]
      exact gb_by (lenOk_mk (by have := strv_length r.1; omega)) (Wk.refl _)
theorem sameRoot_ok : EntOk Try.prog sameRootE := by
  intro xs σ; simp only [sameRootE]; split
  · rename_i v u
    intro hc
    simp only [Bool.and_eq_true] at hc
    obtain ⟨r1, r2, r3⟩ := rootG_spec hc.1
    obtain ⟨q1, q2, q3⟩ := rootG_spec hc.2
    exact pcall_of (.cons (wk_root r1) (.cons (wk_root q1) (.refl _))) (sameRoot_c _ _ r2 r3) (by simp only [noOutL, root_noOut, Bool.and_true]) (by simp only [noTokL, root_noTok, Bool.and_true]) rfl rfl
  · trivial

theorem same_c (a b : List Lf) (ha : a.length ≤ 140737488351232) (hs : ∀ x ∈ a, x.2.1.length ≤ 140737488351232) : ACall Try.prog 22 [.slice (lfv a) 3 .ro, .slice (lfv b) 3 .ro] Sto.empty fun r _ => Wk r (.bool (hold (a == b))) := by
  refine same_i a b _ (.of [textsE] rfl ⟨texts_ok, trivial⟩) ?_
  have hna : (lfv a).length = a.length := lfv_length a
  have hnb : (lfv b).length = b.length := lfv_length b
  simp only [hold_eq]
  refine brV_by (fun h => ?_) (fun h => ?_)
  · have hne : a.length ≠ b.length := by
      have : ¬ ((lfv a).length : Int) = ((lfv b).length : Int) := by simpa using h
      omega
    have : (a == b) = false := by rw [beq_eq_false_iff_ne]; rintro rfl; exact hne rfl
    rw [this]; exact Wk.refl _
  · have hlen : a.length = b.length := by
      have : ((lfv a).length : Int) = ((lfv b).length : Int) := by simpa using h
      omega
    refine loopV_intro (α := Nat) (fun i => sameL_S a b i) (fun i => i ≤ a.length ∧ a.take i = b.take i) (fun i => a.length - i) ?_ 0 ⟨Nat.zero_le _, rfl⟩
    rintro i ⟨hi, he⟩ L hL
    refine Eq.mpr (sameL_r a b i L _) ?_
    simp only [hold_eq]
    refine brV_by (fun h => ?_) (fun h => ?_)
    · have hlt : i < a.length := by have := of_decide_eq_true h; omega
      have hltb : i < b.length := by omega
      rw [i64_succ hlt ha, elemAt_lfv a i hlt, elemAt_lfv b i hltb]
      have hx : (a[i]).2.1.length ≤ 140737488351232 := hs _ (List.getElem_mem hlt)
      have no : a[i] ≠ b[i] → (a == b) = false := fun h => by rw [beq_eq_false_iff_ne]; exact take_ne hlt hltb h
      refine gb_by (dt (by omega)) (gb_by rfl (gb_by (dt (by omega)) (gb_by rfl (brV_by' (fun h => ?_) (fun h => ?_)))))
      · have e1 : (a[i]).1 = (b[i]).1 := by
          have h : ((a[i]).1 != (b[i]).1) = false := h
          simpa using h
        refine gb_by (dt (by omega)) (gb_by rfl (gb_by (dt (by omega)) (gb_by rfl (brV_by' (fun h => ?_) (fun h => ?_)))))
        · have e2 : (a[i]).2.2 = (b[i]).2.2 := by
            have h : (!((a[i]).2.2 == (b[i]).2.2)) = false := h
            simpa using h
          refine gb_by (dt (by omega)) (gb_by rfl (gb_by (dt (by omega)) (gb_by rfl (gb_by ?_ (brV_by (fun h => ?_) (fun h => ?_))))))
          · exact and_tt (strv_is _) (and_tt (strv_is _) (lenOk_mk (by rw [← strv_length] at hx; exact hx)))
          · have h : (!(List.map AVal.strOf (strv (a[i]).2.1) == List.map AVal.strOf (strv (b[i]).2.1))) = true := h
            rw [map_strOf_strv, map_strOf_strv] at h
            have e3 : (a[i]).2.1 ≠ (b[i]).2.1 := by simpa using h
            rw [no (fun e => e3 (by rw [e]))]; exact Wk.refl _
          · have h : (!(List.map AVal.strOf (strv (a[i]).2.1) == List.map AVal.strOf (strv (b[i]).2.1))) = false := h
            rw [map_strOf_strv, map_strOf_strv] at h
            have e3 : (a[i]).2.1 = (b[i]).2.1 := by simpa using h
            exact hL (i + 1) ⟨hlt, take_step hlt hltb he (Prod.ext e1 (Prod.ext e3 e2))⟩ (by omega)
        · have h : (!((a[i]).2.2 == (b[i]).2.2)) = true := h
          have e2 : (a[i]).2.2 ≠ (b[i]).2.2 := by simpa using h
          rw [no (fun e => e2 (by rw [e]))]; exact Wk.refl _
      · have h : ((a[i]).1 != (b[i]).1) = true := h
        have e1 : (a[i]).1 ≠ (b[i]).1 := by simpa using h
        rw [no (fun e => e1 (by rw [e]))]; exact Wk.refl _
    · have hge : ¬ i < a.length := by have := of_decide_eq_false h; omega
      have : (a == b) = true := by rw [beq_iff_eq]; exact take_all (by omega) (by omega) he
      rw [this]
      exact leaveTo (toCut (Eq.mpr (sameF_r _) (Wk.refl _)))
theorem same_ok : EntOk Try.prog sameE := by
  intro xs σ; simp only [sameE]; split
  · rename_i es s t fs s' t'
    intro hc
    simp only [Bool.and_eq_true] at hc
    obtain ⟨h1, h2, h3, h4, h5, h6⟩ := hc
    refine pcall_of (.cons (wk_lfs t h1 h3) (.cons (wk_lfs t' h2 h4) (.refl _))) (same_c _ _ (by simpa using lenOk_of h5) ?_) (by simp only [noOutL, AVal.noOut, lfv_noOut, Bool.and_true]) (by simp only [noTokL, AVal.noTok, lfv_noTok, Bool.and_true, Tag.below]) rfl rfl
    intro x hx
    obtain ⟨e, he, rfl⟩ := List.mem_map.1 hx
    exact (lfG_spec (List.all_eq_true.1 h6 e he)).2
  · trivial
end Go.Proofs.Ytlfnmhfmikomkaa
