/-
  Seat 11 (leaf): whether a root and leaves are right.
-/
import Derived.Test.YtlfnmhfmikomkaaFB
import Derived.Test.YtlfnmhfmikomkaaFw
set_option linter.unusedVariables false
set_option linter.unusedSimpArgs false
set_option maxRecDepth 20000
set_option maxHeartbeats 4000000
namespace Go.Proofs.Ytlfnmhfmikomkaa
open Go.AL

def good (r : Root) (ls : List Lf) (i : Nat) : Prop := lfB (ls.getD i (0, [], false)) = true ∧ (ls.getD i (0, [], false)).1 = r.2.getD i 0 ∧ ∀ s ∈ (ls.getD i (0, [], false)).2.1, atN r.1 s = i
theorem getD_at {α : Type} {l : List α} {i : Nat} (h : i < l.length) (d : α) : l.getD i d = l[i] := by simp [List.getD_eq_getElem?_getD, h]
theorem good_mk {r : Root} {ls : List Lf} {i : Nat} (h : i < ls.length) (h2 : i < r.2.length) (g1 : lfB ls[i] = true) (g2 : ls[i].1 = r.2[i]) (g3 : ∀ s ∈ ls[i].2.1, atN r.1 s = i) : good r ls i := by
  unfold good
  rw [getD_at h, getD_at h2]
  exact ⟨g1, g2, g3⟩
theorem rightB_iff {r : Root} {ls : List Lf} : rightB r ls = true ↔ rootB r = true ∧ ls.length = r.2.length ∧ ∀ i, i < ls.length → good r ls i := by
  simp only [rightB, decide_eq_true_eq, good]
theorem rightB_bad {r : Root} {ls : List Lf} {i : Nat} (h : i < ls.length) (h2 : i < r.2.length) (hb : lfB ls[i] = true → ls[i].1 = r.2[i] → (∀ s ∈ ls[i].2.1, atN r.1 s = i) → False) : rightB r ls = false := by
  rw [← Bool.not_eq_true, rightB_iff]
  rintro ⟨_, _, hg⟩
  obtain ⟨a1, a2, a3⟩ := hg i h
  rw [getD_at h] at a1 a2 a3
  rw [getD_at h2] at a2
  exact hb a1 a2 a3

theorem right1_c (s : Txt) (r : Root) (i : Int) (h1 : rootG (rootV r) = true) (h2 : riseL r.1 = true) : ACall Try.prog 53 [.str s, .iptr (rootC r), .iptr [.int .i64 i]] Sto.empty fun v _ => Wk v (.bool (hold (outP r i s))) := by
  refine right1_i s r i _ (.of [atE] rfl ⟨at_ok, trivial⟩) ?_
  intro y hy
  simp only [hold_eq, map_strOf_strv] at hy ⊢
  refine gb_by (and_tt h1 h2) ?_
  have : ((y : Int) != i) = outP r i s := by
    simp only [outP, ← hy]
    by_cases e : (y : Int) = i <;> simp [e]
  rw [this]; exact Wk.refl _
theorem wk_iptr {xs ys : List AVal} (h : WkL xs ys) (hl : xs.length = ys.length) : Wk (.iptr xs) (.iptr ys) := fun γ w l v hr => by
  cases hr with
  | iptr h1 h2 h3 => exact .iptr (h _ _ _ _ h1) h2 h3
theorem wk_func {fn : Fn} {f xs ys : List AVal} (h : WkL xs ys) : Wk (.func fn f xs) (.func fn f ys) := fun γ w l v hr => by
  cases hr with
  | func h1 h2 => exact .func h1 (h _ _ _ _ h2)
theorem wk_rootC {cs : List AVal} (h : rootIs (.agg cs) = true) : WkL cs (rootC (rootOf (.agg cs))) ∧ cs.length = (rootC (rootOf (.agg cs))).length := by
  unfold rootIs at h
  split at h
  · rename_i es s t fs s' t' he
    cases he
    simp only [Bool.and_eq_true] at h
    exact ⟨.cons (wk_strv _ h.1 h.2.2.1) (.cons (wk_iv _ h.2.1 h.2.2.2) (.refl _)), rfl⟩
  · cases h
theorem rootC_noOut (n : Nat) (r : Root) : noOutL n (rootC r) = true := by simp [rootC, noOutL, AVal.noOut, strv_noOut, iv_noOut]
theorem rootC_noTok (n : Nat) (r : Root) : noTokL n (rootC r) = true := by simp [rootC, noTokL, AVal.noTok, strv_noTok, iv_noTok, Tag.below]
theorem right1_ok : EntOk Try.prog right1E := by
  intro xs σ; simp only [right1E]; split
  · rename_i s cs i
    intro hc
    simp only [Bool.and_eq_true, hold_eq] at hc
    obtain ⟨r1, r2, r3⟩ := rootG_spec hc.1
    obtain ⟨w1, w2⟩ := wk_rootC r1
    exact pcall_of (.cons (.refl _) (.cons (wk_iptr w1 w2) (.refl _))) (right1_c s _ i (rootG_mk r2 r3) hc.2) (by simp only [noOutL, AVal.noOut, rootC_noOut, Bool.and_true]) (by simp only [noTokL, AVal.noTok, rootC_noTok, Bool.and_true]) rfl rfl
  · trivial

theorem indexF_c (l : List Txt) (r : Root) (i : Int) (hl : l.length ≤ 140737488351232) (h1 : rootG (rootV r) = true) (h2 : riseL r.1 = true) : ACall Try.prog 72 [.slice (strv l) 1 .ro, .func (.func 53) [] [.iptr (rootC r), .iptr [.int .i64 i]]] Sto.empty fun v _ => Wk v (.int .i64 (idxP (outP r i) l)) := by
  refine indexF_i l r i _ (.of [right1E] rfl ⟨right1_ok, trivial⟩) ?_
  have hn : (strv l).length = l.length := strv_length l
  refine loopV_intro (α := Nat) (fun k => indexFL_S l r i (strv l).length k) (fun k => k ≤ l.length ∧ ∀ y ∈ l.take k, outP r i y = false) (fun k => l.length - k) ?_ 0 ⟨Nat.zero_le _, fun x hx => by simp at hx⟩
  rintro k ⟨hk, hpre⟩ L hL
  refine Eq.mpr (indexFL_r l r i (strv l).length k L _) ?_
  simp only [hold_eq, map_strOf_strv, map_intOf_iv]
  refine brV_by (fun h => ?_) (fun h => ?_)
  · have hlt : k < l.length := by have := of_decide_eq_true h; omega
    rw [i64_succ hlt hl, elemAt_strv l k hlt]
    refine gb_by (dt (by omega)) (gb_by rfl (gb_by (and_tt h1 h2) (brV_by (fun h => ?_) (fun h => ?_))))
    · have h : outP r i l[k] = true := h
      have ha : l.any (outP r i) = true := List.any_eq_true.2 ⟨_, List.getElem_mem hlt, h⟩
      have hx : l.findIdx (outP r i) = k := by
        rw [List.findIdx_eq hlt]
        exact ⟨h, fun j hj => hpre l[j] (List.mem_take_iff_getElem.2 ⟨j, by omega, rfl⟩)⟩
      have e : idxP (outP r i) l = (k : Int) := by rw [idxP, if_pos ha, hx]
      rw [e]; exact Wk.refl _
    · have h : outP r i l[k] = false := h
      refine hL (k + 1) ⟨hlt, fun y hy => ?_⟩ (by omega)
      rw [List.take_succ_eq_append_getElem hlt] at hy
      rcases List.mem_append.1 hy with h1 | h1
      · exact hpre y h1
      · simp at h1; subst h1; exact h
  · have hge : ¬ k < l.length := by have := of_decide_eq_false h; omega
    rw [List.take_of_length_le (by omega)] at hpre
    have ha : ¬ l.any (outP r i) = true := fun ha => by
      obtain ⟨x, hx, e⟩ := List.any_eq_true.1 ha
      rw [hpre x hx] at e; cases e
    have e : idxP (outP r i) l = -1 := by rw [idxP, if_neg ha]
    rw [e]; exact Wk.refl _
theorem indexF_ok : EntOk Try.prog indexFE := by
  intro xs σ; simp only [indexFE]; split
  · rename_i es s t g cs i
    intro hc
    simp only [Bool.and_eq_true, hold_eq] at hc
    obtain ⟨h1, h2, h3, h4, h5, h6⟩ := hc
    have hg : g = 53 := Nat.eq_of_beq_eq_true h1
    subst hg
    obtain ⟨r1, r2, r3⟩ := rootG_spec h5
    obtain ⟨w1, w2⟩ := wk_rootC r1
    exact pcall_of (.cons (wk_strv t h2 h3) (.cons (wk_func (.cons (wk_iptr w1 w2) (.refl _))) (.refl _))) (indexF_c _ _ i (by simpa using lenOk_of h4) (rootG_mk r2 r3) h6) (by simp only [noOutL, AVal.noOut, strv_noOut, rootC_noOut, Bool.and_true]) (by simp only [noTokL, AVal.noTok, strv_noTok, rootC_noTok, Tag.below, Bool.and_true]) rfl rfl
  · trivial
theorem containsF_c (l : List Txt) (r : Root) (i : Int) (hl : l.length ≤ 140737488351232) (h1 : rootG (rootV r) = true) (h2 : riseL r.1 = true) : ACall Try.prog 55 [.slice (strv l) 1 .ro, .func (.func 53) [] [.iptr (rootC r), .iptr [.int .i64 i]]] Sto.empty fun v _ => Wk v (.bool (hold (l.any (outP r i)))) := by
  refine containsF_i l r i _ (.of [indexFE] rfl ⟨indexF_ok, trivial⟩) ?_
  intro y hy
  have hy : y = idxP (outP r i) (List.map AVal.strOf (strv l)) := by
    have e : rootOf (.agg [AVal.slice (strv r.1) 1 Tag.ro, AVal.slice (iv r.2) 1 Tag.ro]) = r := rootOf_V r
    rw [e] at hy
    exact hy
  simp only [hold_eq, map_strOf_strv] at hy ⊢
  refine gb_by (and_tt (strv_is _) (and_tt (lenOk_mk (by rw [strv_length]; exact hl)) (and_tt h1 h2))) ?_
  have : decide (0 ≤ y) = l.any (outP r i) := by
    rw [hy, idxP]
    cases ha : l.any (outP r i) with
    | true => simp
    | false => simp
  rw [this]; exact Wk.refl _
theorem containsF_ok : EntOk Try.prog containsFE := by
  intro xs σ; simp only [containsFE]; split
  · rename_i es s t g cs i
    intro hc
    simp only [Bool.and_eq_true, hold_eq] at hc
    obtain ⟨h1, h2, h3, h4, h5, h6⟩ := hc
    have hg : g = 53 := Nat.eq_of_beq_eq_true h1
    subst hg
    obtain ⟨r1, r2, r3⟩ := rootG_spec h5
    obtain ⟨w1, w2⟩ := wk_rootC r1
    exact pcall_of (.cons (wk_strv t h2 h3) (.cons (wk_func (.cons (wk_iptr w1 w2) (.refl _))) (.refl _))) (containsF_c _ _ i (by simpa using lenOk_of h4) (rootG_mk r2 r3) h6) (by simp only [noOutL, AVal.noOut, strv_noOut, rootC_noOut, Bool.and_true]) (by simp only [noTokL, AVal.noTok, strv_noTok, rootC_noTok, Tag.below, Bool.and_true]) rfl rfl
  · trivial

noncomputable def rightS (r : Root) (ls : List Lf) (x : Bool × Nat) : St := match x.1 with
  | false => rightLN_S r ls (lfv ls).length x.2
  | true => rightLI_S r ls (lfv ls).length x.2
theorem right_c (r : Root) (ls : List Lf) (h1 : r.1.length ≤ 140737488351232) (h2 : r.2.length ≤ 140737488351232) (h3 : ls.length ≤ 140737488351232) (h4 : ∀ x ∈ ls, x.2.1.length ≤ 140737488351232) :
    ACall Try.prog 24 [rootV r, .slice (lfv ls) 3 .ro] Sto.empty fun v _ => Wk v (.bool (hold (rightB r ls))) := by
  refine right_i r ls _ (.of [rootE, leafE, containsFE] rfl ⟨root_ok, leaf_ok, containsF_ok, trivial⟩) ?_
  have hn2 : (iv r.2).length = r.2.length := iv_length r.2
  have hn3 : (lfv ls).length = ls.length := lfv_length _
  simp only [hold_eq, map_strOf_strv, map_intOf_iv, fold_root]
  refine gb_by (rootG_mk h1 h2) (brV_by' (fun h => ?_) (fun h => ?_))
  case refine_2 =>
    have h : (!rootB r) = true := h
    have : rightB r ls = false := by
      rw [← Bool.not_eq_true, rightB_iff]
      rintro ⟨h', _⟩
      rw [h'] at h; cases h
    rw [this]; exact Wk.refl _
  have hb : rootB r = true := by
    have h : (!rootB r) = false := h
    simpa using h
  have er : rootOf (.agg [AVal.slice (strv r.1) 1 Tag.ro, AVal.slice (iv r.2) 1 Tag.ro]) = r := rootOf_V r
  obtain ⟨q1, q2, q3, q4⟩ := rootB_iff.1 hb
  refine brV_by (fun h => ?_) (fun h => ?_)
  · have hne : ¬ ((lfv ls).length : Int) = ((iv r.2).length : Int) := by simpa using h
    have : rightB r ls = false := by
      rw [← Bool.not_eq_true, rightB_iff]
      rintro ⟨_, h', _⟩
      omega
    rw [this]; exact Wk.refl _
  have heq : ls.length = r.2.length := by
    have : ((lfv ls).length : Int) = ((iv r.2).length : Int) := by simpa using h
    omega
  refine loopV_intro (α := Bool × Nat) (rightS r ls) (fun x => x.2 ≤ ls.length ∧ ∀ j, j < x.2 → good r ls j) (fun x => ls.length - x.2) ?_ (false, 0) ⟨Nat.zero_le _, fun j hj => by cases hj⟩
  rintro ⟨u, i⟩ ⟨hi, hpre⟩ L hL
  have hi : i ≤ ls.length := hi
  have hpre : ∀ j, j < i → good r ls j := hpre
  cases u with
  | false =>
    refine Eq.mpr (rightLN_r r ls (lfv ls).length i L _) ?_
    simp only [hold_eq]
    refine brV_by (fun h => ?_) (fun h => ?_)
    · skip
      have hlt : i < ls.length := by have := of_decide_eq_true h; omega
      have hx := h4 _ (List.getElem_mem hlt)
      have hl2 : i < r.2.length := by omega
      rw [elemAt_lfv ls i hlt]
      have bad : (lfB ls[i] = true → ls[i].1 = r.2[i] → (∀ s ∈ ls[i].2.1, atN r.1 s = i) → False) → rightB r ls = false := rightB_bad hlt hl2
      refine gb_by (dt (by omega)) (gb_by rfl (gb_by (lfG_mk (l := ls[i]) hx) (brV_by' (fun h => ?_) (fun h => ?_))))
      case refine_2 =>
        have h : (!lfB (ls[i].1, List.map AVal.strOf (strv ls[i].2.1), ls[i].2.2)) = true := h
        rw [map_strOf_strv] at h
        rw [bad fun h' _ _ => by rw [show (ls[i].1, ls[i].2.1, ls[i].2.2) = ls[i] from rfl, h'] at h; cases h]
        exact Wk.refl _
      have g1 : lfB ls[i] = true := by
        have h : (!lfB (ls[i].1, List.map AVal.strOf (strv ls[i].2.1), ls[i].2.2)) = false := h
        rw [map_strOf_strv] at h
        simpa using h
      rw [elemAt_iv r.2 i hl2]
      refine gb_by (dt (by omega)) (gb_by rfl (brV_by' (fun h => ?_) (fun h => ?_)))
      case refine_2 =>
        have h : (ls[i].1 != r.2[i]) = true := h
        rw [bad fun _ h' _ => by rw [h'] at h; simp at h]
        exact Wk.refl _
      have g2 : ls[i].1 = r.2[i] := by
        have h : (ls[i].1 != r.2[i]) = false := h
        simpa using h
      refine gb_by (and_tt (strv_is _) (and_tt (lenOk_mk (by rw [← strv_length] at hx; exact hx)) (and_tt (rootG_mk (by omega) (by omega)) (by rw [map_strOf_strv]; exact q2)))) (brV_by (fun h => ?_) (fun h => ?_))
      · rw [er] at h
        have h : List.any (List.map AVal.strOf (strv ls[i].2.1)) (outP r (i : Int)) = true := h
        rw [map_strOf_strv] at h
        rw [bad fun _ _ h' => by
          obtain ⟨s, hs, e⟩ := List.any_eq_true.1 h
          have := h' s hs
          simp [outP, this] at e]
        exact Wk.refl _
      · rw [er] at h
        have h : List.any (List.map AVal.strOf (strv ls[i].2.1)) (outP r (i : Int)) = false := h
        rw [map_strOf_strv] at h
        refine toCut (Eq.mpr (rightLC_r r ls (lfv ls).length i _) ?_)
        rw [i64_succ hlt h3]
        refine hL (true, i + 1) ⟨hlt, fun j hj => ?_⟩ (by show ls.length - (i + 1) < ls.length - i; omega)
        rcases Nat.lt_or_ge j i with h5 | h5
        · exact hpre j h5
        · have e : j = i := by have : j < i + 1 := hj; omega
          subst e
          refine good_mk hlt hl2 g1 g2 fun s hs => ?_
          have := List.any_eq_false.1 h s hs
          simp [outP] at this
          omega

    · have hge : ¬ i < ls.length := by have := of_decide_eq_false h; omega
      have : rightB r ls = true := rightB_iff.2 ⟨hb, heq, fun j hj => hpre j (by omega)⟩
      rw [this]
      exact leaveTo (toCut (Eq.mpr (rightLF_r _) (Wk.refl _)))
  | true =>
    refine Eq.mpr (rightLI_r r ls (lfv ls).length i L _) ?_
    simp only [hold_eq]
    refine brV_by (fun h => ?_) (fun h => ?_)
    · skip
      have hlt : i < ls.length := by have := of_decide_eq_true h; omega
      have hx := h4 _ (List.getElem_mem hlt)
      have hl2 : i < r.2.length := by omega
      rw [elemAt_lfv ls i hlt]
      have bad : (lfB ls[i] = true → ls[i].1 = r.2[i] → (∀ s ∈ ls[i].2.1, atN r.1 s = i) → False) → rightB r ls = false := rightB_bad hlt hl2
      refine gb_by (dt (by omega)) (gb_by rfl (gb_by (lfG_mk (l := ls[i]) hx) (brV_by' (fun h => ?_) (fun h => ?_))))
      case refine_2 =>
        have h : (!lfB (ls[i].1, List.map AVal.strOf (strv ls[i].2.1), ls[i].2.2)) = true := h
        rw [map_strOf_strv] at h
        rw [bad fun h' _ _ => by rw [show (ls[i].1, ls[i].2.1, ls[i].2.2) = ls[i] from rfl, h'] at h; cases h]
        exact Wk.refl _
      have g1 : lfB ls[i] = true := by
        have h : (!lfB (ls[i].1, List.map AVal.strOf (strv ls[i].2.1), ls[i].2.2)) = false := h
        rw [map_strOf_strv] at h
        simpa using h
      rw [elemAt_iv r.2 i hl2]
      refine gb_by (dt (by omega)) (gb_by rfl (brV_by' (fun h => ?_) (fun h => ?_)))
      case refine_2 =>
        have h : (ls[i].1 != r.2[i]) = true := h
        rw [bad fun _ h' _ => by rw [h'] at h; simp at h]
        exact Wk.refl _
      have g2 : ls[i].1 = r.2[i] := by
        have h : (ls[i].1 != r.2[i]) = false := h
        simpa using h
      refine gb_by (and_tt (strv_is _) (and_tt (lenOk_mk (by rw [← strv_length] at hx; exact hx)) (and_tt (rootG_mk (by omega) (by omega)) (by rw [map_strOf_strv]; exact q2)))) (brV_by (fun h => ?_) (fun h => ?_))
      · rw [er] at h
        have h : List.any (List.map AVal.strOf (strv ls[i].2.1)) (outP r (i : Int)) = true := h
        rw [map_strOf_strv] at h
        rw [bad fun _ _ h' => by
          obtain ⟨s, hs, e⟩ := List.any_eq_true.1 h
          have := h' s hs
          simp [outP, this] at e]
        exact Wk.refl _
      · rw [er] at h
        have h : List.any (List.map AVal.strOf (strv ls[i].2.1)) (outP r (i : Int)) = false := h
        rw [map_strOf_strv] at h
        refine toCut (Eq.mpr (rightLC_r r ls (lfv ls).length i _) ?_)
        rw [i64_succ hlt h3]
        refine hL (true, i + 1) ⟨hlt, fun j hj => ?_⟩ (by show ls.length - (i + 1) < ls.length - i; omega)
        rcases Nat.lt_or_ge j i with h5 | h5
        · exact hpre j h5
        · have e : j = i := by have : j < i + 1 := hj; omega
          subst e
          refine good_mk hlt hl2 g1 g2 fun s hs => ?_
          have := List.any_eq_false.1 h s hs
          simp [outP] at this
          omega

    · have hge : ¬ i < ls.length := by have := of_decide_eq_false h; omega
      have : rightB r ls = true := rightB_iff.2 ⟨hb, heq, fun j hj => hpre j (by omega)⟩
      rw [this]
      exact leaveTo (toCut (Eq.mpr (rightLF_r _) (Wk.refl _)))
theorem right_ok : EntOk Try.prog rightE := by
  intro xs σ; simp only [rightE]; split
  · rename_i v es s t
    intro hc
    simp only [Bool.and_eq_true] at hc
    obtain ⟨h1, h2, h3, h4, h5⟩ := hc
    obtain ⟨r1, r2, r3⟩ := rootG_spec h1
    refine pcall_of (.cons (wk_root r1) (.cons (wk_lfs t h2 h3) (.refl _))) (right_c _ _ r2 r3 (by simpa using lenOk_of h4) ?_) (by simp only [noOutL, AVal.noOut, root_noOut, lfv_noOut, Bool.and_true]) (by simp only [noTokL, AVal.noTok, root_noTok, lfv_noTok, Bool.and_true, Tag.below]) rfl rfl
    intro x hx
    obtain ⟨e, he, rfl⟩ := List.mem_map.1 hx
    exact (lfG_spec (List.all_eq_true.1 h5 e he)).2
  · trivial
end Go.Proofs.Ytlfnmhfmikomkaa
