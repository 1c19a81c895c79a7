/-
  Seat 10 (chunk): contracts: the reference's Right.
-/
import Derived.Test.YtjdjecaclbdhhaaCp
import Derived.Test.YtjdjecaclbdhhaaDb
namespace Go.Proofs.Ytjdjecaclbdhhaa
open Go.AL
set_option linter.unusedSimpArgs false
set_option linter.unusedVariables false
set_option maxHeartbeats 2000000
set_option maxRecDepth 20000

noncomputable def krR (l : List Ck) (L : St → Prop) : Exit → St → Prop :=
  blockK 1 (thenK (fun s => cutV (vc Try.prog cRightR rightRI_C (thenK (fun s => L (St.norm [] [0, 3, 4] [] s)) (blockK 0 (thenK (fun s => cutV (vc Try.prog cRightR rightRF_C (endK Try.prog Try.f20.results.toList fun v x => Wk v (.bool (rightC l)))) (St.norm [] [] [] s)) (endK Try.prog Try.f20.results.toList fun v x => Wk v (.bool (rightC l))))))) (St.norm [] [0, 3, 4] [] s)) (thenK (fun s => L (St.norm [] [0, 3, 4] [] s)) (blockK 0 (thenK (fun s => cutV (vc Try.prog cRightR rightRF_C (endK Try.prog Try.f20.results.toList fun v x => Wk v (.bool (rightC l)))) (St.norm [] [] [] s)) (endK Try.prog Try.f20.results.toList fun v x => Wk v (.bool (rightC l)))))))
theorem rightR_c (l : List Ck) (hl : l.length ≤ 1000000) (hc : ∀ c ∈ l, c.2.1.length ≤ 1000000) : ACall Try.prog 20 [.slice (ckv l) 4 .ro] Sto.empty fun v _ => Wk v (.bool (rightC l)) := by
  refine rightR_i l _ (.of_none rfl) ?_
  have hn : (ckv l).length = l.length := ckv_length l
  have no : ∀ {i : Nat}, i < l.length → okC l i = false → Wk (.bool false) (.bool (rightC l)) := fun hi h => by rw [right_no hi h]; exact Wk.refl _
  refine loopV_intro (α := Nat × Int) (fun x => rightRL_S l x.2 x.1) (fun x => x.1 ≤ l.length ∧ (∀ j, j < x.1 → okC l j = true) ∧ x.2 = lastI (idsC (l.take x.1)) ∧ ∀ h : x.1 < l.length, l[x.1].1 = 0 → x.1 = 0) (fun x => l.length - x.1) ?_ (0, -1) ⟨Nat.zero_le _, fun j h => by simp at h, rfl, fun _ _ => rfl⟩
  rintro ⟨i, la⟩ ⟨hi, hpre, hla, hz⟩ L hL
  have hi : i ≤ l.length := hi
  have hpre : ∀ j, j < i → okC l j = true := hpre
  have hla : la = lastI (idsC (l.take i)) := hla
  have hz : ∀ h : i < l.length, l[i].1 = 0 → i = 0 := hz
  refine Eq.mpr (rightRL_r l la i L _) ?_
  simp only [hold_eq]
  refine brV_by (fun h => ?_) (fun h => ?_)
  case refine_2 =>
    have hi' : i = l.length := by have := of_decide_eq_false h; omega
    subst hi'
    refine leaveTo (toCut (Eq.mpr (rightRF_r _) ?_))
    have : rightC l = true := by simp only [rightC, decide_eq_true_eq]; exact hpre
    rw [this]; exact Wk.refl _
  have hlt : i < l.length := by have := of_decide_eq_true h; omega
  have hz := hz hlt
  have hg : l.getD i ck0 = l[i] := by simp [List.getD_eq_getElem?_getD, hlt]
  have bad : ¬ (l[i].2.2.2 = false ∧ l[i].2.2.1 = nextC l i ∧ 0 ≤ l[i].1 ∧ l[i].1 ∉ nosC (l.take i) ∧ (l[i].1 = 0 ↔ i = 0) ∧ l[i].2.1.length ≤ 4 ∧ (0 < i → l[i].2.1 ≠ []) ∧ riseF (lastI (idsC (l.take i))) l[i].2.1 = true) → okC l i = false := fun h => by
    unfold okC; rw [hg]; exact decide_eq_false h
  have good : (l[i].2.2.2 = false ∧ l[i].2.2.1 = nextC l i ∧ 0 ≤ l[i].1 ∧ l[i].1 ∉ nosC (l.take i) ∧ (l[i].1 = 0 ↔ i = 0) ∧ l[i].2.1.length ≤ 4 ∧ (0 < i → l[i].2.1 ≠ []) ∧ riseF (lastI (idsC (l.take i))) l[i].2.1 = true) → okC l i = true := fun h => by
    unfold okC; rw [hg]; exact decide_eq_true h
  have hcl := hc _ (List.getElem_mem hlt)
  have hiv : (iv l[i].2.1).length = l[i].2.1.length := iv_length _
  -- behind the ahead's checks
  have leaf : (∀ h : i + 1 < l.length, l[i + 1].1 ≠ 0) → l[i].2.2.2 = false → l[i].2.2.1 = nextC l i → 0 ≤ l[i].1 → (l[i].1 = 0 ↔ i = 0) → l[i].2.1.length ≤ 4 → (0 < i → l[i].2.1 ≠ []) → vc Try.prog cRightR rightRC_C (krR l L) (rightRC_S l la i l[i]) := by
    intro hnz h1 h2 h3 h5 h6 h7
    refine Eq.mpr (rightRC_r l la i l[i] _) ?_
    refine loopV_intro (α := Nat) (fun k => rightRM_S l la i l[i] k) (fun k => k ≤ i ∧ l[i].1 ∉ nosC (l.take k)) (fun k => i - k) ?_ 0 ⟨Nat.zero_le _, by simp [nosC]⟩
    rintro k ⟨hk, hnk⟩ M hM
    refine Eq.mpr (rightRM_r l la i l[i] k M _) ?_
    simp only [hold_eq]
    refine brV_by (fun h => ?_) (fun h => ?_)
    · have hki : k < i := by have := of_decide_eq_true h; omega
      have hkl : k < l.length := by omega
      rw [elemAt_ckv l k hkl]
      refine gb_by (dt (by omega)) (gb_by rfl (brV_by (fun h => ?_) (fun h => ?_)))
      · have e : l[k].1 = l[i].1 := by
          have h : (l[k].1 == l[i].1) = true := h
          simpa using h
        refine no hlt (bad fun hh => hh.2.2.2.1 ?_)
        exact List.mem_map.2 ⟨l[k], List.mem_take_iff_getElem.2 ⟨k, by omega, rfl⟩, e⟩
      · have e : l[k].1 ≠ l[i].1 := by
          have h : (l[k].1 == l[i].1) = false := h
          simpa using h
        rw [i64_succ hkl (by omega)]
        refine hM (k + 1) ⟨hki, ?_⟩ (by omega)
        rw [nosC_take1 l k hkl, List.mem_append, List.mem_singleton]
        rintro (h | h)
        · exact hnk h
        · exact e h.symm
    · have hki : k = i := by have := of_decide_eq_false h; omega
      subst hki
      refine leaveTo (toCut (Eq.mpr (rightRD_r l la k l[k] _) ?_))
      refine loopV_intro (α := Nat × Int) (fun x => rightRN_S l x.2 k l[k] x.1) (fun x => x.1 ≤ l[k].2.1.length ∧ x.2 = (l[k].2.1.take x.1).getLastD la ∧ riseF la (l[k].2.1.take x.1) = true) (fun x => l[k].2.1.length - x.1) ?_ (0, la) ⟨Nat.zero_le _, rfl, rfl⟩
      rintro ⟨j, lb⟩ ⟨hj, hlb, hrj⟩ L2 hL2
      have hj : j ≤ l[k].2.1.length := hj
      have hlb : lb = (l[k].2.1.take j).getLastD la := hlb
      have hrj : riseF la (l[k].2.1.take j) = true := hrj
      refine Eq.mpr (rightRN_r l lb k l[k] j L2 _) ?_
      simp only [hold_eq]
      refine brV_by (fun hq => ?_) (fun hq => ?_)
      · have hjl : j < l[k].2.1.length := by have := of_decide_eq_true hq; omega
        have hst := riseF_take la l[k].2.1 j hjl
        rw [hrj, Bool.true_and, ← hlb] at hst
        rw [elemAt_iv _ j hjl]
        refine gb_by (dt (by omega)) (gb_by rfl (brV_by (fun hle => ?_) (fun hle => ?_)))
        · have hle : l[k].2.1[j] ≤ lb := of_decide_eq_true hle
          refine no hlt (bad fun hh => ?_)
          have hf := hh.2.2.2.2.2.2.2
          rw [← hla] at hf
          have h8 := (riseF_iff la _).1 hf
          have h9 : riseF la (l[k].2.1.take (j + 1)) = true := (riseF_iff la _).2 ⟨fun x hx => h8.1 x (List.mem_of_mem_take hx), h8.2.sublist (List.take_sublist _ _)⟩
          rw [hst] at h9
          have := of_decide_eq_true h9
          omega
        · have hle : ¬ l[k].2.1[j] ≤ lb := of_decide_eq_false hle
          rw [i64_succ hjl (by omega)]
          refine gb_by (dt (by omega)) (gb_by rfl ?_)
          refine hL2 (j + 1, l[k].2.1[j]) ⟨hjl, (last_take la _ j hjl).symm, ?_⟩ (by show l[k].2.1.length - (j + 1) < l[k].2.1.length - j; omega)
          show riseF la (l[k].2.1.take (j + 1)) = true
          rw [hst]; exact dt (by omega)
      · have hj' : j = l[k].2.1.length := by have := of_decide_eq_false hq; omega
        subst hj'
        rw [List.take_length] at hlb hrj
        refine leaveK (inBlock (toCut (Eq.mpr (rightRI_r l lb k _) ?_)))
        rw [i64_succ hlt (by omega)]
        refine hL (k + 1, lb) ⟨hlt, fun j hj => ?_, ?_, fun h h0 => (hnz h h0).elim⟩ (by show l.length - (k + 1) < l.length - k; omega)
        · have hj : j < k + 1 := hj
          rcases Nat.lt_or_ge j k with h9 | h9
          · exact hpre j h9
          · obtain rfl : j = k := by omega
            exact good ⟨h1, h2, h3, hnk, h5, h6, h7, by rw [← hla]; exact hrj⟩
        · show lb = lastI (idsC (l.take (k + 1)))
          rw [idsC_take1 l k hlt, lastI_app, hlb, hla]
  have key : (∀ h : i + 1 < l.length, l[i + 1].1 ≠ 0) → vc Try.prog cRightR rightRB_C (krR l L) (rightRB_S l la i l[i] (nextC l i)) := by
    intro hnz
    refine Eq.mpr (rightRB_r l la i l[i] (nextC l i) _) ?_
    simp only [hold_eq]
    refine brV_by (fun h1 => ?_) (fun h1 => ?_)
    · have h1 : i = 0 := by
        have h1 : ((i : Int) == 0) = true := h1
        have : (i : Int) = 0 := by simpa using h1
        omega
      refine brV_by' (fun h2 => ?_) (fun h2 => no hlt (bad fun hh => by
        have h2 : (l[i].1 != 0) = true := h2
        rw [hh.2.2.2.2.1.2 h1] at h2; simp at h2))
      have h2 : l[i].1 = 0 := by
        have h2 : (l[i].1 != 0) = false := h2
        simpa using h2
      refine brV_by (fun h3 => by have := of_decide_eq_true h3; omega) (fun h3 => ?_)
      refine brV_by' (fun h4 => ?_) (fun h4 => no hlt (bad fun hh => by have := of_decide_eq_true h4; have := hh.2.2.1; omega))
      refine brV_by' (fun h5 => ?_) (fun h5 => no hlt (bad fun hh => by rw [hh.1] at h5; cases h5))
      refine brV_by' (fun h6 => ?_) (fun h6 => no hlt (bad fun hh => by
        have h6 : (l[i].2.2.1 != nextC l i) = true := h6
        rw [hh.2.1] at h6; simp at h6))
      have h6 : l[i].2.2.1 = nextC l i := by
        have h6 : (l[i].2.2.1 != nextC l i) = false := h6
        simpa using h6
      refine brV_by (fun h7 => no hlt (bad fun hh => by have := of_decide_eq_true h7; have := hh.2.2.2.2.2.1; omega)) (fun h7 => toCut (leaf hnz h5 h6 (by have := of_decide_eq_false h4; omega) ⟨fun _ => h1, fun _ => h2⟩ (by have := of_decide_eq_false h7; omega) (fun h => by omega)))
    · have h1 : i ≠ 0 := by
        have h1 : ((i : Int) == 0) = false := h1
        have : ¬ (i : Int) = 0 := by simpa using h1
        omega
      refine brV_by (fun h3 => ?_) (fun h3 => by have := of_decide_eq_false h3; omega)
      refine brV_by' (fun h2 => ?_) (fun h2 => no hlt (bad fun hh => by
        have h2 : (((iv l[i].2.1).length : Int) == 0) = true := h2
        have h2 : ((iv l[i].2.1).length : Int) = 0 := by simpa using h2
        exact hh.2.2.2.2.2.2.1 (by omega) (List.eq_nil_of_length_eq_zero (by omega))))
      have h2 : l[i].2.1 ≠ [] := fun e => by
        have h2 : (((iv l[i].2.1).length : Int) == 0) = false := h2
        rw [e] at h2; simp [iv] at h2
      refine brV_by' (fun h4 => ?_) (fun h4 => no hlt (bad fun hh => by have := of_decide_eq_true h4; have := hh.2.2.1; omega))
      refine brV_by' (fun h5 => ?_) (fun h5 => no hlt (bad fun hh => by rw [hh.1] at h5; cases h5))
      refine brV_by' (fun h6 => ?_) (fun h6 => no hlt (bad fun hh => by
        have h6 : (l[i].2.2.1 != nextC l i) = true := h6
        rw [hh.2.1] at h6; simp at h6))
      have h6 : l[i].2.2.1 = nextC l i := by
        have h6 : (l[i].2.2.1 != nextC l i) = false := h6
        simpa using h6
      refine brV_by (fun h7 => no hlt (bad fun hh => by have := of_decide_eq_true h7; have := hh.2.2.2.2.2.1; omega)) (fun h7 => toCut (leaf hnz h5 h6 (by have := of_decide_eq_false h4; omega) ⟨fun h => (h1 (hz h)).elim, fun h => (h1 h).elim⟩ (by have := of_decide_eq_false h7; omega) (fun h => h2)))
  rw [elemAt_ckv l i hlt]
  refine gb_by (dt (by omega)) (gb_by rfl (toCut ?_))
  refine Eq.mpr (rightRE_r l la i l[i] 0 _) (toCut ?_)
  rw [i64_succ hlt (by omega)]
  refine Eq.mpr (rightRG_r l la i l[i] 0 _ _) ?_
  simp only [hold_eq]
  refine brV_by (fun hb => ?_) (fun hb => ?_)
  · intro m hm
    have hi1 : i + 1 < l.length := by have hb := of_decide_eq_true hb; omega
    rw [i64_succ hlt (by omega)] at hm
    subst hm
    rw [elemAt_ckv l (i + 1) hi1]
    have e : nextC l i = l[i + 1].1 := by
      unfold nextC
      rw [List.getD_eq_getElem?_getD, List.getElem?_eq_getElem hi1]; rfl
    refine gb_by (dt (by omega)) (gb_by rfl (toCut ?_))
    refine Eq.mpr (rightRA_r l la i l[i] l[i + 1].1 _) ?_
    simp only [hold_eq]
    refine brV_by (fun h0 => ?_) (fun h0 => ?_)
    · have h0 : l[i + 1].1 = 0 := by
        have h0 : (l[i + 1].1 == 0) = true := h0
        simpa using h0
      refine no hi1 ?_
      have hg1 : l.getD (i + 1) ck0 = l[i + 1] := by simp [List.getD_eq_getElem?_getD, hi1]
      unfold okC
      rw [hg1]
      exact decide_eq_false fun hh => by have := hh.2.2.2.2.1.1 h0; omega
    · have h0 : l[i + 1].1 ≠ 0 := by
        have h0 : (l[i + 1].1 == 0) = false := h0
        simpa using h0
      rw [e] at key
      refine thenN (toCut ?_)
      exact key fun _ => h0
  · have hi1 : ¬ i + 1 < l.length := by have hb := of_decide_eq_false hb; omega
    have e : nextC l i = 0 := by
      unfold nextC
      rw [List.getD_eq_getElem?_getD, List.getElem?_eq_none (by omega)]; rfl
    rw [e] at key
    refine thenN (toCut ?_)
    exact key fun h => (hi1 h).elim
theorem rightR_ok : EntOk Try.prog rightRE := by
  intro xs σ; simp only [rightRE]; split
  · rename_i es s t
    intro hc
    simp only [Bool.and_eq_true] at hc
    obtain ⟨h1, h2, h3, h4⟩ := hc
    exact pcall_of (.cons (wk_cks t h1 h2) (.refl _)) (by rw [hold_eq]; exact rightR_c _ (by simpa using lenM_of h3) (ckM_of h4)) (by simp only [noOutL, AVal.noOut, ckv_noOut, Bool.and_true]) (by simp only [noTokL, AVal.noTok, ckv_noTok, Bool.and_true, Tag.below]) rfl rfl
  · trivial
end Go.Proofs.Ytjdjecaclbdhhaa
