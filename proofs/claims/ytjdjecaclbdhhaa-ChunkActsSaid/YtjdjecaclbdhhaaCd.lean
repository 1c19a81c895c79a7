/-
  Seat 10 (chunk): contracts: is it a chain?
-/
import Derived.Test.YtjdjecaclbdhhaaCc
namespace Go.Proofs.Ytjdjecaclbdhhaa
open Go.AL
set_option linter.unusedSimpArgs false
set_option linter.unusedVariables false
set_option maxHeartbeats 2000000
set_option maxRecDepth 20000

theorem thenN {f : St → Prop} {K : Exit → St → Prop} {st : St} (h : f st) : thenK f K .normal st := h
theorem noRef_mb (k : Nat) (m : List (Int × Bool)) : AObj.noRef k (.map (mb m)) = true := by
  simp only [AObj.noRef, mb, mi, List.all_map, List.all_eq_true]
  intro x _
  simp [AVal.noRef]
theorem keys_mb (m : List (Int × Bool)) : keysOk Try.prog 3 (mb m) = true := keysOk_mi rfl _ _
theorem val_mb (m : List (Int × Bool)) (n : Int) : mapVal (.int .i64 n) (.bool false) (mb m) = .bool ((getI m n).getD false) := by
  unfold mb
  rw [mapVal_mi]
  cases getI m n <;> rfl
theorem lenM_of {n : Nat} (h : lenM n = true) : n ≤ 1000000 := by simpa [lenM] using h
theorem lenM_mk {n : Nat} (h : n ≤ 1000000) : lenM n = true := by simpa [lenM] using h
theorem and_tt {a b : Bool} (h1 : a = true) (h2 : b = true) : (a && b) = true := by rw [h1, h2]; rfl
theorem ckM_mk {c : Ck} (h : c.2.1.length ≤ 1000000) : ckM (ckV c) = true := by simp [ckM, lenM_mk h]
theorem ckM_all {l : List Ck} (h : ∀ c ∈ l, c.2.1.length ≤ 1000000) : (ckv l).all ckM = true := by
  rw [List.all_eq_true]
  intro x hx
  obtain ⟨c, hc, rfl⟩ := List.mem_map.1 hx
  exact ckM_mk (h c hc)
theorem ckM_of {es : List AVal} (h : es.all ckM = true) : ∀ c ∈ es.map ckOf, c.2.1.length ≤ 1000000 := by
  intro c hc
  obtain ⟨e, he, rfl⟩ := List.mem_map.1 hc
  have := List.all_eq_true.1 h e he
  simp only [ckM, Bool.and_eq_true] at this
  exact lenM_of this.2
theorem nosC_take1 (l : List Ck) (i : Nat) (h : i < l.length) : nosC (l.take (i + 1)) = nosC (l.take i) ++ [l[i].1] := by
  rw [List.take_add_one, List.getElem?_eq_getElem h]
  show nosC (List.take i l ++ [l[i]]) = _
  unfold nosC
  rw [List.map_append]; rfl
theorem idsC_take1 (l : List Ck) (i : Nat) (h : i < l.length) : idsC (l.take (i + 1)) = idsC (l.take i) ++ l[i].2.1 := by
  rw [List.take_add_one, List.getElem?_eq_getElem h]
  show idsC (List.take i l ++ [l[i]]) = _
  unfold idsC
  rw [List.flatMap_append]
  simp only [List.flatMap_cons, List.flatMap_nil, List.append_nil]
theorem riseF_take (a : Int) : ∀ (e : List Int) (j : Nat) (h : j < e.length), riseF a (e.take (j + 1)) = (riseF a (e.take j) && decide ((e.take j).getLastD a < e[j]))
  | x :: r, 0, _ => by simp [riseF]
  | x :: r, j + 1, h => by
    have := riseF_take x r j (by simpa using h)
    simp only [List.take_succ_cons, riseF, this, List.getElem_cons_succ]
    rw [Bool.and_assoc]
    simp only [List.getLastD_cons]
theorem last_take (a : Int) (e : List Int) (j : Nat) (h : j < e.length) : (e.take (j + 1)).getLastD a = e[j] := by
  rw [List.take_add_one, List.getElem?_eq_getElem h]
  show (List.take j e ++ [e[j]]).getLastD a = _
  rw [List.getLastD_concat]
theorem lastI_app (l e : List Int) : lastI (l ++ e) = e.getLastD (lastI l) := by
  unfold lastI
  rw [List.getLastD_eq_getLast?, List.getLastD_eq_getLast?, List.getLastD_eq_getLast?, List.getLast?_append]
  cases e.getLast? <;> rfl
theorem right_no {l : List Ck} {i : Nat} (hi : i < l.length) (h : okC l i = false) : rightC l = false := by
  cases hr : rightC l with
  | false => rfl
  | true =>
    simp only [rightC, decide_eq_true_eq] at hr
    rw [hr i hi] at h; cases h
theorem right_c (l : List Ck) (hl : l.length ≤ 1000000) (hc : ∀ c ∈ l, c.2.1.length ≤ 1000000) : ACall Try.prog 11 [.slice (ckv l) 4 .ro] Sto.empty fun v _ => Wk v (.bool (rightC l)) := by
  refine right_i l _ (.of_none rfl) ?_
  have hn : (ckv l).length = l.length := ckv_length l
  have no : ∀ {i : Nat}, i < l.length → okC l i = false → Wk (.bool false) (.bool (rightC l)) := fun hi h => by rw [right_no hi h]; exact Wk.refl _
  show loopV _ _ _ (rightL_S l (-1) [] (ckv l).length 0)
  rw [hn]
  refine loopV_intro (α := Nat × Int × List (Int × Bool)) (fun x => rightL_S l x.2.1 x.2.2 l.length x.1) (fun x => x.1 ≤ l.length ∧ (∀ j, j < x.1 → okC l j = true) ∧ x.2.1 = lastI (idsC (l.take x.1)) ∧ ∀ n, (getI x.2.2 n).getD false = (nosC (l.take x.1)).contains n) (fun x => l.length - x.1) ?_ (0, -1, []) ⟨Nat.zero_le _, fun j h => by simp at h, rfl, fun n => rfl⟩
  rintro ⟨i, la, m⟩ ⟨hi, hpre, hla, hm⟩ L hL
  have hi : i ≤ l.length := hi
  have hpre : ∀ j, j < i → okC l j = true := hpre
  have hla : la = lastI (idsC (l.take i)) := hla
  have hm : ∀ n, (getI m n).getD false = (nosC (l.take i)).contains n := hm
  refine Eq.mpr (rightL_r l la m l.length i L _) ?_
  simp only [hold_eq]
  refine brV_by (fun h => ?_) (fun h => ?_)
  case refine_2 =>
    have hi' : i = l.length := by have := of_decide_eq_false h; omega
    subst hi'
    refine leaveTo (toCut (Eq.mpr (rightF_r m _) ?_))
    have : rightC l = true := by simp only [rightC, decide_eq_true_eq]; exact hpre
    rw [this]; exact Wk.refl _
  have hlt : i < l.length := by have := of_decide_eq_true h; omega
  rw [elemAt_ckv l i hlt]
  have hg : l.getD i ck0 = l[i] := by simp [List.getD_eq_getElem?_getD, hlt]
  refine gb_by (dt (by omega)) (gb_by rfl (gb_by ?_ (toCut ?_)))
  · rw [noRef_mb]; decide
  show vc Try.prog cRight rightB_C _ (rightB_S l la m l.length i l[i] 0)
  refine Eq.mpr (rightB_r l la m l.length i l[i] 0 _) ?_
  rw [i64_succ hlt (by omega)]
  refine toCut ?_
  simp only [hold_eq]
  -- the next one's number
  have key : vc Try.prog cRight rightA_C (blockK 1 (thenK (fun s => cutV (vc Try.prog cRight rightI_C (thenK (fun s => L (St.norm [] [0, 3, 4, 11, 12, 13] [10] s)) (blockK 0 (thenK (fun s => cutV (vc Try.prog cRight rightF_C (endK Try.prog Try.f11.results.toList fun v x => Wk v (.bool (rightC l)))) (St.norm [] [] [10] s)) (endK Try.prog Try.f11.results.toList fun v x => Wk v (.bool (rightC l))))))) (St.norm [] [0, 3, 4, 11, 12, 13] [10] s)) (thenK (fun s => L (St.norm [] [0, 3, 4, 11, 12, 13] [10] s)) (blockK 0 (thenK (fun s => cutV (vc Try.prog cRight rightF_C (endK Try.prog Try.f11.results.toList fun v x => Wk v (.bool (rightC l)))) (St.norm [] [] [10] s)) (endK Try.prog Try.f11.results.toList fun v x => Wk v (.bool (rightC l)))))))) (rightA_S l la m l.length i l[i] (nextC l i)) := by
    have bad : ¬ (l[i].2.2.2 = false ∧ l[i].2.2.1 = nextC l i ∧ 0 ≤ l[i].1 ∧ l[i].1 ∉ nosC (l.take i) ∧ (l[i].1 = 0 ↔ i = 0) ∧ l[i].2.1.length ≤ 4 ∧ (0 < i → l[i].2.1 ≠ []) ∧ riseF (lastI (idsC (l.take i))) l[i].2.1 = true) → okC l i = false := fun h => by
      unfold okC; rw [hg]; exact decide_eq_false h
    have good : (l[i].2.2.2 = false ∧ l[i].2.2.1 = nextC l i ∧ 0 ≤ l[i].1 ∧ l[i].1 ∉ nosC (l.take i) ∧ (l[i].1 = 0 ↔ i = 0) ∧ l[i].2.1.length ≤ 4 ∧ (0 < i → l[i].2.1 ≠ []) ∧ riseF (lastI (idsC (l.take i))) l[i].2.1 = true) → okC l i = true := fun h => by
      unfold okC; rw [hg]; exact decide_eq_true h
    refine Eq.mpr (rightA_r l la m l.length i l[i] (nextC l i) _) ?_
    have hev : (iv l[i].2.1).length = l[i].2.1.length := iv_length _
    have hcl := hc _ (List.getElem_mem hlt)
    simp only [hold_eq]
    refine brV_by' (fun h1 => ?_) (fun h => no hlt (bad fun hh => by rw [hh.1] at h; cases h))
    refine brV_by' (fun h2 => ?_) (fun h => no hlt (bad fun hh => by rw [hh.2.1] at h; simp at h))
    have h2 : l[i].2.2.1 = nextC l i := by simpa using h2
    refine brV_by' (fun h3 => ?_) (fun h => no hlt (bad fun hh => by have := of_decide_eq_true h; omega))
    have h3 : 0 ≤ l[i].1 := by have := of_decide_eq_false h3; omega
    rw [val_mb, hm]
    refine gb_by (by rw [keys_mb]; rfl) ?_
    refine brV_by' (fun h4 => ?_) (fun h => no hlt (bad fun hh => hh.2.2.2.1 (by have h : (nosC (l.take i)).contains l[i].1 = true := h; simpa using h)))
    have h4 : l[i].1 ∉ nosC (l.take i) := by
      have h4 : (nosC (l.take i)).contains l[i].1 = false := h4
      simpa using h4
    refine brV_by' (fun h5 => ?_) (fun h => no hlt (bad fun hh => by
      have h5 := hh.2.2.2.2.1
      by_cases h0 : i = 0
      · have := h5.2 h0; rw [this, h0] at h; simp at h
      · have h6 : ¬ l[i].1 = 0 := fun e => h0 (h5.1 e)
        have e1 : (l[i].1 == 0) = false := by simpa using h6
        have e2 : ((i : Int) == 0) = false := by simpa using h0
        rw [e1, e2] at h; cases h))
    have h5 : l[i].1 = 0 ↔ i = 0 := by
      have h5 : ((l[i].1 == 0) == ((i : Int) == 0)) = true := by simpa using h5
      have h5 : (l[i].1 == 0) = ((i : Int) == 0) := by simpa using h5
      constructor
      · intro e
        have h6 : ((i : Int) == 0) = true := by rw [← h5]; simpa using e
        simpa using h6
      · intro e
        have h6 : (l[i].1 == 0) = true := by rw [h5]; simpa using e
        simpa using h6
    refine brV_by' (fun h6 => ?_) (fun h => no hlt (bad fun hh => by have := of_decide_eq_true h; have := hh.2.2.2.2.2.1; omega))
    have h6 : l[i].2.1.length ≤ 4 := by have := of_decide_eq_false h6; omega
    -- the ids
    have ids : (0 < i → l[i].2.1 ≠ []) → loopV (fun s => St.norm [] [0, 3, 4, 11, 12, 13, 76, 77, 78] [10] s) (vc Try.prog cRight rightM_C) (blockK 2 (blockK 1 (thenK (fun s => cutV (vc Try.prog cRight rightI_C (thenK (fun s => L (St.norm [] [0, 3, 4, 11, 12, 13] [10] s)) (blockK 0 (thenK (fun s => cutV (vc Try.prog cRight rightF_C (endK Try.prog Try.f11.results.toList fun v x => Wk v (.bool (rightC l)))) (St.norm [] [] [10] s)) (endK Try.prog Try.f11.results.toList fun v x => Wk v (.bool (rightC l))))))) (St.norm [] [0, 3, 4, 11, 12, 13] [10] s)) (thenK (fun s => L (St.norm [] [0, 3, 4, 11, 12, 13] [10] s)) (blockK 0 (thenK (fun s => cutV (vc Try.prog cRight rightF_C (endK Try.prog Try.f11.results.toList fun v x => Wk v (.bool (rightC l)))) (St.norm [] [] [10] s)) (endK Try.prog Try.f11.results.toList fun v x => Wk v (.bool (rightC l))))))))) (rightM_S l la (putI l[i].1 true m) l.length i l[i].2.1 l[i].2.1.length 0) := by
      intro h7
      refine loopV_intro (α := Nat × Int) (fun x => rightM_S l x.2 (putI l[i].1 true m) l.length i l[i].2.1 l[i].2.1.length x.1) (fun x => x.1 ≤ l[i].2.1.length ∧ x.2 = (l[i].2.1.take x.1).getLastD la ∧ riseF la (l[i].2.1.take x.1) = true) (fun x => l[i].2.1.length - x.1) ?_ (0, la) ⟨Nat.zero_le _, rfl, rfl⟩
      rintro ⟨j, lb⟩ ⟨hj, hlb, hrj⟩ L2 hL2
      have hj : j ≤ l[i].2.1.length := hj
      have hlb : lb = (l[i].2.1.take j).getLastD la := hlb
      have hrj : riseF la (l[i].2.1.take j) = true := hrj
      refine Eq.mpr (rightM_r l lb (putI l[i].1 true m) l.length i l[i].2.1 l[i].2.1.length j L2 _) ?_
      simp only [hold_eq]
      refine brV_by (fun hq => ?_) (fun hq => ?_)
      · have hjl : j < l[i].2.1.length := by have := of_decide_eq_true hq; omega
        have hst := riseF_take la l[i].2.1 j hjl
        rw [hrj, Bool.true_and, ← hlb] at hst
        rw [elemAt_iv _ j hjl, i64_succ hjl (by omega)]
        refine gb_by (dt (by omega)) (gb_by rfl (brV_by (fun hle => ?_) (fun hle => ?_)))
        · refine no hlt (bad fun hh => ?_)
          have hle : l[i].2.1[j] ≤ lb := of_decide_eq_true hle
          have hf := hh.2.2.2.2.2.2.2
          rw [← hla] at hf
          have h8 := (riseF_iff la _).1 hf
          have h9 : riseF la (l[i].2.1.take (j + 1)) = true := (riseF_iff la _).2 ⟨fun x hx => h8.1 x (List.mem_of_mem_take hx), h8.2.sublist (List.take_sublist _ _)⟩
          rw [hst] at h9
          have := of_decide_eq_true h9
          omega
        · have hle : ¬ l[i].2.1[j] ≤ lb := of_decide_eq_false hle
          refine hL2 (j + 1, l[i].2.1[j]) ⟨hjl, (last_take la _ j hjl).symm, ?_⟩ (by show l[i].2.1.length - (j + 1) < l[i].2.1.length - j; omega)
          show riseF la (l[i].2.1.take (j + 1)) = true
          rw [hst]; exact dt (by omega)
      · have hj' : j = l[i].2.1.length := by have := of_decide_eq_false hq; omega
        subst hj'
        rw [List.take_length] at hlb hrj
        refine leaveK (inBlock (toCut (Eq.mpr (rightI_r l lb (putI l[i].1 true m) l.length i _) ?_)))
        rw [i64_succ hlt (by omega)]
        refine hL (i + 1, lb, putI l[i].1 true m) ⟨hlt, fun j hj => ?_, ?_, fun n => ?_⟩ (by show l.length - (i + 1) < l.length - i; omega)
        · have hj : j < i + 1 := hj
          rcases Nat.lt_or_ge j i with h9 | h9
          · exact hpre j h9
          · obtain rfl : j = i := by omega
            exact good ⟨h1, h2, h3, h4, h5, h6, h7, by rw [← hla]; exact hrj⟩
        · show lb = lastI (idsC (l.take (i + 1)))
          rw [idsC_take1 l i hlt, lastI_app, hlb, hla]
        · show (getI (putI l[i].1 true m) n).getD false = (nosC (l.take (i + 1))).contains n
          rw [getI_putI, nosC_take1 l i hlt]
          by_cases e : l[i].1 = n
          · rw [if_pos e]; simp [e]
          · rw [if_neg e, hm n]
            have : ¬ n = l[i].1 := fun e' => e e'.symm
            simp [this]
    have hput : mapPut (.int .i64 l[i].1) (.bool true) (mb m) = mb (putI l[i].1 true m) := mapPut_mi AVal.bool l[i].1 true m
    rw [hput, hev]
    refine brV_by (fun h7 => brV_by (fun h8 => ?_) (fun h8 => ?_)) (fun h7 => ?_)
    · refine no hlt (bad fun hh => ?_)
      have h8 : l[i].2.1.length = 0 := by have h8 : ((l[i].2.1.length : Int) == 0) = true := h8; simpa using h8
      exact hh.2.2.2.2.2.2.1 (by have := of_decide_eq_true h7; omega) (List.eq_nil_of_length_eq_zero h8)
    · refine gb_by (by rw [keys_mb]; rfl) (ids fun _ e => ?_)
      rw [e] at h8; simp at h8
    · refine gb_by (by rw [keys_mb]; rfl) (ids fun h0 => ?_)
      have := of_decide_eq_false h7; omega
  have q := rightC_r l la m l.length i l[i] 0 (decide (((i + 1 : Nat) : Int) < ((ckv l).length : Int)))
  show vc Try.prog cRight rightC_C _ (rightC_S l la m l.length i l[i] 0 (decide (((i + 1 : Nat) : Int) < ((ckv l).length : Int))))
  refine Eq.mpr (q _) ?_
  clear q
  refine brV_by (fun hb => ?_) (fun hb => ?_)
  · intro k hk
    have hi1 : i + 1 < l.length := by have hb := of_decide_eq_true hb; omega
    rw [i64_succ hlt (by omega)] at hk
    subst hk
    rw [elemAt_ckv l (i + 1) hi1]
    refine gb_by (dt (by omega)) (gb_by rfl ?_)
    have e : nextC l i = l[i + 1].1 := by
      unfold nextC
      rw [List.getD_eq_getElem?_getD, List.getElem?_eq_getElem hi1]; rfl
    rw [e] at key
    refine thenN (toCut ?_)
    exact key
  · have hi1 : ¬ i + 1 < l.length := by have hb := of_decide_eq_false hb; omega
    have e : nextC l i = 0 := by
      unfold nextC
      rw [List.getD_eq_getElem?_getD, List.getElem?_eq_none (by omega)]; rfl
    rw [e] at key
    refine thenN (toCut ?_)
    exact key
theorem right_ok : EntOk Try.prog rightE := by
  intro xs σ; simp only [rightE]; split
  · rename_i es s t
    intro hc
    simp only [Bool.and_eq_true] at hc
    obtain ⟨h1, h2, h3, h4⟩ := hc
    simp only [hold_eq]
    exact pcall_of (.cons (wk_cks t h1 h2) (.refl _)) (right_c _ (by simpa using lenM_of h3) (ckM_of h4)) (by simp only [noOutL, AVal.noOut, ckv_noOut, Bool.and_true]) (by simp only [noTokL, AVal.noTok, ckv_noTok, Bool.and_true, Tag.below]) rfl rfl
  · trivial
end Go.Proofs.Ytjdjecaclbdhhaa
