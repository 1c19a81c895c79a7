/-
  Seat 10 (chunk): contracts: Apply.
-/
import Derived.Test.YtjdjecaclbdhhaaCi
import Derived.Test.YtjdjecaclbdhhaaCo
namespace Go.Proofs.Ytjdjecaclbdhhaa
open Go.AL
set_option linter.unusedSimpArgs false
set_option linter.unusedVariables false
set_option maxHeartbeats 2000000
set_option maxRecDepth 20000

theorem own_push (σ : Sto) (n : Nat) : (σ.pushOwn n).own σ.nown = some n := by simp [Sto.pushOwn]
theorem own_set (σ : Sto) (p n : Nat) : (σ.setOwn p n).own p = some n := by simp [Sto.setOwn]
theorem ckv_one (o : List Ck) (x : Ck) : ckv o ++ [ckV x] = ckv (o ++ [x]) := by simp [ckv]
theorem keys_mk (m : List (Int × Ck)) : keysOk Try.prog 3 (mi ckV m) = true := keysOk_mi rfl _ _
theorem noRef_mk (k : Nat) (m : List (Int × Ck)) : AObj.noRef k (.map (mi ckV m)) = true := by
  simp only [AObj.noRef, mi, List.all_map, List.all_eq_true]
  intro x _
  simp [ckV, AVal.noRef, noRefL]
theorem cloneC_ok : EntOk Try.prog cloneCE := by
  intro xs σ; simp only [cloneCE]; split
  · rename_i es s t
    intro hc
    simp only [Bool.and_eq_true] at hc
    obtain ⟨h1, h2, h3⟩ := hc
    have h3 := lenM_of h3
    have hl : (ckv (es.map ckOf)).length = es.length := by simp
    refine ACall.args (args := [.slice (ckv (es.map ckOf)) 4 .ro]) ?_ (.cons (wk_cks t h1 h2) (.refl _))
    refine ACall.growRes (n := 4) ?_
    refine cloneC_i σ (es.map ckOf) _ (.of_none rfl) ?_
    simp only [hold_eq, true_and]
    intro b hb _
    refine brV_by (fun h => ?_) (fun h => ?_)
    · have hb1 : b = true := by simpa using h
      have : ckv (es.map ckOf) = [] := List.isEmpty_iff.1 (hb hb1)
      rw [this]
      exact .inl ⟨0, rfl, rfl, rfl⟩
    · refine gb_by (by simp only [true_or, true_and, and_true, decide_eq_true_eq, Nat.zero_add]; omega) (.inr (.inr ⟨by rw [List.nil_append], by rw [Nat.zero_add]⟩))
  · trivial

theorem byNo_take (a : List Ck) (i : Nat) (h : i < a.length) : byNo (a.take (i + 1)) = putI a[i].1 a[i] (byNo (a.take i)) := by
  rw [List.take_succ_eq_append_getElem h]
  unfold byNo
  rw [List.foldl_append]; rfl
theorem delI_len {β : Type} (k : Int) : ∀ m : List (Int × β), (delI k m).length ≤ m.length
  | [] => Nat.le_refl _
  | x :: r => by
    rw [delI]
    split
    · simp
    · rw [List.length_cons, List.length_cons]; have := delI_len k r; omega
/-- The chunks that a map holds are not too long. -/
def mapM (m : List (Int × Ck)) : Prop := ∀ n c, getI m n = some c → c.2.1.length ≤ 1000000
theorem mapM_del {m : List (Int × Ck)} (h : mapM m) : ∀ k, ∀ x ∈ delI k m, x ∈ m := by
  intro k
  clear h
  induction m with
  | nil => intro x hx; cases hx
  | cons y r ih =>
    intro x hx
    rw [delI] at hx
    split at hx
    · exact List.mem_cons_of_mem _ hx
    · rcases List.mem_cons.1 hx with rfl | hx
      · simp
      · exact List.mem_cons_of_mem _ (ih x hx)
theorem mem_putI {m : List (Int × Ck)} {k : Int} {v : Ck} : ∀ x ∈ putI k v m, x = (k, v) ∨ x ∈ m := by
  induction m with
  | nil => intro x hx; rw [putI] at hx; exact .inl (List.mem_singleton.1 hx)
  | cons y r ih =>
    intro x hx
    rw [putI] at hx
    split at hx
    · rcases List.mem_cons.1 hx with h | h
      · exact .inl h
      · exact .inr (List.mem_cons_of_mem _ h)
    · rcases List.mem_cons.1 hx with h | h
      · exact .inr (by rw [h]; simp)
      · rcases ih x h with h | h
        · exact .inl h
        · exact .inr (List.mem_cons_of_mem _ h)
theorem mem_byNo : ∀ (a : List Ck) (i : Nat), ∀ x ∈ byNo (a.take i), x.2 ∈ a
  | a, 0, x, hx => by simp [byNo] at hx
  | a, i + 1, x, hx => by
    by_cases h : i < a.length
    · rw [byNo_take a i h] at hx
      rcases mem_putI x hx with rfl | hx
      · exact List.getElem_mem h
      · exact mem_byNo a i x hx
    · rw [List.take_of_length_le (by omega), ← List.take_of_length_le (show a.length ≤ i by omega)] at hx
      exact mem_byNo a i x hx
theorem putI_len {m : List (Int × Ck)} {k : Int} {v : Ck} : (putI k v m).length ≤ m.length + 1 := by
  induction m with
  | nil => simp [putI]
  | cons y r ih =>
    rw [putI]
    split
    · simp
    · simp only [List.length_cons]; omega
theorem byNo_len : ∀ (a : List Ck) (i : Nat), (byNo (a.take i)).length ≤ i
  | a, 0 => by simp [byNo]
  | a, i + 1 => by
    by_cases h : i < a.length
    · rw [byNo_take a i h]
      have := byNo_len a i
      have := putI_len (m := byNo (a.take i)) (k := a[i].1) (v := a[i])
      omega
    · rw [List.take_of_length_le (by omega), ← List.take_of_length_le (show a.length ≤ i by omega)]
      have := byNo_len a i
      omega
theorem apply_c (l ch : List Ck) (h1 : l.length ≤ 1000000) (h2 : ch.length ≤ 1000000) (h3 : ∀ c ∈ l, c.2.1.length ≤ 1000000) (h4 : ∀ c ∈ ch, c.2.1.length ≤ 1000000) :
    ACall Try.prog 10 [.slice (ckv l) 4 .ro, .slice (ckv ch) 4 .ro] Sto.empty fun r _ => Wk r (.slice (ckv (applyK l ch)) 4 .ro) := by
  refine apply_i l ch _ (.of [cloneCE, ownSE] rfl ⟨cloneC_ok, ownS_ok, trivial⟩) ?_
  have hl1 : (ckv l).length = l.length := ckv_length l
  have hl2 : (ckv ch).length = ch.length := ckv_length ch
  simp only [hold_eq, map_ckOf, true_and, and_true, ← ckv_append]
  refine gb_by (and_tt (ckv_is _) (lenM_mk (by omega))) (gb_by (dt (dt (by omega))) ?_)
  have hA : ∀ c ∈ l ++ ch, c.2.1.length ≤ 1000000 := fun c hc => (List.mem_append.1 hc).elim (h3 c) (h4 c)
  have hAl : (l ++ ch).length ≤ 2000000 := by rw [List.length_append]; omega
  have hav : (ckv (l ++ ch)).length = (l ++ ch).length := ckv_length _
  unfold applyK
  generalize l ++ ch = a at *
  clear h3 h4
  refine loopV_intro (α := Nat × List (Int × Ck) × Sto) (fun s => applyL_S a s.2.1 (ckv a).length s.1 s.2.2) (fun s => s.1 ≤ a.length ∧ s.2.1 = byNo (a.take s.1)) (fun s => a.length - s.1) ?_ (0, [], _) ⟨Nat.zero_le _, rfl⟩
  rintro ⟨i, m, σ⟩ ⟨hi, hm⟩ L hL
  simp only at hi hm
  refine Eq.mpr (applyL_r a m (ckv a).length i σ L _) ?_
  simp only [hold_eq]
  refine brV_by (fun h => ?_) (fun h => ?_)
  · have hlt : i < a.length := by have := of_decide_eq_true h; omega
    rw [elemAt_ckv a i hlt]
    refine gb_by (dt (by omega)) (gb_by rfl (gb_by ?_ (gb_by ?_ ?_)))
    · rw [noRef_mk]; decide
    · rw [keys_mk]; rfl
    · have e : mapPut (.int .i64 a[i].1) (ckV a[i]) (mi ckV m) = mi ckV (putI a[i].1 a[i] m) := mapPut_mi _ _ _ _
      have := hL (i + 1, putI a[i].1 a[i] m, σ) ⟨hlt, by simp only; rw [byNo_take a i hlt, hm]⟩ (by simp only; omega)
      rw [i64_succ hlt (by omega)]
      unfold applyL_S at this
      rw [← e] at this
      exact this
  · have hi' : i = a.length := by have := of_decide_eq_false h; omega
    rw [hi', List.take_length] at hm
    have hlen : m.length ≤ 2000000 := by
      have := byNo_len a a.length
      rw [List.take_length, ← hm] at this; omega
    have hM : ∀ x ∈ m, x.2.2.1.length ≤ 1000000 := fun x hx => by
      refine hA _ (mem_byNo a a.length x ?_)
      rw [List.take_length, ← hm]; exact hx
    rw [← hm]
    clear hm hL
    refine leaveTo (toCut (Eq.mpr (applyA_r m σ _) (toCut ?_)))
    refine loopV_intro (α := List (Int × Ck) × List Ck × Int × Nat × Sto) (fun s => applyM_S s.1 s.2.1 s.2.2.1 s.2.2.2.1 s.2.2.2.2)
      (fun s => s.2.1 ++ walkF (s.1.length + 1) s.1 s.2.2.1 = walkF (m.length + 1) m 0 ∧ s.1.length + s.2.1.length ≤ 2000000 ∧ (∀ x ∈ s.1, x.2.2.1.length ≤ 1000000) ∧ s.2.2.2.2.own s.2.2.2.1 = some s.2.1.length) (fun s => s.1.length) ?_ (m, [], 0, _, _) ⟨rfl, by simpa using hlen, hM, own_push σ 0⟩
    rintro ⟨m', o, no, p, τ⟩ ⟨g1, g2, g3, g4⟩ L hL
    simp only at g1 g2 g3 g4
    refine Eq.mpr (applyM_r m' o no p τ L _) ?_
    have hol : (ckv o).length = o.length := ckv_length o
    have hnr : AObj.noRef 10 (.map (mi ckV m')) = true := noRef_mk _ _
    have hk := keys_mk m'
    simp only [hold_eq, mapFindS_mi, mapVal_mi, mapDel_mi, hnr, hk]
    cases hg : getI m' no with
    | none =>
      have hw : walkF (m'.length + 1) m' no = [] := by rw [walkF, hg]
      rw [hw, List.append_nil] at g1
      refine gb_by rfl (gb_by (by decide) (brV_by' (fun h => by cases h) fun _ => ?_))
      rw [← g1]
      exact Wk.ro _ _ _
    | some c =>
      have hcm := g3 _ (getI_mem hg)
      have hdl := delI_length hg
      refine gb_by rfl (gb_by (by decide) (brV_by' (fun _ => ?_) fun h => by cases h))
      refine brV_by (fun h => ?_) (fun h => ?_)
      · have h : c.2.2.2 = true := h
        have hw : walkF (m'.length + 1) m' no = [] := by rw [walkF, hg]; simp only [h, if_true]
        rw [hw, List.append_nil] at g1
        rw [← g1]
        exact Wk.ro _ _ _
      · have h : c.2.2.2 = false := h
        have hw : walkF (m'.length + 1) m' no = c :: (if c.2.2.1 = 0 then [] else walkF m'.length (delI no m') c.2.2.1) := by rw [walkF, hg]; simp only [h, Bool.false_eq_true, if_false]
        rw [hw] at g1
        have e : ckv o ++ [.agg [.int .i64 c.1, .slice (iv ((iv c.2.1).map AVal.intOf)) 1 .ro, .int .i64 c.2.2.1, .bool c.2.2.2]] = ckv (o ++ [c]) := by
          rw [map_intOf_iv]; exact ckv_one o c
        refine gb_by (ckM_mk (c := c) hcm) (gb_by (dtt (dt ⟨trivial, by rw [g4, hol], by omega, by omega⟩)) (gb_by (by decide) (brV_by (fun h0 => ?_) (fun h0 => ?_))))
        · have h0 : c.2.2.1 = 0 := by have h0 : (c.2.2.1 == 0) = true := h0
                                      simpa using h0
          rw [if_pos h0] at g1
          rw [← g1]
          exact e ▸ Wk.ro _ _ _
        · have h0 : c.2.2.1 ≠ 0 := by have h0 : (c.2.2.1 == 0) = false := h0
                                      simpa using h0
          rw [if_neg h0] at g1
          have := hL (delI no m', o ++ [c], c.2.2.1, p, τ.setOwn p ((ckv o).length + 1)) ⟨?_, ?_, fun x hx => g3 x (mapM_del (fun n d hd => g3 _ (getI_mem hd)) no x hx), ?_⟩ (by simp only; omega)
          · unfold applyM_S at this
            simp only [← e] at this
            exact this
          · simp only; rw [← g1, hdl]; simp
          · simp only [List.length_append, List.length_singleton]; omega
          · simp only [own_set, hol, List.length_append, List.length_singleton]
theorem apply_ok : EntOk Try.prog applyE := by
  intro xs σ; simp only [applyE]; split
  · rename_i es s t fs s' t'
    intro hc
    simp only [Bool.and_eq_true] at hc
    obtain ⟨h1, h2, h3, h4, h5, h6, h7, h8⟩ := hc
    have h5 := lenM_of h5; have h6 := lenM_of h6
    exact pcall_of (.cons (wk_cks t h1 h3) (.cons (wk_cks t' h2 h4) (.refl _))) (apply_c _ _ (by simpa using h5) (by simpa using h6) (ckM_of h7) (ckM_of h8)) (by simp only [noOutL, AVal.noOut, ckv_noOut, Bool.and_true]) (by simp only [noTokL, AVal.noTok, ckv_noTok, Bool.and_true, Tag.below]) (by simp only [AVal.noOut, ckv_noOut]) (by simp only [AVal.noTok, ckv_noTok, Bool.and_true, Tag.below])
  · trivial
end Go.Proofs.Ytjdjecaclbdhhaa
