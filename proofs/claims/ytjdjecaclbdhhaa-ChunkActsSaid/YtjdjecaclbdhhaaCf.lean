/-
  Seat 10 (chunk): contracts: all ids; the place of an id.
-/
import Derived.Test.YtjdjecaclbdhhaaCd
namespace Go.Proofs.Ytjdjecaclbdhhaa
open Go.AL
set_option linter.unusedSimpArgs false
set_option linter.unusedVariables false
set_option maxHeartbeats 2000000
set_option maxRecDepth 20000

theorem idsC_len : ∀ (l : List Ck) (n : Nat), (∀ c ∈ l, c.2.1.length ≤ n) → (idsC l).length ≤ n * l.length
  | [], n, _ => Nat.zero_le _
  | c :: l, n, h => by
    have ih := idsC_len l n fun x hx => h x (List.mem_cons_of_mem _ hx)
    have := h c (List.mem_cons_self ..)
    show (c.2.1 ++ idsC l).length ≤ _
    rw [List.length_append, List.length_cons, Nat.mul_succ]
    omega
theorem ids_c (l : List Ck) (hl : l.length ≤ 1000000) (hc : ∀ c ∈ l, c.2.1.length ≤ 1000000) : ACall Try.prog 13 [.slice (ckv l) 4 .ro] Sto.empty fun v _ => Wk v (.slice (iv (idsC l)) 1 .ro) := by
  refine ids_i l _ (.of_none rfl) ?_
  have hn : (ckv l).length = l.length := ckv_length l
  show loopV _ _ _ (idsL_S l (idsC (l.take 0)) (ckv l).length 0)
  rw [hn]
  refine loopV_intro (α := Nat) (fun i => idsL_S l (idsC (l.take i)) l.length i) (fun i => i ≤ l.length) (fun i => l.length - i) ?_ 0 (Nat.zero_le _)
  rintro i hi L hL
  refine Eq.mpr (idsL_r l (idsC (l.take i)) l.length i L _) ?_
  simp only [hold_eq]
  refine brV_by (fun h => ?_) (fun h => ?_)
  · have hlt : i < l.length := by have := of_decide_eq_true h; omega
    have hcl := hc _ (List.getElem_mem hlt)
    have hol := idsC_len (l.take i) 1000000 fun c hx => hc c (List.mem_of_mem_take hx)
    have htl : (l.take i).length = i := by rw [List.length_take]; omega
    have hov : (iv (idsC (l.take i))).length = (idsC (l.take i)).length := iv_length _
    have hev : (iv l[i].2.1).length = l[i].2.1.length := iv_length _
    rw [elemAt_ckv l i hlt, i64_succ hlt (by omega)]
    have e1 : AVal.elems (List.getD (ckC l[i]) 1 .undef) = iv l[i].2.1 := rfl
    have e2 : iv (idsC (l.take i)) ++ iv l[i].2.1 = iv (idsC (l.take (i + 1))) := by rw [idsC_take1 l i hlt, iv_append]
    have e3 : (iv (idsC (l.take i))).length + (iv l[i].2.1).length = (iv (idsC (l.take (i + 1)))).length := by rw [← e2, List.length_append]
    refine gb_by (dt (by omega)) (gb_by rfl ?_)
    rw [e1]
    refine gb_by (dt ⟨dt ⟨trivial, trivial, by rw [htl] at hol; omega, by rw [htl] at hol; omega⟩, trivial⟩) ?_
    rw [setOwn_e1, e2, e3]
    exact hL (i + 1) hlt (by omega)
  · have hi' : i = l.length := by have := of_decide_eq_false h; omega
    subst hi'
    rw [List.take_length]
    refine leaveTo (toCut (Eq.mpr (idsF_r (idsC l) _) ?_))
    exact Wk.ro _ _ _
theorem ids_ok : EntOk Try.prog idsE := by
  intro xs σ; simp only [idsE]; split
  · rename_i es s t
    intro hc
    simp only [Bool.and_eq_true] at hc
    obtain ⟨h1, h2, h3, h4⟩ := hc
    exact pcall_of (.cons (wk_cks t h1 h2) (.refl _)) (ids_c _ (by simpa using lenM_of h3) (ckM_of h4)) (by simp only [noOutL, AVal.noOut, ckv_noOut, Bool.and_true]) (by simp only [noTokL, AVal.noTok, ckv_noTok, Bool.and_true, Tag.below]) (by simp only [AVal.noOut, iv_noOut]) (by simp only [AVal.noTok, iv_noTok, Tag.below, Bool.and_true])
  · trivial
theorem placeF_app (id : Int) (c : Ck) : ∀ (l : List Ck) (k a : Nat), placeF id (l ++ [c]) k a = if c.2.1 ≠ [] ∧ c.2.1.getD 0 0 ≤ id then k + l.length else placeF id l k a
  | [], k, a => by simp [placeF]
  | x :: l, k, a => by
    simp only [List.cons_append, placeF]
    rw [placeF_app id c l]
    have : k + 1 + l.length = k + (x :: l).length := by simp; omega
    rw [this]
theorem place_take (l : List Ck) (id : Int) (i : Nat) (hi : i < l.length) : placeC (l.take (i + 1)) id = if l[i].2.1 ≠ [] ∧ l[i].2.1.getD 0 0 ≤ id then i else placeC (l.take i) id := by
  rw [List.take_add_one, List.getElem?_eq_getElem hi]
  show placeF id (List.take i l ++ [l[i]]) 0 0 = _
  rw [placeF_app]
  have : 0 + (l.take i).length = i := by rw [List.length_take]; omega
  rw [this]; rfl
theorem place_c (l : List Ck) (x : Int) (hl : l.length ≤ 1000000) (hc : ∀ c ∈ l, c.2.1.length ≤ 1000000) : ACall Try.prog 29 [.slice (ckv l) 4 .ro, .int .i64 x] Sto.empty fun v _ => Wk v (.int .i64 (placeC l x : Int)) := by
  refine place_i l x _ (.of_none rfl) ?_
  have hn : (ckv l).length = l.length := ckv_length l
  show loopV _ _ _ (placeL_S l x (placeC (l.take 0) x) (ckv l).length 0)
  rw [hn]
  refine loopV_intro (α := Nat) (fun i => placeL_S l x (placeC (l.take i) x) l.length i) (fun i => i ≤ l.length) (fun i => l.length - i) ?_ 0 (Nat.zero_le _)
  rintro i hi L hL
  refine Eq.mpr (placeL_r l x (placeC (l.take i) x) l.length i L _) ?_
  simp only [hold_eq]
  refine brV_by (fun h => ?_) (fun h => ?_)
  · have hlt : i < l.length := by have := of_decide_eq_true h; omega
    have hst := place_take l x i hlt
    have hev : (iv l[i].2.1).length = l[i].2.1.length := iv_length _
    have nxt := hL (i + 1) hlt (by omega)
    rw [elemAt_ckv l i hlt]
    have e1 : AVal.elems (List.getD (ckC l[i]) 1 .undef) = iv l[i].2.1 := rfl
    refine gb_by (dt (by omega)) (gb_by rfl ?_)
    rw [e1]
    refine brV_by (fun h1 => ?_) (fun h1 => ?_)
    · have h1 : 0 < l[i].2.1.length := by have := of_decide_eq_true h1; omega
      have e0 : elemAt (iv l[i].2.1) 0 = [.int .i64 l[i].2.1[0]] := elemAt_iv _ 0 h1
      have hne : l[i].2.1 ≠ [] := fun e => by rw [e] at h1; simp at h1
      have hg : l[i].2.1.getD 0 0 = l[i].2.1[0] := by simp [List.getD_eq_getElem?_getD, h1]
      rw [e0]
      refine gb_by (dt (by omega)) (gb_by rfl (brV_by (fun h2 => ?_) (fun h2 => ?_)))
      · have h2 : l[i].2.1[0] ≤ x := of_decide_eq_true h2
        rw [if_pos ⟨hne, by rw [hg]; exact h2⟩] at hst
        rw [hst] at nxt
        refine toCut (Eq.mpr (placeI_r l x i l.length i _) ?_)
        rw [i64_succ hlt (by omega)]
        exact nxt
      · have h2 : ¬ l[i].2.1[0] ≤ x := of_decide_eq_false h2
        rw [if_neg (fun hh => h2 (by rw [← hg]; exact hh.2))] at hst
        rw [hst] at nxt
        refine toCut (Eq.mpr (placeI_r l x (placeC (l.take i) x) l.length i _) ?_)
        rw [i64_succ hlt (by omega)]
        exact nxt
    · have h1 : ¬ 0 < l[i].2.1.length := by have := of_decide_eq_false h1; omega
      rw [if_neg (fun hh => hh.1 (List.eq_nil_of_length_eq_zero (by omega)))] at hst
      rw [hst] at nxt
      refine toCut (Eq.mpr (placeI_r l x (placeC (l.take i) x) l.length i _) ?_)
      rw [i64_succ hlt (by omega)]
      exact nxt
  · have hi' : i = l.length := by have := of_decide_eq_false h; omega
    subst hi'
    rw [List.take_length]
    refine leaveTo (toCut (Eq.mpr (placeZ_r (placeC l x) _) ?_))
    exact Wk.refl _
theorem place_ok : EntOk Try.prog placeE := by
  intro xs σ; simp only [placeE]; split
  · rename_i es s t x
    intro hc
    simp only [Bool.and_eq_true] at hc
    obtain ⟨h1, h2, h3, h4⟩ := hc
    exact pcall_of (.cons (wk_cks t h1 h2) (.refl _)) (place_c _ x (by simpa using lenM_of h3) (ckM_of h4)) (by simp only [noOutL, AVal.noOut, ckv_noOut, Bool.and_true]) (by simp only [noTokL, AVal.noTok, ckv_noTok, Bool.and_true, Tag.below]) rfl rfl
  · trivial
end Go.Proofs.Ytjdjecaclbdhhaa
