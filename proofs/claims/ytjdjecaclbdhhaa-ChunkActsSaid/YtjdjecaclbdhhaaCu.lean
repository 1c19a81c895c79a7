/-
  Seat 10 (chunk): contracts: the reference's Insert and Remove.
-/
import Derived.Test.YtjdjecaclbdhhaaCq
import Derived.Test.YtjdjecaclbdhhaaDc
import Derived.Test.YtjdjecaclbdhhaaDd
namespace Go.Proofs.Ytjdjecaclbdhhaa
open Go.AL
set_option linter.unusedSimpArgs false
set_option linter.unusedVariables false
set_option maxHeartbeats 2000000
set_option maxRecDepth 20000

theorem putF_true (x : Int) : ∀ l : List Int, putF x true l = l
  | [] => rfl
  | y :: r => by rw [putF, if_neg (by simp), putF_true x r]
theorem putR_eq : ∀ {l : List Int} {x : Int}, l.Pairwise (· < ·) → x ∉ l → putR l x = insS l x
  | [], x, _, _ => rfl
  | y :: r, x, hp, hx => by
    rw [insS_cons y r x hp hx]
    unfold putR
    rw [putF]
    have hxy : x ≠ y := fun e => hx (by simp [e])
    by_cases h : y < x
    · rw [if_neg (by omega), if_pos h]
      congr 1
      exact putR_eq (List.pairwise_cons.1 hp).2 fun hm => hx (List.mem_cons_of_mem _ hm)
    · rw [if_pos ⟨by omega, rfl⟩, if_neg h, putF_true]
theorem mem_place {p : List Pt} (hG : GoodC p) {x : Int} {i : Nat} (hi : i < p.length) (hx : x ∈ p[i].2) : placeC (mkC p) x = i := by
  obtain ⟨p1, n, e, p2, rfl, hpl, hlo, hhi⟩ := place_split hG (by rintro rfl; simp at hi) x
  rw [hpl]
  rcases Nat.lt_trichotomy i p1.length with h | h | h
  · rw [List.getElem_append_left h] at hx
    have := hlo x (mem_idsP.2 ⟨p1[i], List.getElem_mem h, hx⟩)
    omega
  · exact h.symm
  · rw [List.getElem_append_right (by omega)] at hx
    obtain ⟨k, hk⟩ : ∃ k, i - p1.length = k + 1 := ⟨i - p1.length - 1, by omega⟩
    simp only [hk, List.getElem_cons_succ] at hx
    have hk2 : k < p2.length := by simp at hi; omega
    have := hhi x (mem_idsP.2 ⟨p2[k], List.getElem_mem hk2, hx⟩)
    omega
theorem insertR_c (l : List Ck) (x : Int) (hl : l.length ≤ 1000000) (hm : ∀ c ∈ l, c.2.1.length ≤ 1000000) :
    ACall Try.prog 17 [.slice (ckv l) 4 .ro, .int .i64 x] Sto.empty fun r _ => Wk r (.tuple [.slice (ckv (insK l x).1) 4 .ro, .int .i64 (insK l x).2]) := by
  refine insertR_i l x _ (.of [rightRE, idsRE, hasE, putE, usedE] rfl ⟨rightR_ok, idsR_ok, has_ok, put_ok, used_ok, trivial⟩) ?_
  have hn : (ckv l).length = l.length := ckv_length l
  have hC := conds hl hm
  simp only [hold_eq, map_ckOf, map_intOf_iv]
  refine gb_by hC (brV_by (fun h => ?_) (fun h => ?_))
  · have h : rightC l = false := by simpa using h
    have e : insK l x = ([], 100) := by unfold insK; rw [if_neg (by rw [h]; simp)]
    rw [e]; exact tup_nil _
  have hR : rightC l = true := by simpa using h
  refine brV_by' (fun h0 => ?_) (fun h0 => ?_)
  rotate_left
  · have h0 : x < 0 := of_decide_eq_true h0
    have e : insK l x = ([], 2) := by unfold insK; rw [if_pos hR, if_pos (.inl h0)]
    rw [e]; exact tup_nil _
  have h0 : ¬ x < 0 := of_decide_eq_false h0
  refine brV_by (fun h1 => ?_) (fun h1 => ?_)
  · have h1 : 1099511627776 ≤ x := of_decide_eq_true h1
    have e : insK l x = ([], 2) := by unfold insK; rw [if_pos hR, if_pos (.inr h1)]
    rw [e]; exact tup_nil _
  have h1 : ¬ 1099511627776 ≤ x := of_decide_eq_false h1
  have hA : ¬ (x < 0 ∨ 1099511627776 ≤ x) := by omega
  obtain ⟨p, hG, rfl⟩ := good_right hR
  have hpl := mkC_length p
  intro y hy
  have hyl : y.length ≤ 4 * p.length := by rw [hy, idsC_mkC]; exact ids_le hG
  refine gb_by hC (gb_by (and_tt (iv_isI64 _) (lenOk_mk (by rw [iv_length]; omega))) (brV_by (fun h => ?_) (fun h2 => ?_)))
  · have hc : (idsC (mkC p)).contains x = true := by rw [← hy]; exact h
    have e : insK (mkC p) x = ([], 31) := by unfold insK; rw [if_pos hR, if_neg hA, if_pos hc]
    rw [e]; exact tup_nil _
  have hc : ¬ (idsC (mkC p)).contains x = true := by rw [← hy]; simpa using h2
  have hxn : x ∉ idsP p := by rw [← idsC_mkC]; simpa using hc
  refine brV_by (fun h => ?_) (fun h3 => ?_)
  · have h : (((ckv (mkC p)).length : Int) == 0) = true := h
    have hz : mkC p = [] := List.eq_nil_of_length_eq_zero (by have : ((ckv (mkC p)).length : Int) = 0 := by simpa using h
                                                              omega)
    have e : insK (mkC p) x = ([(0, [x], 0, false)], 0) := by unfold insK; rw [if_pos hR, if_neg hA, if_neg hc, if_pos (by rw [hz]; rfl)]
    rw [e]
    exact tup_of (by simp [ckOf, AVal.intOf]) (by simp [ckIs, okW_same, isI64])
  have hne : p ≠ [] := by
    rintro rfl
    have h3 : (((ckv (mkC [])).length : Int) == 0) = false := h3
    simp [mkC] at h3
  have hE : ¬ (mkC p).isEmpty = true := by rw [List.isEmpty_iff]; intro h; rw [h] at hpl; exact hne (List.eq_nil_of_length_eq_zero hpl.symm)
  obtain ⟨p1, n, e, p2, hp, hplc, _, _⟩ := place_split hG hne x
  have hlen : p.length = p1.length + (p2.length + 1) := by rw [hp]; simp
  have hgd : (mkC p).getD p1.length ck0 = (n, e, hdN p2 0, false) := by rw [hp]; exact getD_split p1 n e p2
  have hlt : p1.length < (mkC p).length := by omega
  have hget : (mkC p)[p1.length] = (n, e, hdN p2 0, false) := by
    rw [List.getD_eq_getElem?_getD, List.getElem?_eq_getElem hlt] at hgd; exact hgd
  have he4 : e.length ≤ 4 := by rw [hp] at hG; exact (place_part hG).1
  have hem : (n, e) ∈ p := by rw [hp]; simp
  have her : e.Pairwise (· < ·) := ris_part hG.ris hem
  have hxe : x ∉ e := fun h => hxn (mem_idsP.2 ⟨(n, e), hem, h⟩)
  have hie : (iv e).length = e.length := iv_length e
  have hI : insK (mkC p) x = if (insS e x).length ≤ 4 then ([(n, insS e x, hdN p2 0, false)], 0)
        else ([(n, (insS e x).take 3, (freeN (nosC (mkC p)) : Int), false), ((freeN (nosC (mkC p)) : Int), (insS e x).drop 3, hdN p2 0, false)], 0) := by
    unfold insK
    rw [if_pos hR, if_neg hA, if_neg hc, if_neg hE, hplc]
    simp only [hgd]
    rfl
  have hil2 : (insS e x).length = e.length + 1 := insS_length e x
  refine loopV_intro (α := Nat × Nat) (fun s => insertRL_S (mkC p) x s.1 s.2) (fun s => 1 ≤ s.2 ∧ s.2 ≤ (mkC p).length ∧ s.1 = placeC ((mkC p).take s.2) x) (fun s => (mkC p).length - s.2) ?_ (0, 1) ⟨Nat.le_refl _, by show 1 ≤ (mkC p).length; omega, ?_⟩
  rotate_left
  · show 0 = placeC ((mkC p).take (0 + 1)) x
    rw [place_take _ _ 0 (by omega)]
    split <;> rfl
  rintro ⟨a, i⟩ ⟨g1, g2, g3⟩ L hL
  simp only at g1 g2 g3
  refine Eq.mpr (insertRL_r (mkC p) x a i L _) ?_
  simp only [hold_eq]
  refine brV_by (fun h => ?_) (fun h => ?_)
  · have hil : i < (mkC p).length := by have := of_decide_eq_true h; omega
    have hip : i < p.length := by omega
    have hci := mkC_get p i hip
    have hpi2 : p[i].2 ≠ [] := by
      obtain ⟨y, r, rfl⟩ := List.exists_cons_of_ne_nil hne
      have := (hG.hd y r rfl).2
      obtain ⟨j, rfl⟩ : ∃ j, i = j + 1 := ⟨i - 1, by omega⟩
      have hj : j < r.length := by simpa using hip
      exact (this r[j] (List.getElem_mem hj)).2
    have hne0 : 0 < p[i].2.length := List.length_pos_iff.2 hpi2
    have hiv : (iv p[i].2).length = p[i].2.length := iv_length _
    have ee : AVal.elems (List.getD (List.drop 1 (ckC (mkC p)[i])) 0 .undef) = iv p[i].2 := by rw [hci]; rfl
    have e0 : elemAt (iv p[i].2) 0 = [.int .i64 p[i].2[0]] := elemAt_iv p[i].2 0 hne0
    have hg0 : p[i].2.getD 0 0 = p[i].2[0] := by rw [List.getD_eq_getElem?_getD, List.getElem?_eq_getElem hne0]; rfl
    have hx0 : x ≠ p[i].2[0] := fun e => hxn (mem_idsP.2 ⟨p[i], List.getElem_mem hip, by rw [e]; exact List.getElem_mem hne0⟩)
    have hpt := place_take (mkC p) x i hil
    have hci2 : (mkC p)[i].2.1 = p[i].2 := by rw [hci]
    rw [hci2, hg0, ← g3] at hpt
    rw [elemAt_ckv _ i hil, ee, e0]
    have nxt : ∀ a' : Nat, a' = placeC ((mkC p).take (i + 1)) x → ∀ K : Exit → St → Prop, vc Try.prog cInsertR insertRI_C (thenK (fun s => L (St.norm [] [0, 1, 6, 7] [] s)) K) (insertRI_S (mkC p) x a' i) := by
      intro a' q K
      refine Eq.mpr (insertRI_r (mkC p) x a' i _) ?_
      rw [i64_succ hil (by omega)]
      exact hL (a', i + 1) ⟨by simp only; omega, hil, q⟩ (by simp only; omega)
    refine gb_by (dt (by omega)) (gb_by rfl (gb_by (dt ⟨by omega, by omega⟩) (gb_by rfl (brV_by (fun h => ?_) (fun h => ?_)))))
    · have h : p[i].2[0] < x := of_decide_eq_true h
      rw [if_pos ⟨hpi2, by omega⟩] at hpt
      exact toCut (nxt i hpt.symm _)
    · have h : ¬ p[i].2[0] < x := of_decide_eq_false h
      rw [if_neg (by rintro ⟨_, h2⟩; omega)] at hpt
      exact toCut (nxt a hpt.symm _)
  · have hi' : i = (mkC p).length := by have := of_decide_eq_false h; omega
    rw [hi', List.take_length, hplc] at g3
    subst g3
    refine leaveTo (toCut (Eq.mpr (insertRA_r (mkC p) x p1.length _) ?_))
    rw [elemAt_ckv _ p1.length hlt, hget]
    refine gb_by (dt (by omega)) (gb_by rfl ?_)
    intro z hz
    simp only [ckC, List.getD_cons_zero, List.getD_cons_succ, AVal.elems, map_intOf_iv] at hz
    rw [putR_eq her hxe] at hz
    simp only [ckC, List.getD_cons_zero, List.getD_cons_succ, AVal.intOf, AVal.elems, AVal.boolOf, map_intOf_iv, hold_eq]
    have hzl : (iv z).length = z.length := iv_length z
    have hzl2 : z.length = e.length + 1 := by rw [hz]; exact hil2
    rw [← hz] at hI
    refine gb_by (and_tt (iv_isI64 _) (lenM_mk (by omega))) (brV_by (fun h => ?_) (fun h => ?_))
    · have h : z.length ≤ 4 := by have := of_decide_eq_true h; omega
      rw [hI, if_pos h]
      exact tup_of (by simp [ckOf, AVal.intOf]) (by simp [ckIs, okW_same])
    · have h : ¬ z.length ≤ 4 := by have := of_decide_eq_false h; omega
      rw [hI, if_neg h]
      refine loopV_intro (α := Nat) (fun k => insertRM_S (mkC p) (n, e, hdN p2 0, false) z k)
        (fun no => 1 ≤ no ∧ ∀ k : Nat, 1 ≤ k → k < no → (k : Int) ∈ nosC (mkC p)) (fun no => (nosC (mkC p)).length + 1 - no) ?_ 1 ⟨Nat.le_refl _, fun k _ _ => by omega⟩
      have hnl : (nosC (mkC p)).length = (mkC p).length := by simp [nosC]
      rintro no ⟨hno, hbel⟩ L2 hL2
      have hpig := pig (no - 1) (nosC (mkC p)) fun k hk hk2 => hbel k hk (by omega)
      refine Eq.mpr (insertRM_r (mkC p) (n, e, hdN p2 0, false) z no L2 _) ?_
      simp only [hold_eq, map_ckOf]
      refine gb_by (and_tt (ckv_is _) (lenM_mk (by omega))) (brV_by (fun h => ?_) (fun h => ?_))
      · have hmm : (no : Int) ∈ nosC (mkC p) := List.contains_iff_mem.1 h
        have hb2 : ∀ k : Nat, 1 ≤ k → k < no + 1 → (k : Int) ∈ nosC (mkC p) := fun k hk hk2 => by
          rcases Nat.lt_or_ge k no with h4 | h4
          · exact hbel k hk h4
          · obtain rfl : k = no := by omega
            exact hmm
        have := pig no (nosC (mkC p)) fun k hk hk2 => hb2 k hk (by omega)
        have hw : IntKind.i64.wrap ((no : Int) + 1) = ((no + 1 : Nat) : Int) := by rw [wrap_i64 (by omega) (by omega)]; rfl
        rw [hw]
        exact hL2 (no + 1) ⟨by omega, hb2⟩ (by omega)
      · have hmm : ¬ (no : Int) ∈ nosC (mkC p) := fun h' => by rw [List.contains_iff_mem.2 h'] at h; cases h
        have hfree := freeN_uniq hno hmm hbel
        refine leaveTo (toCut (Eq.mpr (insertRF_r (n, e, hdN p2 0, false) z no _) ?_))
        rw [← hfree]
        have e1 : List.take (Int.toNat ((iv z).length : Int) - 3) (List.drop 3 (iv z)) = iv (z.drop 3) := by
          rw [iv_drop, List.take_of_length_le (by rw [List.length_drop]; omega)]
        have e2 : List.take 3 (List.drop 0 (iv z)) = iv (z.take 3) := by rw [iv_take, List.drop_zero]
        rw [e1, e2]
        refine gb_by (dt (by omega)) (gb_by (dt (by omega)) ?_)
        exact tup_of (by simp [ckOf, AVal.intOf]) (by simp [ckIs, okW_same])
theorem insertR_ok : EntOk Try.prog insertRE := by
  intro xs σ; simp only [insertRE]; split
  · rename_i es s t x
    intro hc
    simp only [Bool.and_eq_true] at hc
    obtain ⟨h1, h2, h3, h4⟩ := hc
    have h3 := lenM_of h3
    exact pcall_of (.cons (wk_cks t h1 h2) (.refl _)) (insertR_c _ x (by simpa using h3) (ckM_of h4)) (by simp only [noOutL, AVal.noOut, ckv_noOut, Bool.and_true]) (by simp only [noTokL, AVal.noTok, ckv_noTok, Bool.and_true, Tag.below]) (by simp only [noOutL, AVal.noOut, ckv_noOut, Bool.and_true]) (by simp only [noTokL, AVal.noTok, ckv_noTok, Bool.and_true, Tag.below])
  · trivial
theorem removeR_c (l : List Ck) (x : Int) (hl : l.length ≤ 1000000) (hm : ∀ c ∈ l, c.2.1.length ≤ 1000000) :
    ACall Try.prog 18 [.slice (ckv l) 4 .ro, .int .i64 x] Sto.empty fun r _ => Wk r (.tuple [.slice (ckv (remK l x).1) 4 .ro, .int .i64 (remK l x).2]) := by
  refine removeR_i l x _ (.of [rightRE, hasE, withoutE] rfl ⟨rightR_ok, has_ok, without_ok, trivial⟩) ?_
  have hn : (ckv l).length = l.length := ckv_length l
  have hC := conds hl hm
  simp only [hold_eq, map_ckOf, map_intOf_iv]
  refine gb_by hC (brV_by (fun h => ?_) (fun h => ?_))
  · have h : rightC l = false := by simpa using h
    have e : remK l x = ([], 100) := by unfold remK; rw [if_neg (by rw [h]; simp)]
    rw [e]; exact tup_nil _
  have hR : rightC l = true := by simpa using h
  obtain ⟨p, hG, rfl⟩ := good_right hR
  have hpl := mkC_length p
  refine loopV_intro (α := Nat) (fun i => removeRL_S (mkC p) x i) (fun i => i ≤ (mkC p).length ∧ ∀ j (hj : j < p.length), j < i → x ∉ p[j].2) (fun i => (mkC p).length - i) ?_ 0 ⟨Nat.zero_le _, fun j _ h => by omega⟩
  rintro i ⟨g1, g2⟩ L hL
  refine Eq.mpr (removeRL_r (mkC p) x i L _) ?_
  simp only [hold_eq]
  refine brV_by (fun h => ?_) (fun h => ?_)
  · have hil : i < (mkC p).length := by have := of_decide_eq_true h; omega
    have hip : i < p.length := by omega
    have hci := mkC_get p i hip
    have h4 := hG.len _ (List.getElem_mem hip)
    have hiv : (iv p[i].2).length = p[i].2.length := iv_length _
    rw [elemAt_ckv _ i hil, hci]
    refine gb_by (dt (by omega)) (gb_by rfl ?_)
    simp only [ckC, List.getD_cons_zero, List.getD_cons_succ, AVal.intOf, AVal.elems, AVal.boolOf, map_intOf_iv]
    refine gb_by (and_tt (iv_isI64 _) (lenOk_mk (by omega))) (brV_by (fun h => ?_) (fun h => ?_))
    · have h : p[i].2.contains x = false := by simpa using h
      refine toCut (Eq.mpr (removeRI_r (mkC p) x i _) ?_)
      rw [i64_succ hil (by omega)]
      refine hL (i + 1) ⟨hil, fun j hj hji => ?_⟩ (by omega)
      rcases Nat.lt_or_ge j i with h9 | h9
      · exact g2 j hj h9
      · obtain rfl : j = i := by omega
        intro hm; rw [List.contains_iff_mem.2 hm] at h; cases h
    · have h : p[i].2.contains x = true := by simpa using h
      have hmem : x ∈ p[i].2 := List.contains_iff_mem.1 h
      have hplc := mem_place hG hip hmem
      have hgd := getD_mkC p i hip
      have hI : remK (mkC p) x = if 0 < (remS p[i].2 x).length ∨ i = 0 then ([(p[i].1, remS p[i].2 x, (p.getD (i + 1) (0, [])).1, false)], 0)
          else ([(((mkC p).getD (i - 1) ck0).1, ((mkC p).getD (i - 1) ck0).2.1, (p.getD (i + 1) (0, [])).1, ((mkC p).getD (i - 1) ck0).2.2.2), (p[i].1, [], 0, true)], 0) := by
        unfold remK
        rw [if_pos hR, hplc]
        simp only [hgd]
        rw [if_pos h]
        rfl
      refine toCut (Eq.mpr (removeRA_r (mkC p) x i (p[i].1, p[i].2, (p.getD (i + 1) (0, [])).1, false) _) ?_)
      intro z hz
      have hz : z = remS p[i].2 x := by rw [hz, map_intOf_iv]; rfl
      have hzl : (iv z).length = z.length := iv_length z
      rw [← hz] at hI
      simp only [hold_eq]
      have keep : (0 < z.length ∨ i = 0) → Wk (.tuple [.slice [.agg [.int .i64 p[i].1, .slice (iv z) 1 .ro, .int .i64 (p.getD (i + 1) (0, [])).1, .bool false]] 4 .full, .int .i64 0]) (.tuple [.slice (ckv (remK (mkC p) x).1) 4 .ro, .int .i64 (remK (mkC p) x).2]) := fun hk => by
        rw [hI, if_pos hk]
        exact tup_of (by simp [ckOf, AVal.intOf]) (by simp [ckIs, okW_same])
      refine gb_by (and_tt (iv_isI64 _) (lenM_mk (by show (iv p[i].2).length ≤ _; omega))) (brV_by' (fun h => ?_) (fun h => keep (.inl (by have := of_decide_eq_true h; omega))))
      have hz0 : ¬ 0 < z.length := by have := of_decide_eq_false h; omega
      refine brV_by (fun h => ?_) (fun h => ?_)
      · have h : ((i : Int) == 0) = true := h
        exact keep (.inr (by have : (i : Int) = 0 := by simpa using h
                             omega))
      have hi0 : i ≠ 0 := by
        have h : ((i : Int) == 0) = false := h
        have : ¬ (i : Int) = 0 := by simpa using h
        omega
      have hw : IntKind.i64.wrap ((i : Int) - 1) = ((i - 1 : Nat) : Int) := by rw [wrap_i64 (by omega) (by omega)]; omega
      have hlt1 : i - 1 < (mkC p).length := by omega
      have hgd1 := getD_mkC p (i - 1) (by omega)
      have hget1 := mkC_get p (i - 1) (by omega)
      rw [hw, elemAt_ckv _ (i - 1) hlt1, hget1]
      rw [hI, if_neg (by omega), hgd1]
      refine gb_by (dt (by omega)) (gb_by rfl (gb_by (dt (by omega)) (gb_by rfl ?_)))
      exact tup_of (ls := [.agg [.int .i64 p[i - 1].1, .slice (iv p[i - 1].2) 1 .ro, .int .i64 (p.getD (i + 1) (0, [])).1, .bool false], .agg [.int .i64 p[i].1, .slice [] 0 .nil, .int .i64 0, .bool true]]) (by simp [ckOf, AVal.intOf]) (by simp [ckIs, okW_same, okW])
  · have hi' : i = (mkC p).length := by have := of_decide_eq_false h; omega
    have e : remK (mkC p) x = ([], 101) := by
      have hno : (((mkC p).getD (placeC (mkC p) x) ck0).2.1).contains x = false := by
        by_cases hlt : placeC (mkC p) x < p.length
        · rw [getD_mkC p _ hlt]
          have := g2 _ hlt (by omega)
          cases hh : p[placeC (mkC p) x].2.contains x with
          | false => rfl
          | true => exact (this (List.contains_iff_mem.1 hh)).elim
        · rw [List.getD_eq_getElem?_getD, List.getElem?_eq_none (by omega)]; rfl
      unfold remK
      rw [if_pos hR]
      simp only [hno]
      rfl
    rw [e]
    exact leaveTo (toCut (Eq.mpr (removeRF_r _) (tup_nil _)))
theorem removeR_ok : EntOk Try.prog removeRE := by
  intro xs σ; simp only [removeRE]; split
  · rename_i es s t x
    intro hc
    simp only [Bool.and_eq_true] at hc
    obtain ⟨h1, h2, h3, h4⟩ := hc
    have h3 := lenM_of h3
    exact pcall_of (.cons (wk_cks t h1 h2) (.refl _)) (removeR_c _ x (by simpa using h3) (ckM_of h4)) (by simp only [noOutL, AVal.noOut, ckv_noOut, Bool.and_true]) (by simp only [noTokL, AVal.noTok, ckv_noTok, Bool.and_true, Tag.below]) (by simp only [noOutL, AVal.noOut, ckv_noOut, Bool.and_true]) (by simp only [noTokL, AVal.noTok, ckv_noTok, Bool.and_true, Tag.below])
  · trivial
end Go.Proofs.Ytjdjecaclbdhhaa
