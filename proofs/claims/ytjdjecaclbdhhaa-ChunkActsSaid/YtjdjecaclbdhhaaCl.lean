/-
  Seat 10 (chunk): contracts: Insert, Remove.
-/
import Derived.Test.YtjdjecaclbdhhaaCk
namespace Go.Proofs.Ytjdjecaclbdhhaa
open Go.AL
set_option linter.unusedSimpArgs false
set_option linter.unusedVariables false
set_option maxHeartbeats 4000000
set_option maxRecDepth 20000

theorem tup_of {ls : List AVal} {e : Int} {L : List Ck} (hL : ls.map ckOf = L) (h1 : ls.all ckIs = true) : Wk (.tuple [.slice ls 4 .full, .int .i64 e]) (.tuple [.slice (ckv L) 4 .ro, .int .i64 e]) := by
  subst hL; exact Wk.tuple (.cons (wk_cks _ (okW_same _ _) h1) (.refl _))
theorem tup_nil (e : Int) : Wk (.tuple [.slice [] 0 .nil, .int .i64 e]) (.tuple [.slice (ckv (([], e) : Cc).1) 4 .ro, .int .i64 (([], e) : Cc).2]) := Wk.tuple (.cons (Wk.nil _ _ _) (.refl _))
theorem ids_le {p : List Pt} (h : GoodC p) : (idsP p).length ≤ 4 * p.length := by
  have h2 := h.len
  clear h
  induction p with
  | nil => simp [idsP]
  | cons x r ih =>
    have := ih fun y hy => h2 y (List.mem_cons_of_mem _ hy)
    have := h2 x (by simp)
    rw [idsP_cons, List.length_append, List.length_cons]; omega
theorem conds {l : List Ck} (hl : l.length ≤ 1000000) (hm : ∀ c ∈ l, c.2.1.length ≤ 1000000) : ((ckv l).all ckIs && (lenM (ckv l).length && (ckv l).all ckM)) = true :=
  and_tt (ckv_is l) (and_tt (lenM_mk (by rw [ckv_length]; exact hl)) (ckM_all hm))
theorem mk_mem {p : List Pt} (h : GoodC p) : ∀ c ∈ mkC p, c.2.1.length ≤ 4 := fun c hc => by
  have : (c.1, c.2.1) ∈ ptsC (mkC p) := List.mem_map.2 ⟨c, hc, rfl⟩
  rw [ptsC_mkC] at this
  exact h.len _ this
theorem insC_iv (l : List Int) (i : Nat) (x : Int) : insC (iv l) i (.int .i64 x) = iv (insL l i x) := insC_map (AVal.int .i64) l i x
theorem insert_c (l : List Ck) (x : Int) (hl : l.length ≤ 1000000) (hm : ∀ c ∈ l, c.2.1.length ≤ 1000000) :
    ACall Try.prog 9 [.slice (ckv l) 4 .ro, .int .i64 x] Sto.empty fun r _ => Wk r (.tuple [.slice (ckv (insK l x).1) 4 .ro, .int .i64 (insK l x).2]) := by
  refine insert_i l x _ (.of [rightE, idsE, containsIE, placeE, ownME, roE bsE, insIE, freshE, cloneISE] rfl ⟨right_ok, ids_ok, containsI_ok, place_ok, ownM_ok, roE_ok bs_ok, insI_ok, fresh_ok, cloneIS_ok, trivial⟩) ?_
  have hn : (ckv l).length = l.length := ckv_length l
  have hC := conds hl hm
  simp only [hold_eq, map_ckOf, map_intOf_iv]
  refine gb_by hC (brV_by (fun h => ?_) (fun h => ?_))
  · have h : rightC l = false := by simpa using h
    have e : insK l x = ([], 100) := by unfold insK; rw [if_neg (by rw [h]; simp)]
    rw [e]; exact tup_nil _
  have hR : rightC l = true := by simpa using h
  refine brV_by' (fun h0 => ?_) (fun h0 => ?_)
  rotate_left
  · have h0 : x < 0 := of_decide_eq_true h0
    have e : insK l x = ([], 2) := by unfold insK; rw [if_pos hR, if_pos (.inl h0)]
    rw [e]; exact tup_nil _
  have h0 : ¬ x < 0 := of_decide_eq_false h0
  refine brV_by (fun h1 => ?_) (fun h1 => ?_)
  · have h1 : 1099511627776 ≤ x := of_decide_eq_true h1
    have e : insK l x = ([], 2) := by unfold insK; rw [if_pos hR, if_pos (.inr h1)]
    rw [e]; exact tup_nil _
  have h1 : ¬ 1099511627776 ≤ x := of_decide_eq_false h1
  have hA : ¬ (x < 0 ∨ 1099511627776 ≤ x) := by omega
  obtain ⟨p, hG, rfl⟩ := good_right hR
  have hpl := mkC_length p
  intro y hy
  have hyl : y.length ≤ 4 * p.length := by rw [hy, idsC_mkC]; exact ids_le hG
  refine gb_by hC (gb_by (and_tt (iv_isI64 _) (lenOk_mk (by rw [iv_length]; omega))) (brV_by (fun h => ?_) (fun h2 => ?_)))
  · have hc : (idsC (mkC p)).contains x = true := by rw [← hy]; exact h
    have e : insK (mkC p) x = ([], 31) := by unfold insK; rw [if_pos hR, if_neg hA, if_pos hc]
    rw [e]; exact tup_nil _
  have hc : ¬ (idsC (mkC p)).contains x = true := by rw [← hy]; simpa using h2
  refine brV_by (fun h => ?_) (fun h3 => ?_)
  · have h : (((ckv (mkC p)).length : Int) == 0) = true := h
    have hz : mkC p = [] := List.eq_nil_of_length_eq_zero (by have : ((ckv (mkC p)).length : Int) = 0 := by simpa using h
                                                              omega)
    have e : insK (mkC p) x = ([(0, [x], 0, false)], 0) := by unfold insK; rw [if_pos hR, if_neg hA, if_neg hc, if_pos (by rw [hz]; rfl)]
    rw [e]
    exact tup_of (by simp [ckOf, AVal.intOf]) (by simp [ckIs, okW_same, isI64])
  have hne : p ≠ [] := by
    rintro rfl
    have h3 : (((ckv (mkC [])).length : Int) == 0) = false := h3
    simp [mkC] at h3
  have hE : ¬ (mkC p).isEmpty = true := by rw [List.isEmpty_iff]; intro h; rw [h] at hpl; exact hne (List.eq_nil_of_length_eq_zero hpl.symm)
  intro y0 hy0
  obtain ⟨p1, n, e, p2, hp, hplc, _, _⟩ := place_split hG hne x
  rw [hplc] at hy0
  have hlen : p.length = p1.length + (p2.length + 1) := by rw [hp]; simp
  have hgd : (mkC p).getD y0 ck0 = (n, e, hdN p2 0, false) := by rw [hy0, hp]; exact getD_split p1 n e p2
  have hlt : y0 < (mkC p).length := by omega
  have hget : (mkC p)[y0] = (n, e, hdN p2 0, false) := by
    rw [List.getD_eq_getElem?_getD, List.getElem?_eq_getElem hlt] at hgd; exact hgd
  have he4 : e.length ≤ 4 := by rw [hp] at hG; exact (place_part hG).1
  have her : e.Pairwise (· < ·) := ris_part hG.ris (y := (n, e)) (by rw [hp]; simp)
  rw [elemAt_ckv _ y0 hlt, hget]
  have hie : (iv e).length = e.length := iv_length e
  refine gb_by hC (gb_by (dt (by omega)) (gb_by rfl (gb_by (ckM_mk (c := (n, e, hdN p2 0, false)) (show e.length ≤ 1000000 by omega)) ?_)))
  intro q hq b hb
  simp only [ckC, List.getD_cons_zero, List.getD_cons_succ, AVal.elems, map_intOf_iv] at hq
  clear hb
  simp only [ckC, List.getD_cons_zero, List.getD_cons_succ, AVal.intOf, AVal.elems, AVal.boolOf, map_intOf_iv, Int.toNat_natCast, insC_iv]
  have hqe : insL e q x = insS e x := by rw [hq]; rfl
  have hql : q ≤ e.length := by rw [hq]; exact posI_len e x
  have hil : (iv (insS e x)).length = e.length + 1 := by rw [iv_length]; exact insS_length e x
  have hil2 : (insS e x).length = e.length + 1 := insS_length e x
  have hI : insK (mkC p) x = if (insS e x).length ≤ 4 then ([(n, insS e x, hdN p2 0, false)], 0)
        else ([(n, (insS e x).take 3, (freeN (nosC (mkC p)) : Int), false), ((freeN (nosC (mkC p)) : Int), (insS e x).drop 3, hdN p2 0, false)], 0) := by
    unfold insK
    rw [if_pos hR, if_neg hA, if_neg hc, if_neg hE, hplc, ← hy0]
    simp only [hgd]
    rfl
  rw [hqe]
  refine gb_by ?_ (gb_by (and_tt (iv_isI64 _) (dt ⟨trivial, by omega, by omega, by omega⟩)) (brV_by (fun h => ?_) (fun h => ?_)))
  · have hri : riseI e = true := riseI_iff.2 her
    simp only [decide_true, iv_noOut, iv_noTok, iv_isI64, hri, Bool.true_and, Bool.and_true]
    exact lenOk_mk (by omega)
  · have h : (insS e x).length ≤ 4 := by have := of_decide_eq_true h; omega
    rw [hI, if_pos h]
    exact tup_of (by simp [ckOf]) (by simp [ckIs, okW_same])
  · have h : ¬ (insS e x).length ≤ 4 := by have := of_decide_eq_false h; omega
    rw [hI, if_neg h]
    intro f hf
    rw [← hf]
    have e1 : List.take ((iv (insS e x)).length - 3) (List.drop 3 (iv (insS e x))) = iv ((insS e x).drop 3) := by
      rw [iv_drop, List.take_of_length_le (by rw [List.length_drop]; omega)]
    have e2 : List.take 3 (List.drop 0 (iv (insS e x))) = iv ((insS e x).take 3) := by rw [iv_take, List.drop_zero]
    have e3 : (iv ((insS e x).drop 3)).length = (insS e x).length - 3 := by rw [iv_length, List.length_drop]
    rw [e1, e2]
    refine gb_by (and_tt (ckv_is _) (lenM_mk (by omega))) (gb_by (dt (by omega)) (gb_by (and_tt (iv_isI64 _) (dt (by omega))) (gb_by (dt ⟨by omega, by omega, by omega, trivial⟩) ?_)))
    exact tup_of (by simp [ckOf]) (by simp [ckIs, okW_same])
theorem insert_ok : EntOk Try.prog insertE := by
  intro xs σ; simp only [insertE]; split
  · rename_i es s t x
    intro hc
    simp only [Bool.and_eq_true] at hc
    obtain ⟨h1, h2, h3, h4⟩ := hc
    have h3 := lenM_of h3
    exact pcall_of (.cons (wk_cks t h1 h2) (.refl _)) (insert_c _ x (by simpa using h3) (ckM_of h4)) (by simp only [noOutL, AVal.noOut, ckv_noOut, Bool.and_true]) (by simp only [noTokL, AVal.noTok, ckv_noTok, Bool.and_true, Tag.below]) (by simp only [noOutL, AVal.noOut, ckv_noOut, Bool.and_true]) (by simp only [noTokL, AVal.noTok, ckv_noTok, Bool.and_true, Tag.below])
  · trivial
theorem ownX_ok : EntOk Try.prog ownXE := by
  intro xs σ
  simp only [ownXE]
  split
  · exact ownM_ok xs σ
  · exact ownS_ok xs σ
theorem remove_c (l : List Ck) (x : Int) (hl : l.length ≤ 1000000) (hm : ∀ c ∈ l, c.2.1.length ≤ 1000000) :
    ACall Try.prog 16 [.slice (ckv l) 4 .ro, .int .i64 x] Sto.empty fun r _ => Wk r (.tuple [.slice (ckv (remK l x).1) 4 .ro, .int .i64 (remK l x).2]) := by
  refine remove_i l x _ (.of [rightE, placeE, containsIE, ownXE, delFE] rfl ⟨right_ok, place_ok, containsI_ok, ownX_ok, delF_ok, trivial⟩) ?_
  have hn : (ckv l).length = l.length := ckv_length l
  have hC := conds hl hm
  simp only [hold_eq, map_ckOf, map_intOf_iv]
  refine gb_by hC (brV_by (fun h => ?_) (fun h => ?_))
  · have h : rightC l = false := by simpa using h
    have e : remK l x = ([], 100) := by unfold remK; rw [if_neg (by rw [h]; simp)]
    rw [e]; exact tup_nil _
  have hR : rightC l = true := by simpa using h
  obtain ⟨p, hG, rfl⟩ := good_right hR
  have hpl := mkC_length p
  intro y0 hy0
  refine gb_by hC (brV_by' (fun h => ?_) (fun h => ?_))
  rotate_left
  · have h : ¬ y0 < (mkC p).length := by have := of_decide_eq_true h; omega
    have hz : ((mkC p).getD y0 ck0).2.1 = [] := by rw [List.getD_eq_getElem?_getD, List.getElem?_eq_none (by omega)]; rfl
    have e : remK (mkC p) x = ([], 101) := by
      unfold remK
      rw [if_pos hR, ← hy0]
      simp only [hz]; rfl
    rw [e]; exact tup_nil _
  have hlt : y0 < (mkC p).length := by have := of_decide_eq_false h; omega
  have hne : p ≠ [] := by rintro rfl; simp [mkC] at hlt
  obtain ⟨p1, n, e, p2, hp, hplc, _, _⟩ := place_split hG hne x
  rw [hplc] at hy0
  have hlen : p.length = p1.length + (p2.length + 1) := by rw [hp]; simp
  have hgd : (mkC p).getD y0 ck0 = (n, e, hdN p2 0, false) := by rw [hy0, hp]; exact getD_split p1 n e p2
  have hget : (mkC p)[y0] = (n, e, hdN p2 0, false) := by
    rw [List.getD_eq_getElem?_getD, List.getElem?_eq_getElem hlt] at hgd; exact hgd
  have he4 : e.length ≤ 4 := by rw [hp] at hG; exact (place_part hG).1
  have hie : (iv e).length = e.length := iv_length e
  rw [elemAt_ckv _ y0 hlt, hget]
  refine gb_by (dt (by omega)) (gb_by rfl ?_)
  simp only [ckC, List.drop_succ_cons, List.drop_zero, List.getD_cons_zero, List.getD_cons_succ, AVal.intOf, AVal.elems, AVal.boolOf, map_intOf_iv]
  refine gb_by (and_tt (iv_isI64 _) (lenOk_mk (by omega))) (brV_by (fun h => ?_) (fun h => ?_))
  · have h : e.contains x = false := by simpa using h
    have e : remK (mkC p) x = ([], 101) := by
      unfold remK
      rw [if_pos hR, hplc, ← hy0]
      simp only [hgd]
      rw [if_neg (by rw [h]; simp)]
    rw [e]; exact tup_nil _
  have hcx : e.contains x = true := by simpa using h
  have hne0 : 0 < e.length := List.length_pos_of_mem (List.contains_iff_mem.1 hcx)
  have hI : remK (mkC p) x = if 0 < (remS e x).length ∨ y0 = 0 then ([(n, remS e x, hdN p2 0, false)], 0)
      else ([(((mkC p).getD (y0 - 1) ck0).1, ((mkC p).getD (y0 - 1) ck0).2.1, hdN p2 0, ((mkC p).getD (y0 - 1) ck0).2.2.2), (n, [], 0, true)], 0) := by
    unfold remK
    rw [if_pos hR, hplc, ← hy0]
    simp only [hgd]
    rw [if_pos hcx]
    rfl
  refine gb_by (dt (by omega)) (gb_by rfl (gb_by (ckM_mk (c := (n, e, hdN p2 0, false)) (show e.length ≤ 1000000 by omega)) ?_))
  intro z hz
  have hz : z = remS e x := by rw [hz, remI_eq (iv_isI64 e), map_intOf_iv]
  have hzl : (iv z).length = z.length := iv_length z
  have keep : (0 < z.length ∨ y0 = 0) → Wk (.tuple [.slice [.agg [.int .i64 n, .slice (iv z) 1 .ro, .int .i64 (hdN p2 0), .bool false]] 4 .full, .int .i64 0]) (.tuple [.slice (ckv (remK (mkC p) x).1) 4 .ro, .int .i64 (remK (mkC p) x).2]) := fun hk => by
    rw [hz] at hk
    rw [hI, if_pos hk, ← hz]
    exact tup_of (by simp [ckOf]) (by simp [ckIs, okW_same])
  refine gb_by (and_tt (iv_isI64 _) (dt ⟨trivial, by omega, by omega⟩)) (brV_by' (fun h => ?_) (fun h => keep (.inl (by have := of_decide_eq_true h; omega))))
  have hz0 : ¬ 0 < z.length := by have := of_decide_eq_false h; omega
  refine brV_by (fun h => ?_) (fun h => ?_)
  · have h : ((y0 : Int) == 0) = true := h
    exact keep (.inr (by have : (y0 : Int) = 0 := by simpa using h
                         omega))
  have hy00 : y0 ≠ 0 := by
    have h : ((y0 : Int) == 0) = false := h
    have : ¬ (y0 : Int) = 0 := by simpa using h
    omega
  have hw : IntKind.i64.wrap ((y0 : Int) - 1) = ((y0 - 1 : Nat) : Int) := by rw [wrap_i64 (by omega) (by omega)]; omega
  have hlt1 : y0 - 1 < (mkC p).length := by omega
  rw [hw, elemAt_ckv _ (y0 - 1) hlt1]
  have hg1 : (mkC p).getD (y0 - 1) ck0 = (mkC p)[y0 - 1] := by rw [List.getD_eq_getElem?_getD, List.getElem?_eq_getElem hlt1]; rfl
  rw [hI, if_neg (by rw [← hz]; omega), hg1]
  generalize hcc : (mkC p)[y0 - 1] = c
  have hcm : c.2.1.length ≤ 1000000 := hm c (by rw [← hcc]; exact List.getElem_mem hlt1)
  refine gb_by (dt (by omega)) (gb_by rfl (gb_by (ckM_mk (c := c) hcm) ?_))
  simp only [ckC, List.drop_succ_cons, List.drop_zero, List.getD_cons_zero, List.getD_cons_succ, AVal.intOf, AVal.elems, AVal.boolOf, map_intOf_iv]
  exact tup_of (by simp [ckOf]) (by simp [ckIs, okW_same, okW])
theorem remove_ok : EntOk Try.prog removeE := by
  intro xs σ; simp only [removeE]; split
  · rename_i es s t x
    intro hc
    simp only [Bool.and_eq_true] at hc
    obtain ⟨h1, h2, h3, h4⟩ := hc
    have h3 := lenM_of h3
    exact pcall_of (.cons (wk_cks t h1 h2) (.refl _)) (remove_c _ x (by simpa using h3) (ckM_of h4)) (by simp only [noOutL, AVal.noOut, ckv_noOut, Bool.and_true]) (by simp only [noTokL, AVal.noTok, ckv_noTok, Bool.and_true, Tag.below]) (by simp only [noOutL, AVal.noOut, ckv_noOut, Bool.and_true]) (by simp only [noTokL, AVal.noTok, ckv_noTok, Bool.and_true, Tag.below])
  · trivial
end Go.Proofs.Ytjdjecaclbdhhaa
