/-
  Seat 11 (leaf): Insert, Remove.
-/
import Derived.Test.YtlfnmhfmikomkaaFo
set_option linter.unusedVariables false
set_option linter.unusedSimpArgs false
set_option maxRecDepth 20000
namespace Go.Proofs.Ytlfnmhfmikomkaa
open Go.AL

/-- What is handed back is, its rows frozen, this. -/
def Froz (v r : AVal) (τ : Sto) : Prop := ∃ r1, Wk r r1 ∧ viewOk τ.obj r1 = true ∧ Wk (viewA τ.obj r1) v
theorem froz_of {τ : Sto} {A : AVal} {ls : List AVal} {e : Int} {R : Root} {L : List Lf} (hA : viewOk τ.obj A = true) (hA2 : Wk (viewA τ.obj A) (rootV R)) (hL : ls.map lfOf = L) (h1 : ls.all lfIs = true)
    (ho : noOutL 0 ls = true) (ht : noTokL 0 ls = true) : Froz (chV (R, L, e)) (.tuple [A, .slice ls 3 .full, .int .i64 e]) τ := by
  subst hL
  refine ⟨_, Wk.refl _, ?_, ?_⟩
  · simp only [viewOk, viewOkL, hA, AVal.noOut, AVal.noTok, ho, ht, Tag.below, Bool.and_true]
  · simp only [viewA, viewL]
    exact Wk.tuple (.cons hA2 (.cons (wk_lfs _ (okW_same _ _) h1) (.refl _)))
theorem froz_err {τ : Sto} {e : Int} : Froz (chV (errC e)) (.tuple [.agg [.slice [] 0 .nil, .slice [] 0 .nil], .slice [] 0 .nil, .int .i64 e]) τ := by
  refine ⟨_, Wk.refl _, rfl, ?_⟩
  simp only [viewA, viewL]
  exact Wk.tuple (.cons (.agg (.cons (Wk.nil _ _ _) (.cons (Wk.nil _ _ _) (.refl _)))) (.cons (Wk.nil _ _ _) (.refl _)))
theorem view_rows {τ : Sto} {r : Root} (h3 : τ.obj 3 = some (.buf (strv r.1) 1 4)) (h5 : τ.obj 5 = some (.buf (iv r.2) 1 6)) :
    viewOk τ.obj (.agg [.mrow 3 (strv r.1).length, .mrow 5 (iv r.2).length]) = true ∧ viewA τ.obj (.agg [.mrow 3 (strv r.1).length, .mrow 5 (iv r.2).length]) = rootV r := by
  simp only [viewOk, viewOkL, viewA, viewL, h3, h5, hold_eq, decide_true, strv_noOut, strv_noTok, iv_noOut, iv_noTok, Bool.and_true]
  exact ⟨rfl, rfl⟩
theorem view_rowsW {τ : Sto} {r : Root} (h3 : τ.obj 3 = some (.buf (strv r.1) 1 4)) (h5 : τ.obj 5 = some (.buf (iv r.2) 1 6)) :
    Wk (viewA τ.obj (.agg [.mrow 3 (strv r.1).length, .mrow 5 (iv r.2).length])) (rootV r) := by rw [(view_rows h3 h5).2]; exact Wk.refl _
theorem view_root {τ : Sto} (R : Root) : viewOk τ.obj (rootV R) = true := by
  simp [rootV, viewOk, viewOkL, AVal.noOut, AVal.noTok, strv_noOut, strv_noTok, iv_noOut, iv_noTok, Tag.below]
theorem view_rootW {τ : Sto} (R : Root) : Wk (viewA τ.obj (rootV R)) (rootV R) := by
  simp only [rootV, viewA, viewL]; exact Wk.refl _
theorem and_tt {a b : Bool} (h1 : a = true) (h2 : b = true) : (a && b) = true := by rw [h1, h2]; rfl
theorem insC_strv (l : List Txt) (i : Nat) (x : Txt) : insC (strv l) i (.str x) = strv (insL l i x) := insC_map AVal.str l i x
theorem insC_iv (l : List Int) (i : Nat) (x : Int) : insC (iv l) i (.int .i64 x) = iv (insL l i x) := insC_map (AVal.int .i64) l i x
theorem delC_strv (l : List Txt) (i : Nat) : delC (strv l) i = strv (delL l i) := delC_map AVal.str l i
theorem delC_iv (l : List Int) (i : Nat) : delC (iv l) i = iv (delL l i) := delC_map (AVal.int .i64) l i

theorem insert_c (r : Root) (l : Lf) (s : Txt) (h1 : r.1.length ≤ 1000000) (h2 : r.2.length ≤ 1000000) (h3 : l.2.1.length ≤ 1000000) :
    ACall Try.prog 11 [rootV r, lfV l, .str s] Sto.empty (Froz (chV (insN r l s))) := by
  have hn1 : (strv r.1).length = r.1.length := strv_length r.1
  have hn2 : (iv r.2).length = r.2.length := iv_length r.2
  refine insert_i r l s _ (.of [ownE, roE bsE, insOrE, insIE, roE containsIE, roE atE, cloneSE] rfl ⟨own_ok, roE_ok bs_ok, insOr_ok, insI_ok, roE_ok containsI_ok, roE_ok at_ok, cloneS_ok, trivial⟩) ?_
  simp only [hold_eq, map_strOf_strv, map_intOf_iv, fold_root, fold_lf]
  have hM : (rootM (rootV r) && (lfM (lfV l) && isR (Sto.push Sto.empty (.cells [.slice [] 0 .nil, .slice [] 0 .nil])))) = true := by rw [rootM_mk h1 h2, lfM_mk h3, isR_mk]; rfl
  refine brV_by (fun ho => ?_) (fun ho => ?_)
  · refine gb_by hM ?_
    have ho : ownB r l s = true := ho
    obtain ⟨hl, hf, h0⟩ := ownB_iff.1 ho
    obtain ⟨g1, g2, g3⟩ := lfB_iff.1 hl
    obtain ⟨q1, q2, q3, q4⟩ := rootB_iff.1 (ownB_root ho)
    intro p hp b hb
    have hple : p ≤ l.2.1.length := by rw [hp]; exact posN_le _ _
    refine gb_by ?_ (brV_by (fun h => by cases h) fun _ => ?_)
    · simp [g3, strv_noOut, strv_noTok, lenOk_mk (show l.2.1.length ≤ 140737488351232 by omega)]
    refine brV_by (fun h => ?_) (fun h => ?_)
    · have : 600 < s.length := by have := of_decide_eq_true h; omega
      have e : insN r l s = errC 82 := by simp only [insN, ho, this, if_true]
      rw [e]; exact froz_err
    have hs : ¬ 600 < s.length := by have := of_decide_eq_false h; omega
    refine brV_by (fun h => ?_) (fun h => ?_)
    · have e : insN r l s = errC 31 := by rw [hb] at h; simp only [insN, ho, hs, h, if_true, if_false]
      rw [e]; exact froz_err
    have hc : l.2.1.contains s = false := by rw [← hb]; exact h
    simp only [Int.toNat_natCast, insC_strv]
    have hil := insL_length l.2.1 p s hple
    have hsl := strv_length (insL l.2.1 p s)
    refine gb_by ?_ (brV_by (fun h => ?_) (fun h => ?_))
    · simp only [strv_is, Bool.true_and, hold_eq]
      rw [Bool.and_eq_true]
      exact ⟨rfl, dt ⟨trivial, by omega, by have := strv_length l.2.1; omega, by have := strv_length l.2.1; omega⟩⟩
    · have h4 : (insL l.2.1 p s).length ≤ 4 := by have : ((strv (insL l.2.1 p s)).length : Int) ≤ 4 := by simpa using h
                                                  omega
      have e : insN r l s = (r, [(l.1, insL l.2.1 p s, false)], 0) := by rw [hp] at h4 ⊢; simp only [insN, ho, hs, hc, h4, if_true, if_false]; rfl
      rw [e]
      refine froz_of (view_rows (r := r) rfl rfl).1 (view_rowsW (r := r) rfl rfl) ?_ ?_ ?_ ?_
      · simp [lfOf]
      · simp [lfIs, okW_same]
      · simp [noOutL, AVal.noOut, strv_noOut]
      · simp [noTokL, AVal.noTok, strv_noTok, Tag.below]
    · have h4 : ¬ (insL l.2.1 p s).length ≤ 4 := by have : ¬ ((strv (insL l.2.1 p s)).length : Int) ≤ 4 := by simpa using h
                                                    omega
      have h5 : (insL l.2.1 p s).length = 5 := by omega
      have e : insN r l s = ((insL r.1 (atN r.1 s) ((insL l.2.1 p s).getD 3 []), insL r.2 (atN r.1 s + 1) (freeN r.2 : Int)), [(l.1, (insL l.2.1 p s).take 3, false), ((freeN r.2 : Int), (insL l.2.1 p s).drop 3, false)], 0) := by
        rw [hp] at h4 ⊢; simp only [insN, ho, hs, hc, h4, if_true, if_false]; rfl
      rw [e]
      have hat : atN r.1 s ≤ r.1.length := atN_le _ _
      have hlen : r.1.length < r.2.length := by omega
      generalize hes : insL l.2.1 p s = es at *
      refine loopV_intro (α := Nat) (fun no => insertL_S r.1 r.2 l.2.1 es l.1 (strv r.1).length (iv r.2).length s [.slice [] 0 .nil, .slice [] 0 .nil] [.mrow 3 (strv r.1).length, .mrow 5 (iv r.2).length] [.int .i64 l.1, .mrow 7 (strv l.2.1).length, .bool false] no)
        (fun no => 1 ≤ no ∧ ∀ k : Nat, 1 ≤ k → k < no → (k : Int) ∈ r.2) (fun no => r.2.length + 1 - no) ?_ 1 ⟨Nat.le_refl _, fun k _ _ => by omega⟩
      rintro no ⟨hno, hbel⟩ L hL
      have hpig := pig (no - 1) r.2 fun k hk hk2 => hbel k hk (by omega)
      refine Eq.mpr (insertL_r r.1 r.2 l.2.1 es l.1 (strv r.1).length (iv r.2).length s [.slice [] 0 .nil, .slice [] 0 .nil] [.mrow 3 (strv r.1).length, .mrow 5 (iv r.2).length] [.int .i64 l.1, .mrow 7 (strv l.2.1).length, .bool false] no L _) ?_
      simp only [hold_eq, map_intOf_iv]
      refine gb_by (by simp [iv_noOut, iv_noTok, lenOk_mk (show r.2.length ≤ 140737488351232 by omega)]) (brV_by (fun h => ?_) (fun h => ?_))
      · have hm : (no : Int) ∈ r.2 := List.contains_iff_mem.1 h
        have hb2 : ∀ k : Nat, 1 ≤ k → k < no + 1 → (k : Int) ∈ r.2 := fun k hk hk2 => by
          rcases Nat.lt_or_ge k no with h4 | h4
          · exact hbel k hk h4
          · obtain rfl : k = no := by omega
            exact hm
        have := pig no r.2 fun k hk hk2 => hb2 k hk (by omega)
        have hw : IntKind.i64.wrap ((no : Int) + 1) = ((no + 1 : Nat) : Int) := by rw [wrap_i64 (by omega) (by omega)]; rfl
        rw [hw]
        exact hL (no + 1) ⟨by omega, hb2⟩ (by omega)
      · have hm : ¬ (no : Int) ∈ r.2 := fun h' => by rw [List.contains_iff_mem.2 h'] at h; cases h
        have hfree := freeN_uniq hno hm hbel
        refine leaveTo (toCut (Eq.mpr (insertC_r r.1 r.2 l.2.1 es l.1 (strv r.1).length (iv r.2).length s [.slice [] 0 .nil, .slice [] 0 .nil] [.mrow 3 (strv r.1).length, .mrow 5 (iv r.2).length] [.int .i64 l.1, .mrow 7 (strv l.2.1).length, .bool false] no _) ?_))
        have e1 : List.take ((strv es).length - 3) (List.drop 3 (strv es)) = strv (es.drop 3) := by
          rw [strv_drop, List.take_of_length_le (by simp)]
        have e2 : List.take 3 (List.drop 0 (strv es)) = strv (es.take 3) := by rw [strv_take, List.drop_zero]
        have e3 : elemAt (strv (es.drop 3)) 0 = [.str (es.getD 3 [])] := by
          have := elemAt_strv (es.drop 3) 0 (by simp; omega)
          simpa [h5] using this
        have e4 : (strv (es.drop 3)).length = 2 := by rw [strv_length, List.length_drop]; omega
        intro y hy
        simp only [hold_eq, map_strOf_strv] at hy
        have hy2 : y ≤ r.1.length := by omega
        have hw : IntKind.i64.wrap ((y : Int) + 1) = ((y + 1 : Nat) : Int) := by rw [wrap_i64 (by omega) (by omega)]; rfl
        simp only [hold_eq, e1, e2, e3, hw, getD_one, AVal.strOf, Int.toNat_natCast, insC_strv, insC_iv]
        have hsl' : (strv es).length = es.length := strv_length es
        refine gb_by (and_tt (and_tt (view_rows rfl rfl).1 rfl) (and_tt (and_tt (rootG_mk (by omega) (by omega)) (by rw [map_strOf_strv]; exact q2)) rfl)) ?_
        refine gb_by (dt (by first | omega | (simp only [true_and, and_true, Int.le_refl]; omega))) (gb_by (and_tt (strv_is _) (dt (by first | omega | (simp only [true_and, and_true, Int.le_refl]; omega)))) (gb_by (dt (by first | omega | (simp only [true_and, and_true, Int.le_refl]; omega))) (gb_by (dt (by first | omega | (simp only [true_and, and_true, Int.le_refl]; omega))) (gb_by rfl ?_))))
        refine gb_by (and_tt rfl (and_tt (strv_is _) (dt (by first | omega | (simp only [true_and, and_true, Int.le_refl]; omega))))) (gb_by (and_tt rfl (and_tt (iv_isI64 _) (dt (by first | omega | (simp only [true_and, and_true, Int.le_refl]; omega))))) (gb_by (dt ⟨by decide, fun _ => rfl⟩) ?_))
        rw [← hy, ← hfree]
        refine froz_of (view_root (insL r.1 y (es.getD 3 []), insL r.2 (y + 1) (no : Int))) (view_rootW (insL r.1 y (es.getD 3 []), insL r.2 (y + 1) (no : Int))) ?_ ?_ ?_ ?_
        · simp [lfOf]
        · simp [lfIs, okW_same]
        · simp [noOutL, AVal.noOut, strv_noOut]
        · simp [noTokL, AVal.noTok, strv_noTok, Tag.below]
  · refine gb_by hM ?_
    have ho : ownB r l s = false := ho
    intro p hp b hb
    have e : insN r l s = errC 100 := by simp only [insN, ho]; rfl
    refine gb_by (by simp [lenOk_mk]) (brV_by (fun _ => ?_) (fun h => by cases h))
    rw [e]; exact froz_err
theorem insert_ok : EntOk Try.prog insertE := by
  intro xs σ; simp only [insertE, chE]; split
  · rename_i v u s
    intro hc
    simp only [Bool.and_eq_true] at hc
    obtain ⟨r1, r2, r3⟩ := rootM_spec hc.1
    obtain ⟨l1, l2⟩ := lfM_spec hc.2
    exact PCall.ofRows (.cons (wk_root r1) (.cons (wk_lf l1) (.refl _))) (insert_c (rootOf v) (lfOf u) s r2 r3 l2) (by simp only [noOutL, root_noOut, lf_noOut, AVal.noOut, Bool.and_true]) (by simp only [noTokL, root_noTok, lf_noTok, AVal.noTok, Bool.and_true]) (ch_noOut _ _) (ch_noTok _ _)
  · trivial

theorem remove_c (r : Root) (l : Lf) (s : Txt) (h1 : r.1.length ≤ 1000000) (h2 : r.2.length ≤ 1000000) (h3 : l.2.1.length ≤ 1000000) :
    ACall Try.prog 18 [rootV r, lfV l, .str s] Sto.empty (Froz (chV (remN r l s))) := by
  have hn1 : (strv r.1).length = r.1.length := strv_length r.1
  have hn2 : (iv r.2).length = r.2.length := iv_length r.2
  refine remove_i r l s _ (.of [ownE, roE bsE, delOrE, delIE, roE atE] rfl ⟨own_ok, roE_ok bs_ok, delOr_ok, delI_ok, roE_ok at_ok, trivial⟩) ?_
  simp only [hold_eq, map_strOf_strv, map_intOf_iv, fold_root, fold_lf]
  have hM : (rootM (rootV r) && (lfM (lfV l) && isR (Sto.push Sto.empty (.cells [.slice [] 0 .nil, .slice [] 0 .nil])))) = true := by rw [rootM_mk h1 h2, lfM_mk h3, isR_mk]; rfl
  refine brV_by (fun ho => ?_) (fun ho => ?_)
  · refine gb_by hM ?_
    have ho : ownB r l s = true := ho
    obtain ⟨hl, hf, h0⟩ := ownB_iff.1 ho
    obtain ⟨g1, g2, g3⟩ := lfB_iff.1 hl
    obtain ⟨q1, q2, q3, q4⟩ := rootB_iff.1 (ownB_root ho)
    intro p hp b hb
    refine gb_by ?_ (brV_by (fun h => by cases h) fun _ => ?_)
    · simp [g3, strv_noOut, strv_noTok, lenOk_mk (show l.2.1.length ≤ 140737488351232 by omega)]
    refine brV_by (fun h => ?_) (fun h => ?_)
    · have hc : l.2.1.contains s = false := by rw [← hb]; simpa using h
      have e : remN r l s = errC 101 := by simp only [remN, ho, hc, if_true]; rfl
      rw [e]; exact froz_err
    have hc : l.2.1.contains s = true := by rw [← hb]; simpa using h
    have hplt : p < l.2.1.length := by rw [hp]; exact posN_lt_len g3 hc
    simp only [Int.toNat_natCast, delC_strv]
    have hil := delL_length l.2.1 p hplt
    have hsl := strv_length (delL l.2.1 p)
    have hw : IntKind.i64.wrap ((p : Int) + 1) = (p : Int) + 1 := by rw [wrap_i64 (by omega) (by omega)]
    have keep : (0 < (delL l.2.1 p).length ∨ r.2.length = 1) → Froz (chV (remN r l s)) (.tuple [.agg [.mrow 3 (strv r.1).length, .mrow 5 (iv r.2).length], .slice [.agg [.int .i64 l.1, .slice (strv (delL l.2.1 p)) 1 .ro, .bool false]] 3 .full, .int .i64 0])
        (Sto.set (Sto.del (Sto.set (Sto.set (Sto.pushRow (Sto.pushRow (Sto.pushRow (Sto.push (Sto.push (Sto.push Sto.empty (.cells nilRC)) (.cells nilRC)) (.cells nilLC)) (strv r.1) 1) (iv r.2) 1) (strv l.2.1) 1) 1 (.cells [.mrow 3 (strv r.1).length, .mrow 5 (iv r.2).length])) 2 (.cells [.int .i64 l.1, .mrow 7 (strv l.2.1).length, .bool false])) 7) 0 (.cells [.mrow 3 (strv r.1).length, .mrow 5 (iv r.2).length])) := fun hk => by
      have e : remN r l s = (r, [(l.1, delL l.2.1 p, false)], 0) := by rw [hp] at hk ⊢; simp only [remN, ho, hc, hk, if_true]
      rw [e]
      refine froz_of (view_rows (r := r) rfl rfl).1 (view_rowsW (r := r) rfl rfl) ?_ ?_ ?_ ?_
      · simp [lfOf]
      · simp [lfIs, okW_same]
      · simp [noOutL, AVal.noOut, strv_noOut]
      · simp [noTokL, AVal.noTok, strv_noTok, Tag.below]
    refine gb_by ?_ (brV_by' (fun h => ?_) (fun h => keep (.inl (by have := of_decide_eq_true h; omega))))
    · simp only [strv_is, Bool.true_and, hold_eq]
      rw [Bool.and_eq_true]
      exact ⟨rfl, dt ⟨trivial, by omega, by have := strv_length l.2.1; omega, hw, by have := strv_length l.2.1; omega⟩⟩
    have hz : (delL l.2.1 p).length = 0 := by have := of_decide_eq_false h; omega
    refine brV_by (fun h => ?_) (fun h => ?_)
    · exact keep (.inr (by have : ((iv r.2).length : Int) = 1 := by simpa using h
                           omega))
    · have hr1 : r.2.length ≠ 1 := by have : ¬ ((iv r.2).length : Int) = 1 := by simpa using h
                                      omega
      have hnk : ¬ (0 < (delL l.2.1 p).length ∨ r.2.length = 1) := by omega
      have e : remN r l s = ((delL r.1 (min (atN r.1 s) (r.1.length - 1)), delL r.2 (atN r.1 s)), [(l.1, [], true)], 0) := by
        rw [hp] at hnk; simp only [remN, ho, hc, hnk, if_true, if_false]
      rw [e]
      have hat : atN r.1 s ≤ r.1.length := atN_le _ _
      generalize hes : delL l.2.1 p = es at *
      refine toCut (Eq.mpr (removeC_r r.1 r.2 l.2.1 es l.1 (strv r.1).length (iv r.2).length s [.slice [] 0 .nil, .slice [] 0 .nil] [.mrow 3 (strv r.1).length, .mrow 5 (iv r.2).length] [.int .i64 l.1, .mrow 7 (strv l.2.1).length, .bool false] _) ?_)
      intro y hy
      simp only [hold_eq, map_strOf_strv] at hy
      have hy2 : y ≤ r.1.length := by omega
      have hw2 : IntKind.i64.wrap ((y : Int) + 1) = (y : Int) + 1 := by rw [wrap_i64 (by omega) (by omega)]
      have hm : (if IntKind.i64.wrap (((strv r.1).length : Int) - 1) < (y : Int) then IntKind.i64.wrap (((strv r.1).length : Int) - 1) else (y : Int)) = ((min y (r.1.length - 1) : Nat) : Int) := by
        rw [wrap_i64 (by omega) (by omega)]
        split <;> omega
      have hw3 : IntKind.i64.wrap (((min y (r.1.length - 1) : Nat) : Int) + 1) = ((min y (r.1.length - 1) : Nat) : Int) + 1 := by rw [wrap_i64 (by omega) (by omega)]
      simp only [hold_eq, hm, hw2, hw3, Int.toNat_natCast, delC_strv, delC_iv]
      refine gb_by (and_tt (and_tt (view_rows rfl rfl).1 rfl) (and_tt (and_tt (rootG_mk (by omega) (by omega)) (by rw [map_strOf_strv]; exact q2)) rfl)) ?_
      refine gb_by (and_tt rfl (and_tt (iv_isI64 _) (dt (by first | omega | (simp only [true_and, and_true, Int.le_refl]; omega))))) (gb_by (and_tt rfl (and_tt (strv_is _) (dt (by first | omega | (simp only [true_and, and_true, Int.le_refl]; omega))))) (gb_by (dt ⟨by decide, fun _ => rfl⟩) ?_))
      rw [← hy]
      refine froz_of (view_root (delL r.1 (min y (r.1.length - 1)), delL r.2 y)) (view_rootW (delL r.1 (min y (r.1.length - 1)), delL r.2 y)) ?_ ?_ ?_ ?_
      · simp [lfOf]
      · simp [lfIs, okW]
      · simp [noOutL, AVal.noOut]
      · simp [noTokL, AVal.noTok, Tag.below]
  · refine gb_by hM ?_
    have ho : ownB r l s = false := ho
    intro p hp b hb
    have e : remN r l s = errC 100 := by simp only [remN, ho]; rfl
    refine gb_by (by simp [lenOk_mk]) (brV_by (fun _ => ?_) (fun h => by cases h))
    rw [e]; exact froz_err
theorem remove_ok : EntOk Try.prog removeE := by
  intro xs σ; simp only [removeE, chE]; split
  · rename_i v u s
    intro hc
    simp only [Bool.and_eq_true] at hc
    obtain ⟨r1, r2, r3⟩ := rootM_spec hc.1
    obtain ⟨l1, l2⟩ := lfM_spec hc.2
    exact PCall.ofRows (.cons (wk_root r1) (.cons (wk_lf l1) (.refl _))) (remove_c (rootOf v) (lfOf u) s r2 r3 l2) (by simp only [noOutL, root_noOut, lf_noOut, AVal.noOut, Bool.and_true]) (by simp only [noTokL, root_noTok, lf_noTok, AVal.noTok, Bool.and_true]) (ch_noOut _ _) (ch_noTok _ _)
  · trivial
end Go.Proofs.Ytlfnmhfmikomkaa
