/-
  Seat 11 (leaf): contracts of Empty and turned; the laws LeafSpans and LeafTurns over abstract values.
-/
import Derived.Test.YtlfnmhfmikomkaaId
import Derived.Test.YtlfnmhfmikomkaaIe
import Derived.Test.YtlfnmhfmikomkaaIm
import Derived.Test.YtlfnmhfmikomkaaFj
import Derived.Test.YtlfnmhfmikomkaaFz
set_option linter.unusedVariables false
set_option linter.unusedSimpArgs false
set_option maxRecDepth 20000
set_option maxHeartbeats 4000000
namespace Go.Proofs.Ytlfnmhfmikomkaa
open Go.AL

theorem empty_c : ACall Try.prog 10 [] Sto.empty fun v _ => Wk v (.tuple [.agg [.slice (strv []) 1 .ro, .slice (iv [1]) 1 .ro], .agg [.int .i64 1, .slice (strv []) 1 .ro, .bool false]]) := by
  refine empty_i _ (.of_none rfl) ?_
  exact Wk.tuple (.cons (Wk.agg (.cons (Wk.nil _ _ _) (.cons (Wk.ro _ _ _) (.refl _)))) (.cons (Wk.agg (.cons (.refl _) (.cons (Wk.nil _ _ _) (.refl _)))) (.refl _)))
theorem empty_ok : EntOk Try.prog emptyE := by
  intro xs σ; simp only [emptyE]; split
  · intro _
    exact pcall_of (.refl _) empty_c rfl rfl rfl rfl
  · trivial
theorem noRef_mi (k : Nat) (m : List (Int × Lf)) : AObj.noRef k (.map (mi lfV m)) = true := by
  simp only [AObj.noRef, mi, List.all_map, List.all_eq_true]
  intro x _
  simp [lfV, AVal.noRef, noRefL]
theorem mapVal_gf {r : Root} {m : List (Int × Lf)} (h : Idx r (gf m)) {n : Int} (hn : n ∈ r.2) (z : AVal) : mapVal (.int .i64 n) z (mi lfV m) = lfV (gf m n) := by
  rw [mapVal_mi, h.getI hn]
theorem putAll_take (m : List (Int × Lf)) (ls : List Lf) (k : Nat) (hk : k < ls.length) : putAll m (ls.take (k + 1)) = putI ls[k].1 ls[k] (putAll m (ls.take k)) := by
  unfold putAll
  rw [List.take_add_one, List.foldl_append, List.getElem?_eq_getElem hk]
  rfl
/-- What holds of an index in the laws' loops: few leaves, short entries. -/
structure SI (n : Nat) (P : Txt → Prop) (r : Root) (m : List (Int × Lf)) : Prop where
  idx : Idx r (gf m)
  full : Full r (gf m)
  few : r.2.length ≤ n
  ent : ∀ x, Idx.has r (gf m) x → P x
theorem SI.few1 {n : Nat} {P : Txt → Prop} {r : Root} {m : List (Int × Lf)} (h : SI n P r m) : r.1.length ≤ n := by
  have := (rootB_iff.1 h.idx.root).1
  have := h.few
  omega
theorem SI.cut {n : Nat} {P : Txt → Prop} {r : Root} {m : List (Int × Lf)} (h : SI n P r m) {n' : Nat} (hn : n ≤ n') : SI n' P r m := ⟨h.idx, h.full, by have := h.few; omega, h.ent⟩
theorem SI.empty {n : Nat} (hn : 1 ≤ n) {P : Txt → Prop} : SI n P ([], [1]) [(1, (1, [], false))] := by
  have hI : Idx ([], [1]) (gf [(1, (1, [], false))]) := idx_empty rfl
  refine ⟨hI, fun h => (h rfl).elim, hn, fun x hx => ?_⟩
  obtain ⟨i, hi, hx⟩ := hx
  obtain rfl : i = 0 := by simpa using hi
  exact absurd hx List.not_mem_nil
theorem keys_mi (m : List (Int × Lf)) : keysOk Try.prog 3 (mi lfV m) = true := keysOk_mi rfl _ _
theorem lfG_mk' {l : Lf} (h : l.2.1.length ≤ 4) : lfM (lfV l) = true := lfM_mk (by omega)
theorem insN_len2 (r : Root) (l : Lf) (s : Txt) : (insN r l s).2.1.length ≤ 2 := by
  unfold insN
  split
  · split
    · simp [errC]
    · split
      · simp [errC]
      · simp only []
        split <;> simp
  · simp [errC]

/-! ### LeafSpans -/
theorem setOwn_p0 (a b c : Nat) : Sto.setOwn (Sto.pushOwn (Sto.pushOwn Sto.empty a) b) 0 c = Sto.pushOwn (Sto.pushOwn Sto.empty c) b := setOwn_e20 a b c
/-- The inner loop that lays the changed leaves into the map. -/
theorem spansM_go (es : List Txt) (a b : Txt) (r : Root) (m : List (Int × Lf)) (i : Nat) (ls : List Lf) (hl : ls.length ≤ 2) (K : Exit → St → Prop)
    (hK : ∀ m' st, m' = putAll m ls → (St.norm [(15, 1), (16, 1)] [0, 1, 2, 7, 9, 10] [7, 46] st = spansL_S es a b r m' i) → K (.exit 2) st) :
    loopV (fun s => St.norm [(15, 1), (16, 1)] [0, 1, 2, 7, 9, 10, 12, 14] [7, 46] s) (vc Try.prog cSpans code_3_1_1_1_1_0_1_0_0_1_0_0_1_1_1_1_1_1_0_0) K (spansM_S es a b r m i ls 0) := by
  refine loopV_intro (α := Nat) (fun k => spansM_S es a b r (putAll m (ls.take k)) i ls k) (fun k => k ≤ ls.length) (fun k => ls.length - k) ?_ 0 (Nat.zero_le _)
  rintro k hk L hL
  refine Eq.mpr (spansM_r es a b r (putAll m (ls.take k)) i ls k L K) ?_
  have hlv : (lfv ls).length = ls.length := lfv_length ls
  simp only [hold_eq]
  refine brV_by (fun h => ?_) (fun h => ?_)
  · have hlt : k < ls.length := by have := of_decide_eq_true h; omega
    rw [elemAt_lfv ls k hlt]
    refine gb_by (dt (by omega)) (gb_by rfl (gb_by (dt (by omega)) (gb_by rfl (gb_by ?_ ?_))))
    · rw [keys_mi]; rfl
    · have e : mapPut (.int .i64 ls[k].1) (lfV ls[k]) (mi lfV (putAll m (ls.take k))) = mi lfV (putAll m (ls.take (k + 1))) := by
        rw [mapPut_mi, putAll_take m ls k hlt]
      have := hL (k + 1) hlt (by omega)
      rw [i64_succ hlt (by omega)]
      unfold spansM_S at this
      rw [← e] at this
      exact this
  · have hk' : k = ls.length := by have := of_decide_eq_false h; omega
    refine hK (putAll m (ls.take k)) _ ?_ rfl
    rw [hk', List.take_length]

/-- The entries that a loop over a leaf's entries takes. -/
theorem filt_take (p : Txt → Bool) (es : List Txt) (k : Nat) (hk : k < es.length) : (es.take (k + 1)).filter p = (es.take k).filter p ++ (if p es[k] then [es[k]] else []) := by
  rw [List.take_add_one, List.getElem?_eq_getElem hk, List.filter_append]
  congr 1
  cases h : p es[k] <;> simp [h]
theorem filt_len (p : Txt → Bool) (es : List Txt) (k : Nat) : ((es.take k).filter p).length ≤ es.length :=
  Nat.le_trans (List.length_filter_le _ _) (by simp; omega)
theorem inS_ge {a b x : Txt} (h : ordT x a ≥ 0) (h2 : ordT x b < 0) : inS a b x = true := by
  simp only [inS, ordT_ge'.1 h, ordT_lt'.1 h2]; rfl
theorem inS_no1 {a b x : Txt} (h : ¬ 0 ≤ ordT x a) : inS a b x = false := inS_false_lt (by
  cases hc : tlt x a with
  | true => rfl
  | false => exact (h (ordT_ge'.2 hc)).elim)
theorem inS_no2 {a b x : Txt} (h : ¬ ordT x b < 0) : inS a b x = false := inS_false_ge (by
  cases hc : tlt x b with
  | false => rfl
  | true => exact (h (ordT_lt'.2 hc)).elim)
theorem strv_one (o : List Txt) (x : Txt) : strv o ++ [.str x] = strv (o ++ [x]) := by simp [strv]
theorem spanF_take (f : Int → Lf) (a b : Txt) (l : List Int) (i : Nat) (hi : i < l.length) : spanF f a b (l.take (i + 1)) = spanF f a b (l.take i) ++ (f l[i]).2.1.filter (inS a b) := by
  rw [List.take_add_one, List.getElem?_eq_getElem hi, spanF_append]
  congr 1
  simp [spanF]
theorem spanF_len {r : Root} {f : Int → Lf} (h : Idx r f) (a b : Txt) : ∀ (l : List Int), (∀ n ∈ l, n ∈ r.2) → (spanF f a b l).length ≤ 4 * l.length
  | [], _ => Nat.zero_le _
  | n :: l, hl => by
    have ih := spanF_len h a b l fun m hm => hl m (List.mem_cons_of_mem _ hm)
    have h4 := h.len4 (hl n (List.mem_cons_self ..))
    have := List.length_filter_le (inS a b) (f n).2.1
    show ((f n).2.1.filter (inS a b) ++ spanF f a b l).length ≤ _
    rw [List.length_append, List.length_cons]
    omega
section
variable (a b : Txt) (r : Root) (m : List (Int × Lf))
/-- The inner loop of the span's leaves. -/
theorem spansO_go (o u : List Txt) (l : List Int) (i : Nat) (es : List Txt) (he : es.length ≤ 4) (ho : o.length ≤ 1000) (hs : ∀ x ∈ es, x.length ≤ 100) (K : Exit → St → Prop)
    (hK : ∀ st, St.norm [(15, 1), (16, 1)] [1, 2, 7, 9, 15, 16, 17, 18] [7, 46] st = spansJ_S a b r m (o ++ es.filter (inS a b)) u l i → K (.exit 6) st) :
    loopV (fun s => St.norm [(15, 1), (16, 1)] [1, 2, 7, 9, 15, 16, 17, 18, 19, 20] [7, 46] s) (vc Try.prog cSpans code_3_1_1_1_1_1_1_1_0_1_0_0_1_0_0_1_1_0_0) K (spansO_S a b r m o u l i es 0) := by
  have e0 : spansO_S a b r m o u l i es 0 = spansO_S a b r m (o ++ (es.take 0).filter (inS a b)) u l i es 0 := by simp
  rw [e0]
  refine loopV_intro (α := Nat) (fun k => spansO_S a b r m (o ++ (es.take k).filter (inS a b)) u l i es k) (fun k => k ≤ es.length) (fun k => es.length - k) ?_ 0 (Nat.zero_le _)
  rintro k hk L hL
  refine Eq.mpr (spansO_r a b r m (o ++ (es.take k).filter (inS a b)) u l i es k L K) ?_
  have hev : (strv es).length = es.length := strv_length es
  have hfl := filt_len (inS a b) es k
  have hov : (strv (o ++ (es.take k).filter (inS a b))).length = o.length + ((es.take k).filter (inS a b)).length := by rw [strv_length, List.length_append]
  simp only [hold_eq]
  refine brV_by (fun h => ?_) (fun h => ?_)
  · have hlt : k < es.length := by have := of_decide_eq_true h; omega
    have hnx := filt_take (inS a b) es k hlt
    have hx := hs _ (List.getElem_mem hlt)
    rw [elemAt_strv es k hlt, i64_succ hlt (by omega)]
    refine gb_by (dt (by omega)) (gb_by rfl (gb_by (dt (by show es[k].length ≤ 1000000; omega)) (brV_by (fun h1 => ?_) (fun h1 => ?_))))
    · have h1 : 0 ≤ ordT es[k] a := of_decide_eq_true h1
      refine gb_by (dt (by omega)) (gb_by rfl (gb_by (dt (by show es[k].length ≤ 1000000; omega)) (brV_by (fun h2 => ?_) (fun h2 => ?_))))
      · have h2 : ordT es[k] b < 0 := of_decide_eq_true h2
        rw [inS_ge h1 h2] at hnx
        refine gb_by (dt (by omega)) (gb_by rfl (gb_by (dt (by first | omega | (simp only [true_and, and_true, decide_eq_true_eq, Option.some.injEq, strv_length, iv_length, List.length_take, List.length_drop, List.length_append, List.length_cons, List.length_nil, Int.le_refl] <;> omega))) ?_))
        have := hL (k + 1) hlt (by omega)
        rw [setOwn_e20]
        unfold spansO_S at this
        rw [hnx, if_pos rfl, ← List.append_assoc, ← strv_one, List.length_append] at this
        exact this
      · have h2 : ¬ ordT es[k] b < 0 := of_decide_eq_false h2
        rw [inS_no2 h2] at hnx
        have := hL (k + 1) hlt (by omega)
        unfold spansO_S at this
        rw [hnx, if_neg (by simp), List.append_nil] at this
        exact this
    · have h1 : ¬ 0 ≤ ordT es[k] a := of_decide_eq_false h1
      rw [inS_no1 h1] at hnx
      have := hL (k + 1) hlt (by omega)
      unfold spansO_S at this
      rw [hnx, if_neg (by simp), List.append_nil] at this
      exact this
  · have hk' : k = es.length := by have := of_decide_eq_false h; omega
    refine hK _ ?_
    rw [hk', List.take_length]
    rfl
/-- The inner loop of all leaves. -/
theorem spansQ_go (o u : List Txt) (i : Nat) (es : List Txt) (he : es.length ≤ 4) (ho : u.length ≤ 1000) (hs : ∀ x ∈ es, x.length ≤ 100) (K : Exit → St → Prop)
    (hK : ∀ st, St.norm [(15, 1), (16, 1)] [1, 2, 7, 9, 15, 16, 21] [7, 46] st = spansK_S a b r m o (u ++ es.filter (inS a b)) i → K (.exit 10) st) :
    loopV (fun s => St.norm [(15, 1), (16, 1)] [1, 2, 7, 9, 15, 16, 21, 22, 23] [7, 46] s) (vc Try.prog cSpans code_3_1_1_1_1_1_1_1_1_0_1_0_0_1_0_0_1_1_0_0) K (spansQ_S a b r m o u i es 0) := by
  have e0 : spansQ_S a b r m o u i es 0 = spansQ_S a b r m o (u ++ (es.take 0).filter (inS a b)) i es 0 := by simp
  rw [e0]
  refine loopV_intro (α := Nat) (fun k => spansQ_S a b r m o (u ++ (es.take k).filter (inS a b)) i es k) (fun k => k ≤ es.length) (fun k => es.length - k) ?_ 0 (Nat.zero_le _)
  rintro k hk L hL
  refine Eq.mpr (spansQ_r a b r m o (u ++ (es.take k).filter (inS a b)) i es k L K) ?_
  have hev : (strv es).length = es.length := strv_length es
  have hfl := filt_len (inS a b) es k
  have hov : (strv (u ++ (es.take k).filter (inS a b))).length = u.length + ((es.take k).filter (inS a b)).length := by rw [strv_length, List.length_append]
  simp only [hold_eq]
  refine brV_by (fun h => ?_) (fun h => ?_)
  · have hlt : k < es.length := by have := of_decide_eq_true h; omega
    have hnx := filt_take (inS a b) es k hlt
    have hx := hs _ (List.getElem_mem hlt)
    rw [elemAt_strv es k hlt, i64_succ hlt (by omega)]
    refine gb_by (dt (by omega)) (gb_by rfl (gb_by (dt (by show es[k].length ≤ 1000000; omega)) (brV_by (fun h1 => ?_) (fun h1 => ?_))))
    · have h1 : 0 ≤ ordT es[k] a := of_decide_eq_true h1
      refine gb_by (dt (by omega)) (gb_by rfl (gb_by (dt (by show es[k].length ≤ 1000000; omega)) (brV_by (fun h2 => ?_) (fun h2 => ?_))))
      · have h2 : ordT es[k] b < 0 := of_decide_eq_true h2
        rw [inS_ge h1 h2] at hnx
        refine gb_by (dt (by omega)) (gb_by rfl (gb_by (dt (by first | omega | (simp only [true_and, and_true, decide_eq_true_eq, Option.some.injEq, strv_length, iv_length, List.length_take, List.length_drop, List.length_append, List.length_cons, List.length_nil, Int.le_refl] <;> omega))) ?_))
        have := hL (k + 1) hlt (by omega)
        rw [setOwn_e21]
        unfold spansQ_S at this
        rw [hnx, if_pos rfl, ← List.append_assoc, ← strv_one, List.length_append] at this
        exact this
      · have h2 : ¬ ordT es[k] b < 0 := of_decide_eq_false h2
        rw [inS_no2 h2] at hnx
        have := hL (k + 1) hlt (by omega)
        unfold spansQ_S at this
        rw [hnx, if_neg (by simp), List.append_nil] at this
        exact this
    · have h1 : ¬ 0 ≤ ordT es[k] a := of_decide_eq_false h1
      rw [inS_no1 h1] at hnx
      have := hL (k + 1) hlt (by omega)
      unfold spansQ_S at this
      rw [hnx, if_neg (by simp), List.append_nil] at this
      exact this
  · have hk' : k = es.length := by have := of_decide_eq_false h; omega
    refine hK _ ?_
    rw [hk', List.take_length]
    rfl
end
/-- What a look into the map gives. -/
theorem look_gf {r : Root} {m : List (Int × Lf)} (h : Idx r (gf m)) {n : Int} (hn : n ∈ r.2) : mapVal (.int .i64 n) (.agg [.int .i64 0, .slice [] 0 .nil, .bool false]) (mi lfV m) = lfV (gf m n) := mapVal_gf h hn _
theorem look_ok {r : Root} {m : List (Int × Lf)} (h : Idx r (gf m)) {n : Int} (hn : n ∈ r.2) :
    (keysOk Try.prog 3 (mi lfV m) && (isAggN 3 (lfV (gf m n)) && (etaOk (.int .i64) ((lfV (gf m n)).cells.getD 0 .undef) && (sliceOk 1 ((lfV (gf m n)).cells.getD 1 .undef) && (etaOk .bool ((lfV (gf m n)).cells.getD 2 .undef) && true))))) = true := by
  rw [keys_mi]; rfl
theorem range_mem {r : Root} {a b : Txt} {n : Int} (h : n ∈ rangeN r a b) : n ∈ r.2 := by
  unfold rangeN at h
  split at h
  · exact List.mem_of_mem_drop (List.mem_of_mem_take h)
  · cases h
theorem range_len (r : Root) (a b : Txt) : (rangeN r a b).length ≤ r.2.length := by
  unfold rangeN
  split
  · rw [List.length_take, List.length_drop]; omega
  · exact Nat.zero_le _
theorem rise_filter {l : List Txt} (h : riseL l = true) (p : Txt → Bool) : riseL (l.filter p) = true := riseL_sub List.filter_sublist h

/-- Behind the first loop: what a span has. -/
theorem spansA_go (a b : Txt) (r : Root) (m : List (Int × Lf)) (h : SI 61 (fun x => x.length ≤ 100) r m) (Q : AVal → Sto → Prop) (hQ : ∀ τ, Q (.bool true) τ) :
    vc Try.prog cSpans code_3_1_1_1_1_1 (endK Try.prog Try.f3.results.toList Q) (spansA_S a b r m) := by
  have hI := h.idx
  have h61 := h.few
  have h1 := h.few1
  refine Eq.mpr (spansA_r a b r m Q) ?_
  intro y hy
  have hy : y = rangeN r a b := by rw [hy, map_strOf_strv, map_intOf_iv]
  refine gb_by (rootM_mk (by omega) (by omega)) ?_
  have hym : ∀ n ∈ y, n ∈ r.2 := fun n hn => range_mem (by rw [← hy]; exact hn)
  have hyl : y.length ≤ 61 := by have := range_len r a b; rw [hy]; omega
  have hes : ∀ n ∈ r.2, (gf m n).2.1.length ≤ 4 ∧ ∀ x ∈ (gf m n).2.1, x.length ≤ 100 := fun n hn => ⟨hI.len4 hn, fun x hx => h.ent x ((Idx.has_mem x).2 ⟨n, hn, hx⟩)⟩
  show loopV _ _ _ (spansN_S a b r m [] [] y 0)
  refine loopV_intro (α := Nat) (fun i => spansN_S a b r m (spanF (gf m) a b (y.take i)) [] y i) (fun i => i ≤ y.length) (fun i => y.length - i) ?_ 0 (Nat.zero_le _)
  rintro i hi L hL
  refine Eq.mpr (spansN_r a b r m (spanF (gf m) a b (y.take i)) [] y i L _) ?_
  have hyv : (iv y).length = y.length := iv_length y
  simp only [hold_eq]
  refine brV_by (fun hc => ?_) (fun hc => ?_)
  · have hlt : i < y.length := by have := of_decide_eq_true hc; omega
    have hmem : y[i] ∈ r.2 := hym _ (List.getElem_mem hlt)
    rw [elemAt_iv y i hlt]
    refine gb_by (dt (by omega)) (gb_by rfl ?_)
    have hlk := look_gf hI hmem
    have e1 : AVal.intOf (List.getD [AVal.int .i64 y[i]] 0 .undef) = y[i] := rfl
    rw [e1, hlk]
    refine gb_by (look_ok hI hmem) ?_
    have hsl := spanF_len hI a b (y.take i) (fun n hn => hym n (List.mem_of_mem_take hn))
    have htl : (y.take i).length ≤ y.length := by simp; omega
    refine spansO_go a b r m _ [] y i (gf m y[i]).2.1 (hes _ hmem).1 (by omega) (hes _ hmem).2 _ fun st hst => ?_
    refine leaveK (inBlock (toCut ?_))
    rw [hst]
    refine Eq.mpr (spansJ_r a b r m _ [] y i _) ?_
    have := hL (i + 1) hlt (by omega)
    rw [i64_succ hlt (by omega)]
    rw [spanF_take _ _ _ _ _ hlt] at this
    exact this
  · have hi' : i = y.length := by have := of_decide_eq_false hc; omega
    refine leaveTo (toCut (Eq.mpr (spansB_r a b r m _ [] Q) ?_))
    rw [hi', List.take_length]
    generalize ho : spanF (gf m) a b y = o
    have hol : o.length ≤ 244 := by have := spanF_len hI a b y hym; rw [ho] at this; omega
    show loopV _ _ _ (spansP_S a b r m o [] 0)
    refine loopV_intro (α := Nat) (fun i => spansP_S a b r m o (spanF (gf m) a b (r.2.take i)) i) (fun i => i ≤ r.2.length) (fun i => r.2.length - i) ?_ 0 (Nat.zero_le _)
    rintro i hi L hL
    refine Eq.mpr (spansP_r a b r m o (spanF (gf m) a b (r.2.take i)) i L _) ?_
    have hyv : (iv r.2).length = r.2.length := iv_length r.2
    simp only [hold_eq]
    refine brV_by (fun hc => ?_) (fun hc => ?_)
    · have hlt : i < r.2.length := by have := of_decide_eq_true hc; omega
      have hmem : r.2[i] ∈ r.2 := List.getElem_mem hlt
      rw [elemAt_iv r.2 i hlt]
      refine gb_by (dt (by omega)) (gb_by rfl ?_)
      have hlk := look_gf hI hmem
      have e1 : AVal.intOf (List.getD [AVal.int .i64 r.2[i]] 0 .undef) = r.2[i] := rfl
      rw [e1, hlk]
      refine gb_by (look_ok hI hmem) ?_
      have hsl := spanF_len hI a b (r.2.take i) (fun n hn => List.mem_of_mem_take hn)
      have htl : (r.2.take i).length ≤ r.2.length := by simp; omega
      refine spansQ_go a b r m o _ i (gf m r.2[i]).2.1 (hes _ hmem).1 (by omega) (hes _ hmem).2 _ fun st hst => ?_
      refine leaveK (inBlock (toCut ?_))
      rw [hst]
      refine Eq.mpr (spansK_r a b r m o _ i _) ?_
      have := hL (i + 1) hlt (by omega)
      rw [i64_succ hlt (by omega)]
      rw [spanF_take _ _ _ _ _ hlt] at this
      exact this
    · have hi' : i = r.2.length := by have := of_decide_eq_false hc; omega
      refine leaveTo (toCut (Eq.mpr (spansF_r m o (spanF (gf m) a b (r.2.take i)) Q) ?_))
      rw [hi', List.take_length]
      have e : o = spanF (gf m) a b r.2 := by rw [← ho, hy, hI.span]
      have hall := spanF_all r (gf m) a b
      have hsh : shortL (spanF (gf m) a b r.2) = true := by
        simp only [shortL, List.all_eq_true, decide_eq_true_eq]
        intro x hx
        rw [hall] at hx
        have := h.ent x ((mem_allT x).1 (List.mem_filter.1 hx).1)
        omega
      have hri : riseL (spanF (gf m) a b r.2) = true := by rw [hall]; exact rise_filter hI.rise _
      rw [← e] at hsh hri ⊢
      have hov : (strv o).length = o.length := strv_length o
      have hlo : lenOk (strv o).length = true := lenOk_mk (by omega)
      simp only [map_strOf_strv, hold_eq, beq_self_eq_true, brV_tt, hri, hsh]
      refine gb_by (and_tt (strv_is o) (and_tt (strv_is o) hlo)) (gb_by (and_tt (strv_is o) (and_tt rfl hlo)) (hQ _))
/-- LeafSpans. -/
theorem spans_c (es : List Txt) (a b : Txt) (hes : es.length ≤ 140737488351232) : ACall Try.prog 3 [.slice (strv es) 1 .ro, .str a, .str b] Sto.empty fun v _ => v = .bool true := by
  refine spans_i es a b _ (.of [awakeE, emptyE, findE, insertE, rangeE, textsE, riseRE, ordE] rfl ⟨awake_ok, empty_ok, find_ok, insert_ok, range_ok, texts_ok, riseR_ok, ord_ok, trivial⟩) ?_
  have hev : (strv es).length = es.length := strv_length es
  simp only [hold_eq]
  refine brV_by' (fun h0 => ?_) (fun _ => trivial)
  refine brV_by' (fun h1 => ?_) (fun _ => trivial)
  refine brV_by (fun _ => trivial) (fun h2 => ?_)
  have hl : es.length ≤ 60 := by have := of_decide_eq_false h0; omega
  show loopV _ _ _ (spansL_S es a b ([], [1]) [(1, (1, [], false))] 0)
  refine loopV_intro (α := Nat × Root × List (Int × Lf)) (fun x => spansL_S es a b x.2.1 x.2.2 x.1) (fun x => x.1 ≤ es.length ∧ SI (x.1 + 1) (fun x => x.length ≤ 100) x.2.1 x.2.2) (fun x => es.length - x.1) ?_ (0, ([], [1]), [(1, (1, [], false))]) ⟨Nat.zero_le _, SI.empty (Nat.le_refl _)⟩
  rintro ⟨i, r, m⟩ ⟨hi, hS⟩ L hL
  have hi : i ≤ es.length := hi
  have hS : SI (i + 1) (fun x => x.length ≤ 100) r m := hS
  refine Eq.mpr (spansL_r es a b r m i L _) ?_
  have hI := hS.idx
  have h61 := hS.few
  have h1' := hS.few1
  simp only [hold_eq]
  refine brV_by (fun hc => ?_) (fun hc => ?_)
  · have hlt : i < es.length := by have := of_decide_eq_true hc; omega
    rw [elemAt_strv es i hlt]
    refine gb_by (dt (by omega)) (gb_by rfl (brV_by (fun _ => rfl) (fun h3 => ?_)))
    have hx : es[i].length ≤ 100 := by
      have h3 : ¬ (100 : Int) < (es[i].length : Int) := of_decide_eq_false h3
      omega
    have hnr := noRef_mi 11 m
    refine gb_by ?_ (gb_by (dt (by omega)) (gb_by rfl ?_))
    · rw [hnr]; rfl
    intro y hy
    have hy : y = findN r es[i] := by rw [hy, map_strOf_strv, map_intOf_iv]; rfl
    refine gb_by (rootG_mk (by omega) (by omega)) ?_
    have hmem : y ∈ r.2 := by rw [hy]; exact hI.find_mem _
    rw [look_gf hI hmem]
    refine gb_by (look_ok hI hmem) (gb_by (dt (by omega)) (gb_by rfl ?_))
    intro z hz
    have hz : z = insN r (gf m y) es[i] := by
      rw [hz, map_strOf_strv, map_intOf_iv]
      show insN (r.1, r.2) ((gf m y).1, (strv (gf m y).2.1).map AVal.strOf, (gf m y).2.2) es[i] = _
      rw [map_strOf_strv]
    refine gb_by (and_tt (rootM_mk (by omega) (by omega)) (lfG_mk' (hI.len4 hmem))) (gb_by ?_ ?_)
    · rw [hnr]; decide
    rw [hy] at hz
    rcases step_ins hI hS.full (s := es[i]) (by omega) with ⟨e1, _⟩ | ⟨r', ls, e1, e2, e3, e4, e5, e6⟩
    · rw [e1] at hz
      subst hz
      refine brV_by (fun _ => toCut (Eq.mpr (spansI_r es a b r m i _) ?_)) (fun h => by have h : true = false := h; cases h)
      rw [i64_succ hlt (by omega)]
      exact hL (i + 1, r, m) ⟨hlt, hS.cut (by omega)⟩ (by show es.length - (i + 1) < es.length - i; omega)
    · rw [e1] at hz
      subst hz
      refine brV_by (fun h => by have h : false = true := h; cases h) (fun _ => brV_by (fun h => by have h : false = true := h; cases h) (fun _ => ?_))
      refine spansM_go es a b r' m i ls e2 _ fun m' st hm' hst => ?_
      refine leaveK (inBlock (toCut ?_))
      rw [hst]
      refine Eq.mpr (spansI_r es a b r' m' i _) ?_
      rw [i64_succ hlt (by omega), hm']
      refine hL (i + 1, r', putAll m ls) ⟨hlt, ⟨e4, e5, by show r'.2.length ≤ i + 1 + 1; omega, fun x hx' => ?_⟩⟩ (by show es.length - (i + 1) < es.length - i; omega)
      rcases (e6 x).1 hx' with rfl | h
      · exact hx
      · exact hS.ent x h
  · exact leaveTo (toCut (spansA_go a b r m (hS.cut (by omega)) _ fun _ => rfl))
theorem spans_law (xs : List AVal) (h : FitsL [.slice .str 1 16, .str, .str] xs) :
    ACall Try.prog 3 xs Sto.empty fun v _ => v = .bool true := by
  obtain ⟨a1, t1, rfl, f1, a2, t2, rfl, f2, a3, t3, rfl, f3, rfl⟩ := h
  obtain ⟨l1, rfl, b1⟩ := fits_strv f1
  obtain ⟨a, rfl, _⟩ := f2
  obtain ⟨b, rfl, _⟩ := f3
  exact spans_c l1 a b (by omega)
end Go.Proofs.Ytlfnmhfmikomkaa
