/-
  Seat 11 (leaf): the references' Insert and Remove.
-/
import Derived.Test.YtlfnmhfmikomkaaFq
set_option linter.unusedVariables false
set_option linter.unusedSimpArgs false
set_option maxRecDepth 20000
set_option maxHeartbeats 4000000
namespace Go.Proofs.Ytlfnmhfmikomkaa
open Go.AL

theorem mid0_strv (l : List Txt) (i : Nat) : List.take (i - 0) (List.drop 0 (strv l)) = strv (l.take i) := by rw [strv_take, List.drop_zero, Nat.sub_zero]
theorem mid1_strv (l : List Txt) (i : Nat) : List.take ((strv l).length - i) (List.drop i (strv l)) = strv (l.drop i) := by rw [strv_drop, List.take_of_length_le (by simp)]
theorem iv_takeE (l : List Int) (i : Nat) : iv (l.take i) = (iv l).take i := by simp [iv, List.map_take]
theorem iv_dropE (l : List Int) (i : Nat) : iv (l.drop i) = (iv l).drop i := by simp [iv, List.map_drop]
theorem mid0_iv (l : List Int) (i : Nat) : List.take (i - 0) (List.drop 0 (iv l)) = iv (l.take i) := by rw [iv_takeE, List.drop_zero, Nat.sub_zero]
theorem mid1_iv (l : List Int) (i : Nat) : List.take ((iv l).length - i) (List.drop i (iv l)) = iv (l.drop i) := by rw [iv_dropE, List.take_of_length_le (by simp)]
theorem strv_insL (l : List Txt) (i : Nat) (s : Txt) : strv (insL l i s) = strv (l.take i) ++ [.str s] ++ strv (l.drop i) := by simp [insL, strv]
theorem iv_insL (l : List Int) (i : Nat) (s : Int) : iv (insL l i s) = iv (l.take i) ++ [.int .i64 s] ++ iv (l.drop i) := by simp [insL, iv]
theorem strv_delL (l : List Txt) (i : Nat) : strv (delL l i) = strv (l.take i) ++ strv (l.drop (i + 1)) := by simp [delL, strv]
theorem iv_delL (l : List Int) (i : Nat) : iv (delL l i) = iv (l.take i) ++ iv (l.drop (i + 1)) := by simp [delL, iv]

theorem put_c (l : List Txt) (i : Nat) (s : Txt) (hi : i ≤ l.length) (hl : l.length ≤ 1000000) : ACall Try.prog 50 [.slice (strv l) 1 .ro, .int .i64 (i : Int), .str s] Sto.empty fun r _ => Wk r (.slice (strv (insL l i s)) 1 .ro) := by
  refine put_i l i s _ (.of_none rfl) ?_
  have hn := strv_length l
  simp only [hold_eq, Int.toNat_natCast, mid0_strv, mid1_strv]
  refine gb_by (dt (by first | omega | (simp only [true_and, and_true, decide_eq_true_eq, Option.some.injEq, strv_length, iv_length, List.length_take, List.length_drop, List.length_append, List.length_cons, List.length_nil, Int.le_refl] <;> omega))) (gb_by (dt (by first | omega | (simp only [true_and, and_true, decide_eq_true_eq, Option.some.injEq, strv_length, iv_length, List.length_take, List.length_drop, List.length_append, List.length_cons, List.length_nil, Int.le_refl] <;> omega))) (gb_by (dt (by first | omega | (simp only [true_and, and_true, decide_eq_true_eq, Option.some.injEq, strv_length, iv_length, List.length_take, List.length_drop, List.length_append, List.length_cons, List.length_nil, Int.le_refl] <;> omega))) (gb_by (dt (by first | omega | (simp only [true_and, and_true, decide_eq_true_eq, Option.some.injEq, strv_length, iv_length, List.length_take, List.length_drop, List.length_append, List.length_cons, List.length_nil, Int.le_refl] <;> omega))) (gb_by (dt (by first | omega | (simp only [true_and, and_true, decide_eq_true_eq, Option.some.injEq, strv_length, iv_length, List.length_take, List.length_drop, List.length_append, List.length_cons, List.length_nil, Int.le_refl] <;> omega))) ?_))))
  rw [strv_insL]
  exact Wk.ro _ _ _
theorem put_ok : EntOk Try.prog putE := by
  intro xs σ; simp only [putE]; split
  · rename_i es s t i x
    intro hc
    simp only [Bool.and_eq_true, hold_eq, decide_eq_true_eq] at hc
    obtain ⟨h1, h2, h3, h4, h5⟩ := hc
    have e : i = (i.toNat : Int) := by omega
    have := put_c (es.map AVal.strOf) i.toNat x (by simp; omega) (by simpa using h5)
    rw [← e] at this
    exact pcall_of (.cons (wk_strv t h1 h2) (.refl _)) this (by simp only [noOutL, AVal.noOut, strv_noOut, Bool.and_true]) (by simp only [noTokL, AVal.noTok, strv_noTok, Bool.and_true, Tag.below]) (by simp only [AVal.noOut, strv_noOut]) (by simp only [AVal.noTok, strv_noTok, Tag.below, Bool.and_true])
  · trivial
theorem cut_c (l : List Txt) (i : Nat) (hi : i < l.length) (hl : l.length ≤ 1000000) : ACall Try.prog 52 [.slice (strv l) 1 .ro, .int .i64 (i : Int)] Sto.empty fun r _ => Wk r (.slice (strv (delL l i)) 1 .ro) := by
  refine cut_i l i _ (.of_none rfl) ?_
  have hn := strv_length l
  have hw : IntKind.i64.wrap ((i : Int) + 1) = ((i + 1 : Nat) : Int) := by rw [wrap_i64 (by omega) (by omega)]; rfl
  simp only [hold_eq, hw, Int.toNat_natCast, mid0_strv, mid1_strv]
  refine gb_by (dt (by first | omega | (simp only [true_and, and_true, decide_eq_true_eq, Option.some.injEq, strv_length, iv_length, List.length_take, List.length_drop, List.length_append, List.length_cons, List.length_nil, Int.le_refl] <;> omega))) (gb_by (dt (by first | omega | (simp only [true_and, and_true, decide_eq_true_eq, Option.some.injEq, strv_length, iv_length, List.length_take, List.length_drop, List.length_append, List.length_cons, List.length_nil, Int.le_refl] <;> omega))) (gb_by (dt (by first | omega | (simp only [true_and, and_true, decide_eq_true_eq, Option.some.injEq, strv_length, iv_length, List.length_take, List.length_drop, List.length_append, List.length_cons, List.length_nil, Int.le_refl] <;> omega))) (gb_by (dt (by first | omega | (simp only [true_and, and_true, decide_eq_true_eq, Option.some.injEq, strv_length, iv_length, List.length_take, List.length_drop, List.length_append, List.length_cons, List.length_nil, Int.le_refl] <;> omega))) ?_)))
  rw [strv_delL]
  exact Wk.ro _ _ _
theorem cut_ok : EntOk Try.prog cutE := by
  intro xs σ; simp only [cutE]; split
  · rename_i es s t i
    intro hc
    simp only [Bool.and_eq_true, hold_eq, decide_eq_true_eq] at hc
    obtain ⟨h1, h2, h3, h4, h5⟩ := hc
    have e : i = (i.toNat : Int) := by omega
    have := cut_c (es.map AVal.strOf) i.toNat (by simp; omega) (by simpa using h5)
    rw [← e] at this
    exact pcall_of (.cons (wk_strv t h1 h2) (.refl _)) this (by simp only [noOutL, AVal.noOut, strv_noOut, Bool.and_true]) (by simp only [noTokL, AVal.noTok, strv_noTok, Bool.and_true, Tag.below]) (by simp only [AVal.noOut, strv_noOut]) (by simp only [AVal.noTok, strv_noTok, Tag.below, Bool.and_true])
  · trivial

theorem wk_err (e : Int) : Wk (.tuple [.agg [.slice [] 0 .nil, .slice [] 0 .nil], .slice [] 0 .nil, .int .i64 e]) (chV (errC e)) :=
  Wk.tuple (.cons (.agg (.cons (Wk.nil _ _ _) (.cons (Wk.nil _ _ _) (.refl _)))) (.cons (Wk.nil _ _ _) (.refl _)))
theorem wk_ch {A : AVal} {ls : List AVal} {e : Int} {R : Root} {L : List Lf} (hA : Wk A (rootV R)) (hL : ls.map lfOf = L) (h1 : ls.all lfIs = true) : Wk (.tuple [A, .slice ls 3 .full, .int .i64 e]) (chV (R, L, e)) := by
  subst hL
  exact Wk.tuple (.cons hA (.cons (wk_lfs _ (okW_same _ _) h1) (.refl _)))

theorem insertR_c (r : Root) (l : Lf) (s : Txt) (h1 : r.1.length ≤ 1000000) (h2 : r.2.length ≤ 1000000) (h3 : l.2.1.length ≤ 1000000) (hs1 : shortL r.1 = true) (hs2 : shortL l.2.1 = true) :
    ACall Try.prog 19 [rootV r, lfV l, .str s] Sto.empty fun v _ => Wk v (chV (insN r l s)) := by
  have hn1 : (strv r.1).length = r.1.length := strv_length r.1
  have hn2 : (iv r.2).length = r.2.length := iv_length r.2
  have hn3 : (strv l.2.1).length = l.2.1.length := strv_length _
  refine insertR_i r l s _ (.of [rootRE, leafRE, findRE, hasE, ordE, putE, atRE] rfl ⟨rootR_ok, leafR_ok, findR_ok, has_ok, ord_ok, put_ok, atR_ok, trivial⟩) ?_
  simp only [hold_eq, map_strOf_strv, map_intOf_iv, fold_root, fold_lf]
  have hR : rootH (rootV r) = true := rootH_mk (by omega) (by omega) hs1
  have hLf : lfH (lfV l) = true := lfH_mk (by omega) hs2
  have hbad : ownB r l s = false → Wk (.tuple [.agg [.slice [] 0 .nil, .slice [] 0 .nil], .slice [] 0 .nil, .int .i64 100]) (chV (insN r l s)) := fun ho => by
    have e : insN r l s = errC 100 := by simp only [insN, ho]; rfl
    rw [e]; exact wk_err _
  have hrf := ownB_ref r l s
  refine gb_by hR (brV_by' (fun h => ?_) (fun h => hbad ?_))
  case refine_2 =>
    have h : rootB r = false := by
      have h : (!rootB r) = true := h
      simpa using h
    rw [hrf, h]; rfl
  have hb1 : rootB r = true := by
    have h : (!rootB r) = false := h
    simpa using h
  refine gb_by hLf (brV_by' (fun h => ?_) (fun h => hbad ?_))
  case refine_2 =>
    have h : lfB l = false := by
      have h : (!lfB l) = true := h
      simpa using h
    rw [hrf, h, hb1]; rfl
  have hb2 : lfB l = true := by
    have h : (!lfB l) = false := h
    simpa using h
  intro fy hfy
  refine gb_by hR (brV_by (fun h => hbad ?_) (fun h => ?_))
  · have h : ¬ fy = l.1 := by simpa using h
    have h2 : findN r s = fy := hfy.symm
    rw [hrf, hb1, hb2, h2]
    simpa using h
  have hfe : fy = l.1 := by simpa using h
  have ho : ownB r l s = true := by
    have h2 : findN r s = fy := hfy.symm
    rw [hrf, hb1, hb2, h2, hfe]; simp
  obtain ⟨g1, g2, g3⟩ := lfB_iff.1 hb2
  obtain ⟨q1, q2, q3, q4⟩ := rootB_iff.1 hb1
  refine brV_by (fun h => ?_) (fun h => ?_)
  · have : 600 < s.length := by have := of_decide_eq_true h; omega
    have e : insN r l s = errC 82 := by simp only [insN, ho, this, if_true]
    rw [e]; exact wk_err _
  have hs : ¬ 600 < s.length := by have := of_decide_eq_false h; omega
  intro b hb p hp
  refine gb_by (and_tt (strv_is _) (lenOk_mk (by omega))) (brV_by (fun h => ?_) (fun h => ?_))
  · have hc : l.2.1.contains s = true := by
      have h0 : (0 : Int) ≤ p := of_decide_eq_true h
      rw [← hb]
      cases b with
      | true => rfl
      | false => rw [hp] at h0; simp at h0
    have e : insN r l s = errC 31 := by simp only [insN, ho, hs, hc, if_true, if_false]
    rw [e]; exact wk_err _
  have hc : l.2.1.contains s = false := by
    have h0 : ¬ (0 : Int) ≤ p := of_decide_eq_false h
    rw [← hb]
    cases b with
    | false => rfl
    | true => exact (h0 (by rw [hp]; simp)).elim
  have hple : posN l.2.1 s ≤ l.2.1.length := posN_le _ _
  refine loopV_intro (α := Nat) (fun i => insertRL_S r l s [.slice [] 0 .nil, .slice [] 0 .nil] i) (fun i => i ≤ posN l.2.1 s) (fun i => l.2.1.length - i) ?_ 0 (Nat.zero_le _)
  rintro i hi L hL
  refine Eq.mpr (insertRL_r r l s [.slice [] 0 .nil, .slice [] 0 .nil] i L _) ?_
  simp only [hold_eq]
  suffices hA : i = posN l.2.1 s → vc Try.prog cInsertR code_19_1_1_1_1_1_1 (endK Try.prog Try.f19.results.toList (fun v _ => Wk v (chV (insN r l s)))) (insertRA_S r l s [.slice [] 0 .nil, .slice [] 0 .nil] i) by
    refine brV_by (fun h => ?_) (fun h => ?_)
    · have hlt : i < l.2.1.length := by have := of_decide_eq_true h; omega
      rw [i64_succ hlt (by omega), elemAt_strv l.2.1 i hlt]
      refine gb_by (dt (by omega)) (gb_by rfl (gb_by (dt (short_get hs2 hlt)) (brV_by (fun h => ?_) (fun h => ?_))))
      · have h : tlt l.2.1[i] s = true := ordT_lt'.1 (of_decide_eq_true h)
        exact hL (i + 1) ((posN_lt g3 s i hlt).1 h) (by omega)
      · have h : ¬ tlt l.2.1[i] s = true := fun h' => of_decide_eq_false h (ordT_lt'.2 h')
        have : ¬ i < posN l.2.1 s := fun h' => h ((posN_lt g3 s i hlt).2 h')
        exact leaveTo (toCut (hA (by omega)))
    · have hge : ¬ i < l.2.1.length := by have := of_decide_eq_false h; omega
      exact leaveTo (toCut (hA (by omega)))
  intro hip
  subst hip
  refine Eq.mpr (insertRA_r r l s [.slice [] 0 .nil, .slice [] 0 .nil] (posN l.2.1 s) _) ?_
  simp only [hold_eq, map_strOf_strv, Int.toNat_natCast]
  have hil := insL_length l.2.1 (posN l.2.1 s) s hple
  have hsl := strv_length (insL l.2.1 (posN l.2.1 s) s)
  refine gb_by (and_tt (strv_is _) (dt (by first | omega | (simp only [true_and, and_true, decide_eq_true_eq, Option.some.injEq, strv_length, iv_length, List.length_take, List.length_drop, List.length_append, List.length_cons, List.length_nil, Int.le_refl] <;> omega)))) (brV_by (fun h => ?_) (fun h => ?_))
  · have h4 : (insL l.2.1 (posN l.2.1 s) s).length ≤ 4 := by have := of_decide_eq_true h; omega
    have e : insN r l s = (r, [(l.1, insL l.2.1 (posN l.2.1 s) s, false)], 0) := by simp only [insN, ho, hs, hc, h4, if_true, if_false]; rfl
    refine gb_by (dt ⟨by decide, fun _ => rfl⟩) ?_
    rw [e]
    exact wk_ch (Wk.refl _) (by simp [lfOf]) (by simp [lfIs, okW_same])
  · have h4 : ¬ (insL l.2.1 (posN l.2.1 s) s).length ≤ 4 := by have := of_decide_eq_false h; omega
    have h5 : (insL l.2.1 (posN l.2.1 s) s).length = 5 := by omega
    have e : insN r l s = ((insL r.1 (atN r.1 s) ((insL l.2.1 (posN l.2.1 s) s).getD 3 []), insL r.2 (atN r.1 s + 1) (freeN r.2 : Int)), [(l.1, (insL l.2.1 (posN l.2.1 s) s).take 3, false), ((freeN r.2 : Int), (insL l.2.1 (posN l.2.1 s) s).drop 3, false)], 0) := by
      simp only [insN, ho, hs, hc, h4, if_true, if_false]; rfl
    rw [e]
    have hat : atN r.1 s ≤ r.1.length := atN_le _ _
    generalize hes : insL l.2.1 (posN l.2.1 s) s = es at *
    refine loopV_intro (α := Nat × Nat) (fun x => insertRM_S r l s [.slice [] 0 .nil, .slice [] 0 .nil] es x.1 x.2)
      (fun x => x.2 ≤ r.2.length ∧ 1 ≤ x.1 ∧ (∀ k : Nat, 1 ≤ k → k < x.1 → (k : Int) ∈ r.2) ∧ ((x.1 : Int) ∉ r.2 ∨ x.2 + 1 ≤ x.1)) (fun x => r.2.length - x.2) ?_ (1, 0) ⟨Nat.zero_le _, Nat.le_refl _, fun k _ _ => by omega, .inr (Nat.le_refl _)⟩
    rintro ⟨no, i⟩ ⟨hi, hno, hbel, hor⟩ L hL
    refine Eq.mpr (insertRM_r r l s [.slice [] 0 .nil, .slice [] 0 .nil] es no i L _) ?_
    simp only [hold_eq]
    have hpg : ∀ no : Nat, (∀ k : Nat, 1 ≤ k → k < no → (k : Int) ∈ r.2) → no ≤ r.2.length + 1 := fun no hb => by
      have := pig (no - 1) r.2 fun k hk hk2 => hb k hk (by omega)
      omega
    refine brV_by (fun h => ?_) (fun h => ?_)
    · have hlt : i < r.2.length := by have := of_decide_eq_true h; omega
      refine loopV_intro (α := Nat × Nat) (fun x => insertRN_S r l s [.slice [] 0 .nil, .slice [] 0 .nil] es x.1 i x.2)
        (fun x => x.2 ≤ r.2.length ∧ 1 ≤ x.1 ∧ (∀ k : Nat, 1 ≤ k → k < x.1 → (k : Int) ∈ r.2) ∧ ((no : Int) ∉ r.2 → x.1 = no) ∧ (no < x.1 ∨ (x.1 = no ∧ ∀ j (hj : j < r.2.length), j < x.2 → r.2[j] ≠ (no : Int)))) (fun x => r.2.length - x.2) ?_ (no, 0)
        ⟨Nat.zero_le _, hno, hbel, fun _ => rfl, .inr ⟨rfl, fun j _ hj => by omega⟩⟩
      rintro ⟨n, k⟩ ⟨hk, hn1', hnb, hsame, hcase⟩ L2 hL2
      have hn := hpg n hnb
      refine Eq.mpr (insertRN_r r l s [.slice [] 0 .nil, .slice [] 0 .nil] es n i k L2 _) ?_
      simp only [hold_eq]
      refine brV_by (fun h => ?_) (fun h => ?_)
      · have hkl : k < r.2.length := by have := of_decide_eq_true h; omega
        rw [i64_succ hkl (by omega), elemAt_iv r.2 k hkl]
        refine gb_by (dt (by omega)) (gb_by rfl (brV_by (fun h => ?_) (fun h => ?_)))
        · have he : r.2[k] = (n : Int) := by
            have h : (r.2[k] == (n : Int)) = true := h
            simpa using h
          have hm : (n : Int) ∈ r.2 := by rw [← he]; exact List.getElem_mem hkl
          have hw : IntKind.i64.wrap ((n : Int) + 1) = ((n + 1 : Nat) : Int) := by rw [wrap_i64 (by omega) (by omega)]; rfl
          rw [hw]
          refine hL2 (n + 1, k + 1) ⟨hkl, by omega, fun j h1 h2 => ?_, fun hno' => ?_, .inl ?_⟩ (by show r.2.length - (k + 1) < r.2.length - k; omega)
          · rcases Nat.lt_or_ge j n with h4 | h4
            · exact hnb j h1 h4
            · obtain rfl : j = n := by omega
              exact hm
          · exact (hno' (by rw [← hsame hno']; exact hm)).elim
          · rcases hcase with h | ⟨h, _⟩ <;> omega
        · have he : r.2[k] ≠ (n : Int) := by
            have h : (r.2[k] == (n : Int)) = false := h
            simpa using h
          refine hL2 (n, k + 1) ⟨hkl, hn1', hnb, hsame, ?_⟩ (by show r.2.length - (k + 1) < r.2.length - k; omega)
          rcases hcase with h | ⟨h, h'⟩
          · exact .inl h
          · refine .inr ⟨h, fun j hj hjk => ?_⟩
            rcases Nat.lt_or_ge j k with h4 | h4
            · exact h' j hj h4
            · obtain rfl : j = k := by omega
              have h : n = no := h
              rw [← h]; exact he
      · have hge : ¬ k < r.2.length := by have := of_decide_eq_false h; omega
        refine leaveK (inBlock (toCut (Eq.mpr (insertRO_r r l s [.slice [] 0 .nil, .slice [] 0 .nil] es n i _) ?_)))
        rw [i64_succ hlt (by omega)]
        refine hL (n, i + 1) ⟨hlt, hn1', hnb, ?_⟩ (by show r.2.length - (i + 1) < r.2.length - i; omega)
        by_cases hm : (no : Int) ∈ r.2
        · have hi1 : i + 1 ≤ no := by
            rcases hor with h | h
            · exact (h hm).elim
            · exact h
          rcases hcase with h | ⟨h, h'⟩
          · exact .inr (by show i + 1 + 1 ≤ n; omega)
          · obtain ⟨j, hj, e⟩ := List.getElem_of_mem hm
            exact (h' j hj (by show j < k; omega) e).elim
        · have := hsame hm
          refine .inl ?_
          show (n : Int) ∉ r.2
          have h : n = no := this
          rw [h]; exact hm
    · have hge : ¬ i < r.2.length := by have := of_decide_eq_false h; omega
      have hm : (no : Int) ∉ r.2 := by
        rcases hor with h | h
        · exact h
        · intro hm
          have h : i + 1 ≤ no := h
          have := pig no r.2 fun k h1 h2 => by
            rcases Nat.lt_or_ge k no with h4 | h4
            · exact hbel k h1 h4
            · obtain rfl : k = no := by omega
              exact hm
          omega
      have hfree := freeN_uniq hno hm hbel
      refine leaveTo (toCut (Eq.mpr (insertRF_r r l s [.slice [] 0 .nil, .slice [] 0 .nil] es no _) ?_))
      have e2 : List.take 3 (List.drop 0 (strv es)) = strv (es.take 3) := by rw [strv_take, List.drop_zero]
      have e3 : elemAt (strv es) 3 = [.str (es.getD 3 [])] := by
        have := elemAt_strv es 3 (by omega)
        simpa [h5] using this
      have hsl' : (strv es).length = es.length := strv_length es
      intro y hy
      simp only [hold_eq, map_strOf_strv] at hy
      have hy2 : y ≤ r.1.length := by omega
      have hw : IntKind.i64.wrap ((y : Int) + 1) = ((y + 1 : Nat) : Int) := by rw [wrap_i64 (by omega) (by omega)]; rfl
      simp only [hold_eq, e2, e3, hw, getD_one, AVal.strOf, Int.toNat_natCast, mid0_iv, mid1_iv, mid1_strv, map_strOf_strv]
      refine gb_by hR (gb_by (dt (by first | omega | (simp only [true_and, and_true, decide_eq_true_eq, Option.some.injEq, strv_length, iv_length, List.length_take, List.length_drop, List.length_append, List.length_cons, List.length_nil, Int.le_refl] <;> omega))) (gb_by rfl (gb_by (and_tt (strv_is _) (dt (by first | omega | (simp only [true_and, and_true, decide_eq_true_eq, Option.some.injEq, strv_length, iv_length, List.length_take, List.length_drop, List.length_append, List.length_cons, List.length_nil, Int.le_refl] <;> omega)))) (gb_by (dt (by first | omega | (simp only [true_and, and_true, decide_eq_true_eq, Option.some.injEq, strv_length, iv_length, List.length_take, List.length_drop, List.length_append, List.length_cons, List.length_nil, Int.le_refl] <;> omega))) (gb_by (dt (by first | omega | (simp only [true_and, and_true, decide_eq_true_eq, Option.some.injEq, strv_length, iv_length, List.length_take, List.length_drop, List.length_append, List.length_cons, List.length_nil, Int.le_refl] <;> omega))) (gb_by (dt (by first | omega | (simp only [true_and, and_true, decide_eq_true_eq, Option.some.injEq, strv_length, iv_length, List.length_take, List.length_drop, List.length_append, List.length_cons, List.length_nil, Int.le_refl] <;> omega))) (gb_by (dt (by first | omega | (simp only [true_and, and_true, decide_eq_true_eq, Option.some.injEq, strv_length, iv_length, List.length_take, List.length_drop, List.length_append, List.length_cons, List.length_nil, Int.le_refl] <;> omega))) (gb_by (dt (by first | omega | (simp only [true_and, and_true, decide_eq_true_eq, Option.some.injEq, strv_length, iv_length, List.length_take, List.length_drop, List.length_append, List.length_cons, List.length_nil, Int.le_refl] <;> omega))) (gb_by (dt (by first | omega | (simp only [true_and, and_true, decide_eq_true_eq, Option.some.injEq, strv_length, iv_length, List.length_take, List.length_drop, List.length_append, List.length_cons, List.length_nil, Int.le_refl] <;> omega))) (gb_by (dt (by first | omega | (simp only [true_and, and_true, decide_eq_true_eq, Option.some.injEq, strv_length, iv_length, List.length_take, List.length_drop, List.length_append, List.length_cons, List.length_nil, Int.le_refl] <;> omega))) (gb_by (dt ⟨by decide, fun _ => rfl⟩) ?_)))))))))))
      rw [← hy, ← hfree]
      refine wk_ch (R := (insL r.1 y (es.getD 3 []), insL r.2 (y + 1) (no : Int))) ?_ (by simp [lfOf]) (by simp [lfIs, okW_same])
      refine Wk.agg (.cons (.refl _) (.cons ?_ (.refl _)))
      rw [iv_insL]
      exact Wk.ro _ _ _
theorem insertR_ok : EntOk Try.prog insertRE := by
  intro xs σ; simp only [insertRE, chE]; split
  · rename_i v u s
    intro hc
    simp only [Bool.and_eq_true, hold_eq] at hc
    obtain ⟨r1, r2, r3⟩ := rootM_spec hc.1.1
    obtain ⟨l1, l2⟩ := lfM_spec hc.2.1
    exact pcall_of (.cons (wk_root r1) (.cons (wk_lf l1) (.refl _))) (insertR_c (rootOf v) (lfOf u) s r2 r3 l2 hc.1.2 hc.2.2) (by simp only [noOutL, root_noOut, lf_noOut, AVal.noOut, Bool.and_true]) (by simp only [noTokL, root_noTok, lf_noTok, AVal.noTok, Bool.and_true]) (ch_noOut _ _) (ch_noTok _ _)
  · trivial
end Go.Proofs.Ytlfnmhfmikomkaa
