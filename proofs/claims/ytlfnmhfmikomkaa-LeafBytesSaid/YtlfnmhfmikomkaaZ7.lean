/-
  The texts Fw, Fy, Fx, Fz, Je, Jf, Jg, Jh, Jd, Jl of this seat, one behind the other.
-/
import Derived.Test.YtlfnmhfmikomkaaZ6
import Derived.KernelRfl

section
set_option linter.unusedVariables false
set_option linter.unusedSimpArgs false
set_option maxRecDepth 20000
set_option maxHeartbeats 4000000
namespace Go.Proofs.Ytlfnmhfmikomkaa
open Go.AL

theorem mid0_strv (l : List Txt) (i : Nat) : List.take (i - 0) (List.drop 0 (strv l)) = strv (l.take i) := by rw [strv_take, List.drop_zero, Nat.sub_zero]
theorem mid1_strv (l : List Txt) (i : Nat) : List.take ((strv l).length - i) (List.drop i (strv l)) = strv (l.drop i) := by rw [strv_drop, List.take_of_length_le (by simp)]
theorem iv_takeE (l : List Int) (i : Nat) : iv (l.take i) = (iv l).take i := by simp [iv, List.map_take]
theorem iv_dropE (l : List Int) (i : Nat) : iv (l.drop i) = (iv l).drop i := by simp [iv, List.map_drop]
theorem mid0_iv (l : List Int) (i : Nat) : List.take (i - 0) (List.drop 0 (iv l)) = iv (l.take i) := by rw [iv_takeE, List.drop_zero, Nat.sub_zero]
theorem mid1_iv (l : List Int) (i : Nat) : List.take ((iv l).length - i) (List.drop i (iv l)) = iv (l.drop i) := by rw [iv_dropE, List.take_of_length_le (by simp)]
theorem strv_insL (l : List Txt) (i : Nat) (s : Txt) : strv (insL l i s) = strv (l.take i) ++ [.str s] ++ strv (l.drop i) := by simp [insL, strv]
theorem iv_insL (l : List Int) (i : Nat) (s : Int) : iv (insL l i s) = iv (l.take i) ++ [.int .i64 s] ++ iv (l.drop i) := by simp [insL, iv]
theorem strv_delL (l : List Txt) (i : Nat) : strv (delL l i) = strv (l.take i) ++ strv (l.drop (i + 1)) := by simp [delL, strv]
theorem iv_delL (l : List Int) (i : Nat) : iv (delL l i) = iv (l.take i) ++ iv (l.drop (i + 1)) := by simp [delL, iv]

theorem put_c (l : List Txt) (i : Nat) (s : Txt) (hi : i ≤ l.length) (hl : l.length ≤ 1000000) : ACall Try.prog 50 [.slice (strv l) 1 .ro, .int .i64 (i : Int), .str s] Sto.empty fun r _ => Wk r (.slice (strv (insL l i s)) 1 .ro) := by
  refine put_i l i s _ (.of_none rfl) ?_
  have hn := strv_length l
  simp only [hold_eq, Int.toNat_natCast, mid0_strv, mid1_strv]
  refine gb_by (dt (by first | omega | (simp only [true_and, and_true, decide_eq_true_eq, Option.some.injEq, strv_length, iv_length, List.length_take, List.length_drop, List.length_append, List.length_cons, List.length_nil, Int.le_refl] <;> omega))) (gb_by (dt (by first | omega | (simp only [true_and, and_true, decide_eq_true_eq, Option.some.injEq, strv_length, iv_length, List.length_take, List.length_drop, List.length_append, List.length_cons, List.length_nil, Int.le_refl] <;> omega))) (gb_by (dt (by first | omega | (simp only [true_and, and_true, decide_eq_true_eq, Option.some.injEq, strv_length, iv_length, List.length_take, List.length_drop, List.length_append, List.length_cons, List.length_nil, Int.le_refl] <;> omega))) (gb_by (dt (by first | omega | (simp only [true_and, and_true, decide_eq_true_eq, Option.some.injEq, strv_length, iv_length, List.length_take, List.length_drop, List.length_append, List.length_cons, List.length_nil, Int.le_refl] <;> omega))) (gb_by (dt (by first | omega | (simp only [true_and, and_true, decide_eq_true_eq, Option.some.injEq, strv_length, iv_length, List.length_take, List.length_drop, List.length_append, List.length_cons, List.length_nil, Int.le_refl] <;> omega))) ?_))))
  rw [strv_insL]
  exact Wk.ro _ _ _
theorem put_ok : EntOk Try.prog putE := by
  intro xs σ; simp only [putE]; split
  · rename_i es s t i x
    intro hc
    simp only [Bool.and_eq_true, hold_eq, decide_eq_true_eq] at hc
    obtain ⟨h1, h2, h3, h4, h5⟩ := hc
    have e : i = (i.toNat : Int) := by omega
    have := put_c (es.map AVal.strOf) i.toNat x (by simp; omega) (by simpa using h5)
    rw [← e] at this
    exact pcall_of (.cons (wk_strv t h1 h2) (.refl _)) this (by simp only [noOutL, AVal.noOut, strv_noOut, Bool.and_true]) (by simp only [noTokL, AVal.noTok, strv_noTok, Bool.and_true, Tag.below]) (by simp only [AVal.noOut, strv_noOut]) (by simp only [AVal.noTok, strv_noTok, Tag.below, Bool.and_true])
  · trivial
theorem cut_c (l : List Txt) (i : Nat) (hi : i < l.length) (hl : l.length ≤ 1000000) : ACall Try.prog 52 [.slice (strv l) 1 .ro, .int .i64 (i : Int)] Sto.empty fun r _ => Wk r (.slice (strv (delL l i)) 1 .ro) := by
  refine cut_i l i _ (.of_none rfl) ?_
  have hn := strv_length l
  have hw : IntKind.i64.wrap ((i : Int) + 1) = ((i + 1 : Nat) : Int) := by rw [wrap_i64 (by omega) (by omega)]; rfl
  simp only [hold_eq, hw, Int.toNat_natCast, mid0_strv, mid1_strv]
  refine gb_by (dt (by first | omega | (simp only [true_and, and_true, decide_eq_true_eq, Option.some.injEq, strv_length, iv_length, List.length_take, List.length_drop, List.length_append, List.length_cons, List.length_nil, Int.le_refl] <;> omega))) (gb_by (dt (by first | omega | (simp only [true_and, and_true, decide_eq_true_eq, Option.some.injEq, strv_length, iv_length, List.length_take, List.length_drop, List.length_append, List.length_cons, List.length_nil, Int.le_refl] <;> omega))) (gb_by (dt (by first | omega | (simp only [true_and, and_true, decide_eq_true_eq, Option.some.injEq, strv_length, iv_length, List.length_take, List.length_drop, List.length_append, List.length_cons, List.length_nil, Int.le_refl] <;> omega))) (gb_by (dt (by first | omega | (simp only [true_and, and_true, decide_eq_true_eq, Option.some.injEq, strv_length, iv_length, List.length_take, List.length_drop, List.length_append, List.length_cons, List.length_nil, Int.le_refl] <;> omega))) ?_)))
  rw [strv_delL]
  exact Wk.ro _ _ _
theorem cut_ok : EntOk Try.prog cutE := by
  intro xs σ; simp only [cutE]; split
  · rename_i es s t i
    intro hc
    simp only [Bool.and_eq_true, hold_eq, decide_eq_true_eq] at hc
    obtain ⟨h1, h2, h3, h4, h5⟩ := hc
    have e : i = (i.toNat : Int) := by omega
    have := cut_c (es.map AVal.strOf) i.toNat (by simp; omega) (by simpa using h5)
    rw [← e] at this
    exact pcall_of (.cons (wk_strv t h1 h2) (.refl _)) this (by simp only [noOutL, AVal.noOut, strv_noOut, Bool.and_true]) (by simp only [noTokL, AVal.noTok, strv_noTok, Bool.and_true, Tag.below]) (by simp only [AVal.noOut, strv_noOut]) (by simp only [AVal.noTok, strv_noTok, Tag.below, Bool.and_true])
  · trivial

theorem wk_err (e : Int) : Wk (.tuple [.agg [.slice [] 0 .nil, .slice [] 0 .nil], .slice [] 0 .nil, .int .i64 e]) (chV (errC e)) :=
  Wk.tuple (.cons (.agg (.cons (Wk.nil _ _ _) (.cons (Wk.nil _ _ _) (.refl _)))) (.cons (Wk.nil _ _ _) (.refl _)))
theorem wk_ch {A : AVal} {ls : List AVal} {e : Int} {R : Root} {L : List Lf} (hA : Wk A (rootV R)) (hL : ls.map lfOf = L) (h1 : ls.all lfIs = true) : Wk (.tuple [A, .slice ls 3 .full, .int .i64 e]) (chV (R, L, e)) := by
  subst hL
  exact Wk.tuple (.cons hA (.cons (wk_lfs _ (okW_same _ _) h1) (.refl _)))

theorem insertR_c (r : Root) (l : Lf) (s : Txt) (h1 : r.1.length ≤ 1000000) (h2 : r.2.length ≤ 1000000) (h3 : l.2.1.length ≤ 1000000) (hs1 : shortL r.1 = true) (hs2 : shortL l.2.1 = true) :
    ACall Try.prog 19 [rootV r, lfV l, .str s] Sto.empty fun v _ => Wk v (chV (insN r l s)) := by
  have hn1 : (strv r.1).length = r.1.length := strv_length r.1
  have hn2 : (iv r.2).length = r.2.length := iv_length r.2
  have hn3 : (strv l.2.1).length = l.2.1.length := strv_length _
  refine insertR_i r l s _ (.of [rootRE, leafRE, findRE, hasE, ordE, putE, atRE] rfl ⟨rootR_ok, leafR_ok, findR_ok, has_ok, ord_ok, put_ok, atR_ok, trivial⟩) ?_
  simp only [hold_eq, map_strOf_strv, map_intOf_iv, fold_root, fold_lf]
  have hR : rootH (rootV r) = true := rootH_mk (by omega) (by omega) hs1
  have hLf : lfH (lfV l) = true := lfH_mk (by omega) hs2
  have hbad : ownB r l s = false → Wk (.tuple [.agg [.slice [] 0 .nil, .slice [] 0 .nil], .slice [] 0 .nil, .int .i64 100]) (chV (insN r l s)) := fun ho => by
    have e : insN r l s = errC 100 := by simp only [insN, ho]; rfl
    rw [e]; exact wk_err _
  have hrf := ownB_ref r l s
  refine gb_by hR (brV_by' (fun h => ?_) (fun h => hbad ?_))
  case refine_2 =>
    have h : rootB r = false := by
      have h : (!rootB r) = true := h
      simpa using h
    rw [hrf, h]; rfl
  have hb1 : rootB r = true := by
    have h : (!rootB r) = false := h
    simpa using h
  refine gb_by hLf (brV_by' (fun h => ?_) (fun h => hbad ?_))
  case refine_2 =>
    have h : lfB l = false := by
      have h : (!lfB l) = true := h
      simpa using h
    rw [hrf, h, hb1]; rfl
  have hb2 : lfB l = true := by
    have h : (!lfB l) = false := h
    simpa using h
  intro fy hfy
  refine gb_by hR (brV_by (fun h => hbad ?_) (fun h => ?_))
  · have h : ¬ fy = l.1 := by simpa using h
    have h2 : findN r s = fy := hfy.symm
    rw [hrf, hb1, hb2, h2]
    simpa using h
  have hfe : fy = l.1 := by simpa using h
  have ho : ownB r l s = true := by
    have h2 : findN r s = fy := hfy.symm
    rw [hrf, hb1, hb2, h2, hfe]; simp
  obtain ⟨g1, g2, g3⟩ := lfB_iff.1 hb2
  obtain ⟨q1, q2, q3, q4⟩ := rootB_iff.1 hb1
  refine brV_by (fun h => ?_) (fun h => ?_)
  · have : 600 < s.length := by have := of_decide_eq_true h; omega
    have e : insN r l s = errC 82 := by simp only [insN, ho, this, if_true]
    rw [e]; exact wk_err _
  have hs : ¬ 600 < s.length := by have := of_decide_eq_false h; omega
  intro b hb p hp
  refine gb_by (and_tt (strv_is _) (lenOk_mk (by omega))) (brV_by (fun h => ?_) (fun h => ?_))
  · have hc : l.2.1.contains s = true := by
      have h0 : (0 : Int) ≤ p := of_decide_eq_true h
      rw [← hb]
      cases b with
      | true => rfl
      | false => rw [hp] at h0; simp at h0
    have e : insN r l s = errC 31 := by simp only [insN, ho, hs, hc, if_true, if_false]
    rw [e]; exact wk_err _
  have hc : l.2.1.contains s = false := by
    have h0 : ¬ (0 : Int) ≤ p := of_decide_eq_false h
    rw [← hb]
    cases b with
    | false => rfl
    | true => exact (h0 (by rw [hp]; simp)).elim
  have hple : posN l.2.1 s ≤ l.2.1.length := posN_le _ _
  refine loopV_intro (α := Nat) (fun i => insertRL_S r l s [.slice [] 0 .nil, .slice [] 0 .nil] i) (fun i => i ≤ posN l.2.1 s) (fun i => l.2.1.length - i) ?_ 0 (Nat.zero_le _)
  rintro i hi L hL
  refine Eq.mpr (insertRL_r r l s [.slice [] 0 .nil, .slice [] 0 .nil] i L _) ?_
  simp only [hold_eq]
  suffices hA : i = posN l.2.1 s → vc Try.prog cInsertR code_19_1_1_1_1_1_1 (endK Try.prog Try.f19.results.toList (fun v _ => Wk v (chV (insN r l s)))) (insertRA_S r l s [.slice [] 0 .nil, .slice [] 0 .nil] i) by
    refine brV_by (fun h => ?_) (fun h => ?_)
    · have hlt : i < l.2.1.length := by have := of_decide_eq_true h; omega
      rw [i64_succ hlt (by omega), elemAt_strv l.2.1 i hlt]
      refine gb_by (dt (by omega)) (gb_by rfl (gb_by (dt (short_get hs2 hlt)) (brV_by (fun h => ?_) (fun h => ?_))))
      · have h : tlt l.2.1[i] s = true := ordT_lt'.1 (of_decide_eq_true h)
        exact hL (i + 1) ((posN_lt g3 s i hlt).1 h) (by omega)
      · have h : ¬ tlt l.2.1[i] s = true := fun h' => of_decide_eq_false h (ordT_lt'.2 h')
        have : ¬ i < posN l.2.1 s := fun h' => h ((posN_lt g3 s i hlt).2 h')
        exact leaveTo (toCut (hA (by omega)))
    · have hge : ¬ i < l.2.1.length := by have := of_decide_eq_false h; omega
      exact leaveTo (toCut (hA (by omega)))
  intro hip
  subst hip
  refine Eq.mpr (insertRA_r r l s [.slice [] 0 .nil, .slice [] 0 .nil] (posN l.2.1 s) _) ?_
  simp only [hold_eq, map_strOf_strv, Int.toNat_natCast]
  have hil := insL_length l.2.1 (posN l.2.1 s) s hple
  have hsl := strv_length (insL l.2.1 (posN l.2.1 s) s)
  refine gb_by (and_tt (strv_is _) (dt (by first | omega | (simp only [true_and, and_true, decide_eq_true_eq, Option.some.injEq, strv_length, iv_length, List.length_take, List.length_drop, List.length_append, List.length_cons, List.length_nil, Int.le_refl] <;> omega)))) (brV_by (fun h => ?_) (fun h => ?_))
  · have h4 : (insL l.2.1 (posN l.2.1 s) s).length ≤ 4 := by have := of_decide_eq_true h; omega
    have e : insN r l s = (r, [(l.1, insL l.2.1 (posN l.2.1 s) s, false)], 0) := by simp only [insN, ho, hs, hc, h4, if_true, if_false]; rfl
    refine gb_by (dt ⟨by decide, fun _ => rfl⟩) ?_
    rw [e]
    exact wk_ch (Wk.refl _) (by simp [lfOf]) (by simp [lfIs, okW_same])
  · have h4 : ¬ (insL l.2.1 (posN l.2.1 s) s).length ≤ 4 := by have := of_decide_eq_false h; omega
    have h5 : (insL l.2.1 (posN l.2.1 s) s).length = 5 := by omega
    have e : insN r l s = ((insL r.1 (atN r.1 s) ((insL l.2.1 (posN l.2.1 s) s).getD 3 []), insL r.2 (atN r.1 s + 1) (freeN r.2 : Int)), [(l.1, (insL l.2.1 (posN l.2.1 s) s).take 3, false), ((freeN r.2 : Int), (insL l.2.1 (posN l.2.1 s) s).drop 3, false)], 0) := by
      simp only [insN, ho, hs, hc, h4, if_true, if_false]; rfl
    rw [e]
    have hat : atN r.1 s ≤ r.1.length := atN_le _ _
    generalize hes : insL l.2.1 (posN l.2.1 s) s = es at *
    refine loopV_intro (α := Nat × Nat) (fun x => insertRM_S r l s [.slice [] 0 .nil, .slice [] 0 .nil] es x.1 x.2)
      (fun x => x.2 ≤ r.2.length ∧ 1 ≤ x.1 ∧ (∀ k : Nat, 1 ≤ k → k < x.1 → (k : Int) ∈ r.2) ∧ ((x.1 : Int) ∉ r.2 ∨ x.2 + 1 ≤ x.1)) (fun x => r.2.length - x.2) ?_ (1, 0) ⟨Nat.zero_le _, Nat.le_refl _, fun k _ _ => by omega, .inr (Nat.le_refl _)⟩
    rintro ⟨no, i⟩ ⟨hi, hno, hbel, hor⟩ L hL
    refine Eq.mpr (insertRM_r r l s [.slice [] 0 .nil, .slice [] 0 .nil] es no i L _) ?_
    simp only [hold_eq]
    have hpg : ∀ no : Nat, (∀ k : Nat, 1 ≤ k → k < no → (k : Int) ∈ r.2) → no ≤ r.2.length + 1 := fun no hb => by
      have := pig (no - 1) r.2 fun k hk hk2 => hb k hk (by omega)
      omega
    refine brV_by (fun h => ?_) (fun h => ?_)
    · have hlt : i < r.2.length := by have := of_decide_eq_true h; omega
      refine loopV_intro (α := Nat × Nat) (fun x => insertRN_S r l s [.slice [] 0 .nil, .slice [] 0 .nil] es x.1 i x.2)
        (fun x => x.2 ≤ r.2.length ∧ 1 ≤ x.1 ∧ (∀ k : Nat, 1 ≤ k → k < x.1 → (k : Int) ∈ r.2) ∧ ((no : Int) ∉ r.2 → x.1 = no) ∧ (no < x.1 ∨ (x.1 = no ∧ ∀ j (hj : j < r.2.length), j < x.2 → r.2[j] ≠ (no : Int)))) (fun x => r.2.length - x.2) ?_ (no, 0)
        ⟨Nat.zero_le _, hno, hbel, fun _ => rfl, .inr ⟨rfl, fun j _ hj => by omega⟩⟩
      rintro ⟨n, k⟩ ⟨hk, hn1', hnb, hsame, hcase⟩ L2 hL2
      have hn := hpg n hnb
      refine Eq.mpr (insertRN_r r l s [.slice [] 0 .nil, .slice [] 0 .nil] es n i k L2 _) ?_
      simp only [hold_eq]
      refine brV_by (fun h => ?_) (fun h => ?_)
      · have hkl : k < r.2.length := by have := of_decide_eq_true h; omega
        rw [i64_succ hkl (by omega), elemAt_iv r.2 k hkl]
        refine gb_by (dt (by omega)) (gb_by rfl (brV_by (fun h => ?_) (fun h => ?_)))
        · have he : r.2[k] = (n : Int) := by
            have h : (r.2[k] == (n : Int)) = true := h
            simpa using h
          have hm : (n : Int) ∈ r.2 := by rw [← he]; exact List.getElem_mem hkl
          have hw : IntKind.i64.wrap ((n : Int) + 1) = ((n + 1 : Nat) : Int) := by rw [wrap_i64 (by omega) (by omega)]; rfl
          rw [hw]
          refine hL2 (n + 1, k + 1) ⟨hkl, by omega, fun j h1 h2 => ?_, fun hno' => ?_, .inl ?_⟩ (by show r.2.length - (k + 1) < r.2.length - k; omega)
          · rcases Nat.lt_or_ge j n with h4 | h4
            · exact hnb j h1 h4
            · obtain rfl : j = n := by omega
              exact hm
          · exact (hno' (by rw [← hsame hno']; exact hm)).elim
          · rcases hcase with h | ⟨h, _⟩ <;> omega
        · have he : r.2[k] ≠ (n : Int) := by
            have h : (r.2[k] == (n : Int)) = false := h
            simpa using h
          refine hL2 (n, k + 1) ⟨hkl, hn1', hnb, hsame, ?_⟩ (by show r.2.length - (k + 1) < r.2.length - k; omega)
          rcases hcase with h | ⟨h, h'⟩
          · exact .inl h
          · refine .inr ⟨h, fun j hj hjk => ?_⟩
            rcases Nat.lt_or_ge j k with h4 | h4
            · exact h' j hj h4
            · obtain rfl : j = k := by omega
              have h : n = no := h
              rw [← h]; exact he
      · have hge : ¬ k < r.2.length := by have := of_decide_eq_false h; omega
        refine leaveK (inBlock (toCut (Eq.mpr (insertRO_r r l s [.slice [] 0 .nil, .slice [] 0 .nil] es n i _) ?_)))
        rw [i64_succ hlt (by omega)]
        refine hL (n, i + 1) ⟨hlt, hn1', hnb, ?_⟩ (by show r.2.length - (i + 1) < r.2.length - i; omega)
        by_cases hm : (no : Int) ∈ r.2
        · have hi1 : i + 1 ≤ no := by
            rcases hor with h | h
            · exact (h hm).elim
            · exact h
          rcases hcase with h | ⟨h, h'⟩
          · exact .inr (by show i + 1 + 1 ≤ n; omega)
          · obtain ⟨j, hj, e⟩ := List.getElem_of_mem hm
            exact (h' j hj (by show j < k; omega) e).elim
        · have := hsame hm
          refine .inl ?_
          show (n : Int) ∉ r.2
          have h : n = no := this
          rw [h]; exact hm
    · have hge : ¬ i < r.2.length := by have := of_decide_eq_false h; omega
      have hm : (no : Int) ∉ r.2 := by
        rcases hor with h | h
        · exact h
        · intro hm
          have h : i + 1 ≤ no := h
          have := pig no r.2 fun k h1 h2 => by
            rcases Nat.lt_or_ge k no with h4 | h4
            · exact hbel k h1 h4
            · obtain rfl : k = no := by omega
              exact hm
          omega
      have hfree := freeN_uniq hno hm hbel
      refine leaveTo (toCut (Eq.mpr (insertRF_r r l s [.slice [] 0 .nil, .slice [] 0 .nil] es no _) ?_))
      have e2 : List.take 3 (List.drop 0 (strv es)) = strv (es.take 3) := by rw [strv_take, List.drop_zero]
      have e3 : elemAt (strv es) 3 = [.str (es.getD 3 [])] := by
        have := elemAt_strv es 3 (by omega)
        simpa [h5] using this
      have hsl' : (strv es).length = es.length := strv_length es
      intro y hy
      simp only [hold_eq, map_strOf_strv] at hy
      have hy2 : y ≤ r.1.length := by omega
      have hw : IntKind.i64.wrap ((y : Int) + 1) = ((y + 1 : Nat) : Int) := by rw [wrap_i64 (by omega) (by omega)]; rfl
      simp only [hold_eq, e2, e3, hw, getD_one, AVal.strOf, Int.toNat_natCast, mid0_iv, mid1_iv, mid1_strv, map_strOf_strv]
      refine gb_by hR (gb_by (dt (by first | omega | (simp only [true_and, and_true, decide_eq_true_eq, Option.some.injEq, strv_length, iv_length, List.length_take, List.length_drop, List.length_append, List.length_cons, List.length_nil, Int.le_refl] <;> omega))) (gb_by rfl (gb_by (and_tt (strv_is _) (dt (by first | omega | (simp only [true_and, and_true, decide_eq_true_eq, Option.some.injEq, strv_length, iv_length, List.length_take, List.length_drop, List.length_append, List.length_cons, List.length_nil, Int.le_refl] <;> omega)))) (gb_by (dt (by first | omega | (simp only [true_and, and_true, decide_eq_true_eq, Option.some.injEq, strv_length, iv_length, List.length_take, List.length_drop, List.length_append, List.length_cons, List.length_nil, Int.le_refl] <;> omega))) (gb_by (dt (by first | omega | (simp only [true_and, and_true, decide_eq_true_eq, Option.some.injEq, strv_length, iv_length, List.length_take, List.length_drop, List.length_append, List.length_cons, List.length_nil, Int.le_refl] <;> omega))) (gb_by (dt (by first | omega | (simp only [true_and, and_true, decide_eq_true_eq, Option.some.injEq, strv_length, iv_length, List.length_take, List.length_drop, List.length_append, List.length_cons, List.length_nil, Int.le_refl] <;> omega))) (gb_by (dt (by first | omega | (simp only [true_and, and_true, decide_eq_true_eq, Option.some.injEq, strv_length, iv_length, List.length_take, List.length_drop, List.length_append, List.length_cons, List.length_nil, Int.le_refl] <;> omega))) (gb_by (dt (by first | omega | (simp only [true_and, and_true, decide_eq_true_eq, Option.some.injEq, strv_length, iv_length, List.length_take, List.length_drop, List.length_append, List.length_cons, List.length_nil, Int.le_refl] <;> omega))) (gb_by (dt (by first | omega | (simp only [true_and, and_true, decide_eq_true_eq, Option.some.injEq, strv_length, iv_length, List.length_take, List.length_drop, List.length_append, List.length_cons, List.length_nil, Int.le_refl] <;> omega))) (gb_by (dt (by first | omega | (simp only [true_and, and_true, decide_eq_true_eq, Option.some.injEq, strv_length, iv_length, List.length_take, List.length_drop, List.length_append, List.length_cons, List.length_nil, Int.le_refl] <;> omega))) (gb_by (dt ⟨by decide, fun _ => rfl⟩) ?_)))))))))))
      rw [← hy, ← hfree]
      refine wk_ch (R := (insL r.1 y (es.getD 3 []), insL r.2 (y + 1) (no : Int))) ?_ (by simp [lfOf]) (by simp [lfIs, okW_same])
      refine Wk.agg (.cons (.refl _) (.cons ?_ (.refl _)))
      rw [iv_insL]
      exact Wk.ro _ _ _
theorem insertR_ok : EntOk Try.prog insertRE := by
  intro xs σ; simp only [insertRE, chE]; split
  · rename_i v u s
    intro hc
    simp only [Bool.and_eq_true, hold_eq] at hc
    obtain ⟨r1, r2, r3⟩ := rootM_spec hc.1.1
    obtain ⟨l1, l2⟩ := lfM_spec hc.2.1
    exact pcall_of (.cons (wk_root r1) (.cons (wk_lf l1) (.refl _))) (insertR_c (rootOf v) (lfOf u) s r2 r3 l2 hc.1.2 hc.2.2) (by simp only [noOutL, root_noOut, lf_noOut, AVal.noOut, Bool.and_true]) (by simp only [noTokL, root_noTok, lf_noTok, AVal.noTok, Bool.and_true]) (ch_noOut _ _) (ch_noTok _ _)
  · trivial
end Go.Proofs.Ytlfnmhfmikomkaa
end

section
set_option linter.unusedVariables false
set_option linter.unusedSimpArgs false
set_option maxRecDepth 20000
set_option maxHeartbeats 4000000
namespace Go.Proofs.Ytlfnmhfmikomkaa
open Go.AL

theorem removeR_c (r : Root) (l : Lf) (s : Txt) (h1 : r.1.length ≤ 1000000) (h2 : r.2.length ≤ 1000000) (h3 : l.2.1.length ≤ 1000000) (hs1 : shortL r.1 = true) (hs2 : shortL l.2.1 = true) :
    ACall Try.prog 20 [rootV r, lfV l, .str s] Sto.empty fun v _ => Wk v (chV (remN r l s)) := by
  have hn1 : (strv r.1).length = r.1.length := strv_length r.1
  have hn2 : (iv r.2).length = r.2.length := iv_length r.2
  have hn3 : (strv l.2.1).length = l.2.1.length := strv_length _
  refine removeR_i r l s _ (.of [rootRE, leafRE, findRE, hasE, cutE, atRE] rfl ⟨rootR_ok, leafR_ok, findR_ok, has_ok, cut_ok, atR_ok, trivial⟩) ?_
  simp only [hold_eq, map_strOf_strv, map_intOf_iv, fold_root, fold_lf]
  have hR : rootH (rootV r) = true := rootH_mk (by omega) (by omega) hs1
  have hLf : lfH (lfV l) = true := lfH_mk (by omega) hs2
  have hbad : ownB r l s = false → Wk (.tuple [.agg [.slice [] 0 .nil, .slice [] 0 .nil], .slice [] 0 .nil, .int .i64 100]) (chV (remN r l s)) := fun ho => by
    have e : remN r l s = errC 100 := by simp only [remN, ho]; rfl
    rw [e]; exact wk_err _
  have hrf := ownB_ref r l s
  refine gb_by hR (brV_by' (fun h => ?_) (fun h => hbad ?_))
  case refine_2 =>
    have h : rootB r = false := by
      have h : (!rootB r) = true := h
      simpa using h
    rw [hrf, h]; rfl
  have hb1 : rootB r = true := by
    have h : (!rootB r) = false := h
    simpa using h
  refine gb_by hLf (brV_by' (fun h => ?_) (fun h => hbad ?_))
  case refine_2 =>
    have h : lfB l = false := by
      have h : (!lfB l) = true := h
      simpa using h
    rw [hrf, h, hb1]; rfl
  have hb2 : lfB l = true := by
    have h : (!lfB l) = false := h
    simpa using h
  intro fy hfy
  refine gb_by hR (brV_by (fun h => hbad ?_) (fun h => ?_))
  · have h : ¬ fy = l.1 := by simpa using h
    have h2 : findN r s = fy := hfy.symm
    rw [hrf, hb1, hb2, h2]
    simpa using h
  have hfe : fy = l.1 := by simpa using h
  have ho : ownB r l s = true := by
    have h2 : findN r s = fy := hfy.symm
    rw [hrf, hb1, hb2, h2, hfe]; simp
  obtain ⟨g1, g2, g3⟩ := lfB_iff.1 hb2
  obtain ⟨q1, q2, q3, q4⟩ := rootB_iff.1 hb1
  intro b hb p hp
  refine gb_by (and_tt (strv_is _) (lenOk_mk (by omega))) (brV_by (fun h => ?_) (fun h => ?_))
  · have hc : l.2.1.contains s = false := by
      have h0 : p < (0 : Int) := of_decide_eq_true h
      rw [← hb]
      cases b with
      | false => rfl
      | true => rw [hp] at h0; simp at h0; omega
    have e : remN r l s = errC 101 := by simp only [remN, ho, hc, if_true]; rfl
    rw [e]; exact wk_err _
  have hc : l.2.1.contains s = true := by
    have h0 : ¬ p < (0 : Int) := of_decide_eq_false h
    rw [← hb]
    cases b with
    | true => rfl
    | false => exact (h0 (by rw [hp]; simp)).elim
  have hmem : s ∈ l.2.1 := by simpa using hc
  have hpe : p = ((posN l.2.1 s : Nat) : Int) := by
    rw [hb, hc] at hp
    rw [hp, ← pos_idx g3 hmem]; rfl
  subst hpe
  have hplt := posN_lt_len g3 hc
  simp only [Int.toNat_natCast]
  have hil := delL_length l.2.1 (posN l.2.1 s) hplt
  have hsl := strv_length (delL l.2.1 (posN l.2.1 s))
  have keep : (0 < (delL l.2.1 (posN l.2.1 s)).length ∨ r.2.length = 1) → Wk (.tuple [rootV r, .slice [.agg [.int .i64 l.1, .slice (strv (delL l.2.1 (posN l.2.1 s))) 1 .ro, .bool false]] 3 .full, .int .i64 0]) (chV (remN r l s)) := fun hk => by
    have e : remN r l s = (r, [(l.1, delL l.2.1 (posN l.2.1 s), false)], 0) := by simp only [remN, ho, hc, hk, if_true]
    rw [e]
    exact wk_ch (Wk.refl _) (by simp [lfOf]) (by simp [lfIs, okW_same])
  refine gb_by (and_tt (strv_is _) (dt (by first | omega | (simp only [true_and, and_true, decide_eq_true_eq, Option.some.injEq, strv_length, iv_length, List.length_take, List.length_drop, List.length_append, List.length_cons, List.length_nil, Int.le_refl] <;> omega)))) (brV_by' (fun h => ?_) (fun h => keep (.inl (by have := of_decide_eq_true h; omega))))
  have hz : (delL l.2.1 (posN l.2.1 s)).length = 0 := by have := of_decide_eq_false h; omega
  refine brV_by (fun h => ?_) (fun h => ?_)
  · exact keep (.inr (by have : ((iv r.2).length : Int) = 1 := by simpa using h
                         omega))
  · have hr1 : r.2.length ≠ 1 := by have : ¬ ((iv r.2).length : Int) = 1 := by simpa using h
                                    omega
    have hnk : ¬ (0 < (delL l.2.1 (posN l.2.1 s)).length ∨ r.2.length = 1) := by omega
    have e : remN r l s = ((delL r.1 (min (atN r.1 s) (r.1.length - 1)), delL r.2 (atN r.1 s)), [(l.1, [], true)], 0) := by
      simp only [remN, ho, hc, hnk, if_true, if_false]
    rw [e]
    have hat : atN r.1 s ≤ r.1.length := atN_le _ _
    refine toCut (Eq.mpr (removeRF_r r l s [.slice [] 0 .nil, .slice [] 0 .nil] _) ?_)
    intro y hy
    simp only [hold_eq, map_strOf_strv] at hy
    have hy2 : y ≤ r.1.length := by omega
    have hw2 : IntKind.i64.wrap ((y : Int) + 1) = ((y + 1 : Nat) : Int) := by rw [wrap_i64 (by omega) (by omega)]; rfl
    simp only [hold_eq, hw2, Int.toNat_natCast, mid0_iv, mid1_iv, map_strOf_strv]
    refine gb_by hR (gb_by (dt (by first | omega | (simp only [true_and, and_true, decide_eq_true_eq, Option.some.injEq, strv_length, iv_length, List.length_take, List.length_drop, List.length_append, List.length_cons, List.length_nil, Int.le_refl] <;> omega))) (gb_by (dt (by first | omega | (simp only [true_and, and_true, decide_eq_true_eq, Option.some.injEq, strv_length, iv_length, List.length_take, List.length_drop, List.length_append, List.length_cons, List.length_nil, Int.le_refl] <;> omega))) (gb_by (dt (by first | omega | (simp only [true_and, and_true, decide_eq_true_eq, Option.some.injEq, strv_length, iv_length, List.length_take, List.length_drop, List.length_append, List.length_cons, List.length_nil, Int.le_refl] <;> omega))) (gb_by (dt (by first | omega | (simp only [true_and, and_true, decide_eq_true_eq, Option.some.injEq, strv_length, iv_length, List.length_take, List.length_drop, List.length_append, List.length_cons, List.length_nil, Int.le_refl] <;> omega))) (brV_by (fun h => ?_) (fun h => ?_))))))
    · have hyl : y = r.1.length := by have : (y : Int) = ((strv r.1).length : Int) := by simpa using h
                                      omega
      have hw3 : IntKind.i64.wrap ((y : Int) - 1) = ((y - 1 : Nat) : Int) := by rw [wrap_i64 (by omega) (by omega)]; omega
      have hm : min y (r.1.length - 1) = y - 1 := by omega
      simp only [hw3, Int.toNat_natCast]
      refine gb_by (and_tt (strv_is _) (dt (by first | omega | (simp only [true_and, and_true, decide_eq_true_eq, Option.some.injEq, strv_length, iv_length, List.length_take, List.length_drop, List.length_append, List.length_cons, List.length_nil, Int.le_refl] <;> omega)))) (gb_by (dt ⟨by decide, fun _ => rfl⟩) ?_)
      rw [← hy, hm]
      refine wk_ch (R := (delL r.1 (y - 1), delL r.2 y)) ?_ (by simp [lfOf]) (by simp [lfIs, okW])
      refine Wk.agg (.cons (.refl _) (.cons ?_ (.refl _)))
      rw [iv_delL]
      exact Wk.ro _ _ _
    · have hyl : ¬ y = r.1.length := by have : ¬ (y : Int) = ((strv r.1).length : Int) := by simpa using h
                                        omega
      have hm : min y (r.1.length - 1) = y := by omega
      refine gb_by (and_tt (strv_is _) (dt (by first | omega | (simp only [true_and, and_true, decide_eq_true_eq, Option.some.injEq, strv_length, iv_length, List.length_take, List.length_drop, List.length_append, List.length_cons, List.length_nil, Int.le_refl] <;> omega)))) (gb_by (dt ⟨by decide, fun _ => rfl⟩) ?_)
      rw [← hy, hm]
      refine wk_ch (R := (delL r.1 y, delL r.2 y)) ?_ (by simp [lfOf]) (by simp [lfIs, okW])
      refine Wk.agg (.cons (.refl _) (.cons ?_ (.refl _)))
      rw [iv_delL]
      exact Wk.ro _ _ _
theorem removeR_ok : EntOk Try.prog removeRE := by
  intro xs σ; simp only [removeRE, chE]; split
  · rename_i v u s
    intro hc
    simp only [Bool.and_eq_true, hold_eq] at hc
    obtain ⟨r1, r2, r3⟩ := rootM_spec hc.1.1
    obtain ⟨l1, l2⟩ := lfM_spec hc.2.1
    exact pcall_of (.cons (wk_root r1) (.cons (wk_lf l1) (.refl _))) (removeR_c (rootOf v) (lfOf u) s r2 r3 l2 hc.1.2 hc.2.2) (by simp only [noOutL, root_noOut, lf_noOut, AVal.noOut, Bool.and_true]) (by simp only [noTokL, root_noTok, lf_noTok, AVal.noTok, Bool.and_true]) (ch_noOut _ _) (ch_noTok _ _)
  · trivial
end Go.Proofs.Ytlfnmhfmikomkaa
end

section
set_option maxRecDepth 100000
set_option maxHeartbeats 0
set_option linter.unusedVariables false
namespace Go.Proofs.Ytlfnmhfmikomkaa
open Go.AL Go.Proofs
noncomputable def cAwake : Cfg := { keep := [0, 1, 2, 3], cut := [], orc := ofList [insertE, sameRootE, sameE] }
noncomputable def cLawTexts : Cfg := { keep := [0, 2, 3, 6, 10, 18], cut := [(9, [0, 3], []), (16, [], [])] }
noncomputable def cSmall : Cfg := { keep := [0, 1, 2, 4, 5, 20, 24, 33], cut := [(9, [1, 5], []), (16, [], [])], orc := ofList [lawTextsE] }
noncomputable def cChanges : Cfg := { keep := [0, 1, 2, 3, 4, 6, 7, 8, 9, 10, 11, 12, 13, 14, 15, 16, 17, 18, 19, 20, 34, 97], cut := [], out := [7, 8], orc := ofList [awakeE, smallE, insertE, removeE, insertRE, removeRE, sameRootE, sameE], rdo := [39, 43, 52] }
noncomputable def code_17_ : Code := (Try.f17.body).getD .skip
noncomputable def code_44_ : Code := (Try.f44.body).getD .skip
noncomputable def code_4_ : Code := (Try.f4.body).getD .skip
noncomputable def code_9_ : Code := (Try.f9.body).getD .skip
noncomputable def code_17_1_1_1 : Code := codeAt code_17_ [1, 1, 1]
noncomputable def code_44_1_1_1 : Code := codeAt code_44_ [1, 1, 1]
noncomputable def code_17_1_1_0_1_0_0 : Code := codeAt code_17_ [1, 1, 0, 1, 0, 0]
noncomputable def code_44_1_1_0_1_0_0 : Code := codeAt code_44_ [1, 1, 0, 1, 0, 0]
theorem awake_r  (Q : AVal → Sto → Prop) : vc Try.prog cAwake code_9_ (endK Try.prog Try.f9.results.toList Q) (St.start Try.f9.ntmps [] (Sto.empty)) =
  (∀ (y : Ch), y = (([[(100 : UInt8)]], [(1 : Int), (2 : Int)]), [((1 : Int), [[(97 : UInt8)], [(98 : UInt8)], [(99 : UInt8)]], false), ((2 : Int), [[(100 : UInt8)], [(101 : UInt8)]], false)], (0 : Int)) → gb (rootM (AVal.agg [AVal.slice [] 0 Tag.nil, AVal.slice [AVal.int IntKind.i64 (1 : Int)] 1 Tag.full]) && lfM (AVal.agg [AVal.int IntKind.i64 (1 : Int), AVal.slice [AVal.str [(97 : UInt8)], AVal.str [(98 : UInt8)], AVal.str [(100 : UInt8)], AVal.str [(101 : UInt8)]] 1 Tag.full, AVal.bool false])) (brV (hold (Prod.snd (Prod.snd y) == (0 : Int))) true (gb (rootG (AVal.agg [AVal.slice (strv (Prod.fst (Prod.fst y))) 1 Tag.ro, AVal.slice (iv (Prod.snd (Prod.fst y))) 1 Tag.ro]) && rootG (AVal.agg [AVal.slice [AVal.str [(100 : UInt8)]] 1 Tag.full, AVal.slice [AVal.int IntKind.i64 (1 : Int), AVal.int IntKind.i64 (2 : Int)] 1 Tag.full])) (brV (hold ((List.map AVal.strOf (strv (Prod.fst (Prod.fst y))), List.map AVal.intOf (iv (Prod.snd (Prod.fst y)))) == ([[(100 : UInt8)]], [(1 : Int), (2 : Int)]))) true (gb (List.all (lfv (Prod.fst (Prod.snd y))) lfIs && (lenOk (List.length (lfv (Prod.fst (Prod.snd y)))) && List.all (lfv (Prod.fst (Prod.snd y))) lfG)) (Q (AVal.bool (hold (List.map lfOf (lfv (Prod.fst (Prod.snd y))) == [((1 : Int), [[(97 : UInt8)], [(98 : UInt8)], [(99 : UInt8)]], false), ((2 : Int), [[(100 : UInt8)], [(101 : UInt8)]], false)]))) Sto.empty)) (Q (AVal.bool false) Sto.empty))) (Q (AVal.bool false) Sto.empty))) := by kernel_rfl
theorem awake_i  (Q : AVal → Sto → Prop) (ho : OrcOk Try.prog cAwake) (h : ∀ (y : Ch), y = (([[(100 : UInt8)]], [(1 : Int), (2 : Int)]), [((1 : Int), [[(97 : UInt8)], [(98 : UInt8)], [(99 : UInt8)]], false), ((2 : Int), [[(100 : UInt8)], [(101 : UInt8)]], false)], (0 : Int)) → gb (rootM (AVal.agg [AVal.slice [] 0 Tag.nil, AVal.slice [AVal.int IntKind.i64 (1 : Int)] 1 Tag.full]) && lfM (AVal.agg [AVal.int IntKind.i64 (1 : Int), AVal.slice [AVal.str [(97 : UInt8)], AVal.str [(98 : UInt8)], AVal.str [(100 : UInt8)], AVal.str [(101 : UInt8)]] 1 Tag.full, AVal.bool false])) (brV (hold (Prod.snd (Prod.snd y) == (0 : Int))) true (gb (rootG (AVal.agg [AVal.slice (strv (Prod.fst (Prod.fst y))) 1 Tag.ro, AVal.slice (iv (Prod.snd (Prod.fst y))) 1 Tag.ro]) && rootG (AVal.agg [AVal.slice [AVal.str [(100 : UInt8)]] 1 Tag.full, AVal.slice [AVal.int IntKind.i64 (1 : Int), AVal.int IntKind.i64 (2 : Int)] 1 Tag.full])) (brV (hold ((List.map AVal.strOf (strv (Prod.fst (Prod.fst y))), List.map AVal.intOf (iv (Prod.snd (Prod.fst y)))) == ([[(100 : UInt8)]], [(1 : Int), (2 : Int)]))) true (gb (List.all (lfv (Prod.fst (Prod.snd y))) lfIs && (lenOk (List.length (lfv (Prod.fst (Prod.snd y)))) && List.all (lfv (Prod.fst (Prod.snd y))) lfG)) (Q (AVal.bool (hold (List.map lfOf (lfv (Prod.fst (Prod.snd y))) == [((1 : Int), [[(97 : UInt8)], [(98 : UInt8)], [(99 : UInt8)]], false), ((2 : Int), [[(100 : UInt8)], [(101 : UInt8)]], false)]))) Sto.empty)) (Q (AVal.bool false) Sto.empty))) (Q (AVal.bool false) Sto.empty))) : ACall Try.prog 9 [] (Sto.empty) Q :=
  ACall.intro hmix Try.func9 (c := code_9_) (by kernel_rfl) cAwake ho (Nat.le_of_ble_eq_true (by kernel_rfl)) (by rw [awake_r]; exact h)
theorem lawTexts_r (l : List Txt) (Q : AVal → Sto → Prop) : vc Try.prog cLawTexts code_44_ (endK Try.prog Try.f44.results.toList Q) (St.start Try.f44.ntmps [.slice (strv l) 1 .ro] (Sto.empty)) =
  (brV (hold (decide ((30 : Int) < (↑(List.length (strv l)) : Int)))) true (Q (AVal.bool false) Sto.empty) (loopV (fun s => St.norm [] [0, 3] [] s) (vc Try.prog cLawTexts code_44_1_1_0_1_0_0) (blockK 0 (thenK (fun s => cutV (vc Try.prog cLawTexts code_44_1_1_1 (endK Try.prog (Array.toList (Go.Func.results Try.f44)) Q)) (St.norm [] [] [] s)) (endK Try.prog (Array.toList (Go.Func.results Try.f44)) Q))) (St.mk 19 [(0, AVal.slice (strv l) 1 Tag.ro), (3, AVal.int IntKind.i64 (0 : Int))] [] [] Sto.empty))) := by kernel_rfl
theorem lawTexts_i (l : List Txt) (Q : AVal → Sto → Prop) (ho : OrcOk Try.prog cLawTexts) (h : brV (hold (decide ((30 : Int) < (↑(List.length (strv l)) : Int)))) true (Q (AVal.bool false) Sto.empty) (loopV (fun s => St.norm [] [0, 3] [] s) (vc Try.prog cLawTexts code_44_1_1_0_1_0_0) (blockK 0 (thenK (fun s => cutV (vc Try.prog cLawTexts code_44_1_1_1 (endK Try.prog (Array.toList (Go.Func.results Try.f44)) Q)) (St.norm [] [] [] s)) (endK Try.prog (Array.toList (Go.Func.results Try.f44)) Q))) (St.mk 19 [(0, AVal.slice (strv l) 1 Tag.ro), (3, AVal.int IntKind.i64 (0 : Int))] [] [] Sto.empty))) : ACall Try.prog 44 [.slice (strv l) 1 .ro] (Sto.empty) Q :=
  ACall.intro hmix Try.func44 (c := code_44_) (by kernel_rfl) cLawTexts ho (Nat.le_of_ble_eq_true (by kernel_rfl)) (by rw [lawTexts_r]; exact h)
noncomputable def lawTextsL_S (l : List Txt) (i : Nat) : St := St.mk 19 [(0, .slice (strv l) 1 .ro), (3, .int .i64 (i : Int))] [] [] (Sto.empty)
theorem lawTextsL_r (l : List Txt) (i : Nat) (L : St → Prop) (K : Exit → St → Prop) : vc Try.prog cLawTexts code_44_1_1_0_1_0_0 (thenK (fun s => L (St.norm [] [0, 3] [] s)) K) (St.mk 19 [(0, .slice (strv l) 1 .ro), (3, .int .i64 (i : Int))] [] [] (Sto.empty)) =
  (brV (hold (decide ((↑i : Int) < (↑(List.length (strv l)) : Int)))) true (gb (decide ((0 : Int) ≤ (↑i : Int) ∧ (↑i : Int) < (↑(List.length (strv l)) : Int))) (gb (decide (1 ≤ List.length (elemAt (strv l) (↑i : Int)) ∧ 0 < 1) && etaOk Sh.str (List.getD (elemAt (strv l) (↑i : Int)) 0 AVal.undef)) (brV (hold (decide ((700 : Int) < (↑(List.length (AVal.strOf (List.getD (elemAt (strv l) (↑i : Int)) 0 AVal.undef))) : Int)))) true (K Exit.ret (St.mk 19 [(0, AVal.slice (strv l) 1 Tag.ro), (3, AVal.int IntKind.i64 (↑i : Int)), (10, AVal.bool (hold (decide ((↑i : Int) < (↑(List.length (strv l)) : Int))))), (18, AVal.bool (hold (decide ((700 : Int) < (↑(List.length (AVal.strOf (List.getD (elemAt (strv l) (↑i : Int)) 0 AVal.undef))) : Int))))), (2, AVal.bool false)] [] [] Sto.empty)) (L (St.mk 19 [(0, AVal.slice (strv l) 1 Tag.ro), (3, AVal.int IntKind.i64 (IntKind.wrap IntKind.i64 ((↑i : Int) + (1 : Int))))] [] [] Sto.empty))))) (K (Exit.exit 0) (St.mk 19 [(0, AVal.slice (strv l) 1 Tag.ro), (3, AVal.int IntKind.i64 (↑i : Int)), (10, AVal.bool (hold (decide ((↑i : Int) < (↑(List.length (strv l)) : Int)))))] [] [] Sto.empty))) := by kernel_rfl
noncomputable def lawTextsF_S  : St := St.mk 19 [] [] [] (Sto.empty)
theorem lawTextsF_r  (Q : AVal → Sto → Prop) : vc Try.prog cLawTexts code_44_1_1_1 (endK Try.prog Try.f44.results.toList Q) (St.mk 19 [] [] [] (Sto.empty)) =
  (Q (AVal.bool true) Sto.empty) := by kernel_rfl
theorem small_r (r : Root) (ls : List Lf) (Q : AVal → Sto → Prop) : vc Try.prog cSmall code_17_ (endK Try.prog Try.f17.results.toList Q) (St.start Try.f17.ntmps [rootV r, .slice (lfv ls) 3 .ro] (Sto.empty)) =
  (gb (List.all (strv (Prod.fst r)) strIs && lenOk (List.length (strv (Prod.fst r)))) (brV (!hold (textsB (List.map AVal.strOf (strv (Prod.fst r))))) false (brV (hold (decide ((40 : Int) < (↑(List.length (iv (Prod.snd r))) : Int)))) false (brV (hold (decide ((40 : Int) < (↑(List.length (lfv ls)) : Int)))) true (Q (AVal.bool false) Sto.empty) (loopV (fun s => St.norm [] [1, 5] [] s) (vc Try.prog cSmall code_17_1_1_0_1_0_0) (blockK 0 (thenK (fun s => cutV (vc Try.prog cSmall code_17_1_1_1 (endK Try.prog (Array.toList (Go.Func.results Try.f17)) Q)) (St.norm [] [] [] s)) (endK Try.prog (Array.toList (Go.Func.results Try.f17)) Q))) (St.mk 34 [(1, AVal.slice (lfv ls) 3 Tag.ro), (5, AVal.int IntKind.i64 (0 : Int))] [] [] Sto.empty))) (Q (AVal.bool false) Sto.empty)) (Q (AVal.bool false) Sto.empty))) := by kernel_rfl
theorem small_i (r : Root) (ls : List Lf) (Q : AVal → Sto → Prop) (ho : OrcOk Try.prog cSmall) (h : gb (List.all (strv (Prod.fst r)) strIs && lenOk (List.length (strv (Prod.fst r)))) (brV (!hold (textsB (List.map AVal.strOf (strv (Prod.fst r))))) false (brV (hold (decide ((40 : Int) < (↑(List.length (iv (Prod.snd r))) : Int)))) false (brV (hold (decide ((40 : Int) < (↑(List.length (lfv ls)) : Int)))) true (Q (AVal.bool false) Sto.empty) (loopV (fun s => St.norm [] [1, 5] [] s) (vc Try.prog cSmall code_17_1_1_0_1_0_0) (blockK 0 (thenK (fun s => cutV (vc Try.prog cSmall code_17_1_1_1 (endK Try.prog (Array.toList (Go.Func.results Try.f17)) Q)) (St.norm [] [] [] s)) (endK Try.prog (Array.toList (Go.Func.results Try.f17)) Q))) (St.mk 34 [(1, AVal.slice (lfv ls) 3 Tag.ro), (5, AVal.int IntKind.i64 (0 : Int))] [] [] Sto.empty))) (Q (AVal.bool false) Sto.empty)) (Q (AVal.bool false) Sto.empty))) : ACall Try.prog 17 [rootV r, .slice (lfv ls) 3 .ro] (Sto.empty) Q :=
  ACall.intro hmix Try.func17 (c := code_17_) (by kernel_rfl) cSmall ho (Nat.le_of_ble_eq_true (by kernel_rfl)) (by rw [small_r]; exact h)
noncomputable def smallL_S (r : Root) (ls : List Lf) (i : Nat) : St := St.mk 34 [(1, .slice (lfv ls) 3 .ro), (5, .int .i64 (i : Int))] [] [] (Sto.empty)
theorem smallL_r (r : Root) (ls : List Lf) (i : Nat) (L : St → Prop) (K : Exit → St → Prop) : vc Try.prog cSmall code_17_1_1_0_1_0_0 (thenK (fun s => L (St.norm [] [1, 5] [] s)) K) (St.mk 34 [(1, .slice (lfv ls) 3 .ro), (5, .int .i64 (i : Int))] [] [] (Sto.empty)) =
  (brV (hold (decide ((↑i : Int) < (↑(List.length (lfv ls)) : Int)))) true (gb (decide ((0 : Int) ≤ (↑i : Int) ∧ (↑i : Int) < (↑(List.length (lfv ls)) : Int))) (gb (decide (1 ≤ List.length (List.drop 1 (elemAt (lfv ls) (↑i : Int))) ∧ 0 < 1) && sliceOk 1 (List.getD (List.drop 1 (elemAt (lfv ls) (↑i : Int))) 0 AVal.undef)) (gb (List.all (AVal.elems (List.getD (List.drop 1 (elemAt (lfv ls) (↑i : Int))) 0 AVal.undef)) strIs && lenOk (List.length (AVal.elems (List.getD (List.drop 1 (elemAt (lfv ls) (↑i : Int))) 0 AVal.undef)))) (brV (!hold (textsB (List.map AVal.strOf (AVal.elems (List.getD (List.drop 1 (elemAt (lfv ls) (↑i : Int))) 0 AVal.undef))))) true (K Exit.ret (St.mk 34 [(1, AVal.slice (lfv ls) 3 Tag.ro), (5, AVal.int IntKind.i64 (↑i : Int)), (24, AVal.bool (hold (decide ((↑i : Int) < (↑(List.length (lfv ls)) : Int))))), (33, AVal.bool !hold (textsB (List.map AVal.strOf (AVal.elems (List.getD (List.drop 1 (elemAt (lfv ls) (↑i : Int))) 0 AVal.undef))))), (4, AVal.bool false)] [] [] Sto.empty)) (L (St.mk 34 [(1, AVal.slice (lfv ls) 3 Tag.ro), (5, AVal.int IntKind.i64 (IntKind.wrap IntKind.i64 ((↑i : Int) + (1 : Int))))] [] [] Sto.empty)))))) (K (Exit.exit 0) (St.mk 34 [(1, AVal.slice (lfv ls) 3 Tag.ro), (5, AVal.int IntKind.i64 (↑i : Int)), (24, AVal.bool (hold (decide ((↑i : Int) < (↑(List.length (lfv ls)) : Int)))))] [] [] Sto.empty))) := by kernel_rfl
noncomputable def smallF_S  : St := St.mk 34 [] [] [] (Sto.empty)
theorem smallF_r  (Q : AVal → Sto → Prop) : vc Try.prog cSmall code_17_1_1_1 (endK Try.prog Try.f17.results.toList Q) (St.mk 34 [] [] [] (Sto.empty)) =
  (Q (AVal.bool true) Sto.empty) := by kernel_rfl
theorem changes_r (r : Root) (l : Lf) (s : Txt) (Q : AVal → Sto → Prop) : vc Try.prog cChanges code_4_ (endK Try.prog Try.f4.results.toList Q) (St.start Try.f4.ntmps [rootV r, lfV l, .str s] (Sto.empty)) =
  (gb (rootG (AVal.agg [AVal.slice (strv (Prod.fst r)) 1 Tag.ro, AVal.slice (iv (Prod.snd r)) 1 Tag.ro]) && (List.all [AVal.agg [AVal.int IntKind.i64 (Prod.fst l), AVal.slice (strv (Prod.fst (Prod.snd l))) 1 Tag.ro, AVal.bool (Prod.snd (Prod.snd l))]] lfIs && (lenOk 1 && List.all [AVal.agg [AVal.int IntKind.i64 (Prod.fst l), AVal.slice (strv (Prod.fst (Prod.snd l))) 1 Tag.ro, AVal.bool (Prod.snd (Prod.snd l))]] lfG))) (brV (!hold (smallB (List.map AVal.strOf (strv (Prod.fst r)), List.map AVal.intOf (iv (Prod.snd r))) [(Prod.fst l, List.map AVal.strOf (strv (Prod.fst (Prod.snd l))), Prod.snd (Prod.snd l))])) false (brV (hold (decide ((700 : Int) < (↑(List.length s) : Int)))) true (Q (AVal.bool true) Sto.empty) (gb (decide (decide (true = true ∧ List.length (strv (Prod.fst r)) * 16 ≤ 140737488355328 ∧ List.length (strv (Prod.fst r)) ≤ 9223372036854775807) = true ∧ true = true)) (gb (decide (decide (true = true ∧ List.length (iv (Prod.snd r)) * 8 ≤ 140737488355328 ∧ List.length (iv (Prod.snd r)) ≤ 9223372036854775807) = true ∧ true = true)) (gb (decide (decide (true = true ∧ List.length (strv (Prod.fst (Prod.snd l))) * 16 ≤ 140737488355328 ∧ List.length (strv (Prod.fst (Prod.snd l))) ≤ 9223372036854775807) = true ∧ true = true)) (∀ (y : Ch), y = insN (List.map AVal.strOf (strv (Prod.fst r)), List.map AVal.intOf (iv (Prod.snd r))) (Prod.fst l, List.map AVal.strOf (strv (Prod.fst (Prod.snd l))), Prod.snd (Prod.snd l)) s → gb (rootM (AVal.agg [AVal.slice (strv (Prod.fst r)) 1 Tag.ro, AVal.slice (iv (Prod.snd r)) 1 Tag.ro]) && lfM (AVal.agg [AVal.int IntKind.i64 (Prod.fst l), AVal.slice (strv (Prod.fst (Prod.snd l))) 1 Tag.ro, AVal.bool (Prod.snd (Prod.snd l))])) (∀ (y_1 : Ch), y_1 = remN (List.map AVal.strOf (strv (Prod.fst r)), List.map AVal.intOf (iv (Prod.snd r))) (Prod.fst l, List.map AVal.strOf (strv (Prod.fst (Prod.snd l))), Prod.snd (Prod.snd l)) s → gb (rootM (AVal.agg [AVal.slice (strv (Prod.fst r)) 1 Tag.ro, AVal.slice (iv (Prod.snd r)) 1 Tag.ro]) && lfM (AVal.agg [AVal.int IntKind.i64 (Prod.fst l), AVal.slice (strv (Prod.fst (Prod.snd l))) 1 Tag.ro, AVal.bool (Prod.snd (Prod.snd l))])) (∀ (y_2 : Ch), y_2 = insN (List.map AVal.strOf (strv (Prod.fst r)), List.map AVal.intOf (iv (Prod.snd r))) (Prod.fst l, List.map AVal.strOf (strv (Prod.fst (Prod.snd l))), Prod.snd (Prod.snd l)) s → gb (rootM (AVal.agg [AVal.slice (strv (Prod.fst r)) 1 Tag.ro, AVal.slice (iv (Prod.snd r)) 1 Tag.ro]) && hold (shortL (List.map AVal.strOf (strv (Prod.fst r)))) && (lfM (AVal.agg [AVal.int IntKind.i64 (Prod.fst l), AVal.slice (strv (Prod.fst (Prod.snd l))) 1 Tag.ro, AVal.bool (Prod.snd (Prod.snd l))]) && hold (shortL (List.map AVal.strOf (strv (Prod.fst (Prod.snd l))))))) (∀ (y_3 : Ch), y_3 = remN (List.map AVal.strOf (strv (Prod.fst r)), List.map AVal.intOf (iv (Prod.snd r))) (Prod.fst l, List.map AVal.strOf (strv (Prod.fst (Prod.snd l))), Prod.snd (Prod.snd l)) s → gb (rootM (AVal.agg [AVal.slice (strv (Prod.fst r)) 1 Tag.ro, AVal.slice (iv (Prod.snd r)) 1 Tag.ro]) && hold (shortL (List.map AVal.strOf (strv (Prod.fst r)))) && (lfM (AVal.agg [AVal.int IntKind.i64 (Prod.fst l), AVal.slice (strv (Prod.fst (Prod.snd l))) 1 Tag.ro, AVal.bool (Prod.snd (Prod.snd l))]) && hold (shortL (List.map AVal.strOf (strv (Prod.fst (Prod.snd l))))))) (gb (rootG (AVal.agg [AVal.slice (strv (Prod.fst r)) 1 Tag.ro, AVal.slice (iv (Prod.snd r)) 1 Tag.ro]) && rootG (AVal.agg [AVal.slice (strv (Prod.fst r)) 1 Tag.ro, AVal.slice (iv (Prod.snd r)) 1 Tag.ro])) (brV (!hold ((List.map AVal.strOf (strv (Prod.fst r)), List.map AVal.intOf (iv (Prod.snd r))) == (List.map AVal.strOf (strv (Prod.fst r)), List.map AVal.intOf (iv (Prod.snd r))))) false (gb (List.all [AVal.agg [AVal.int IntKind.i64 (Prod.fst l), AVal.slice (strv (Prod.fst (Prod.snd l))) 1 Tag.ro, AVal.bool (Prod.snd (Prod.snd l))]] lfIs && (List.all [AVal.agg [AVal.int IntKind.i64 (Prod.fst l), AVal.slice (strv (Prod.fst (Prod.snd l))) 1 Tag.ro, AVal.bool (Prod.snd (Prod.snd l))]] lfIs && (lenOk 1 && List.all [AVal.agg [AVal.int IntKind.i64 (Prod.fst l), AVal.slice (strv (Prod.fst (Prod.snd l))) 1 Tag.ro, AVal.bool (Prod.snd (Prod.snd l))]] lfG))) (brV (!hold ([(Prod.fst l, List.map AVal.strOf (strv (Prod.fst (Prod.snd l))), Prod.snd (Prod.snd l))] == [(Prod.fst l, List.map AVal.strOf (strv (Prod.fst (Prod.snd l))), Prod.snd (Prod.snd l))])) true (Q (AVal.bool false) (Sto.set (Sto.push (Sto.set (Sto.push Sto.empty (AObj.cells [AVal.slice [] 0 Tag.nil, AVal.slice [] 0 Tag.nil])) 0 (AObj.cells [AVal.slice (strv (Prod.fst r)) 1 Tag.ro, AVal.slice (iv (Prod.snd r)) 1 Tag.ro])) (AObj.cells [AVal.int IntKind.i64 (0 : Int), AVal.slice [] 0 Tag.nil, AVal.bool false])) 1 (AObj.cells [AVal.int IntKind.i64 (Prod.fst l), AVal.slice (strv (Prod.fst (Prod.snd l))) 1 Tag.ro, AVal.bool (Prod.snd (Prod.snd l))]))) (brV (hold (Prod.snd (Prod.snd y) == Prod.snd (Prod.snd y_2))) true (gb (rootG (AVal.agg [AVal.slice (strv (Prod.fst (Prod.fst y))) 1 Tag.ro, AVal.slice (iv (Prod.snd (Prod.fst y))) 1 Tag.ro]) && rootG (AVal.agg [AVal.slice (strv (Prod.fst (Prod.fst y_2))) 1 Tag.ro, AVal.slice (iv (Prod.snd (Prod.fst y_2))) 1 Tag.ro])) (brV (hold ((List.map AVal.strOf (strv (Prod.fst (Prod.fst y))), List.map AVal.intOf (iv (Prod.snd (Prod.fst y)))) == (List.map AVal.strOf (strv (Prod.fst (Prod.fst y_2))), List.map AVal.intOf (iv (Prod.snd (Prod.fst y_2)))))) true (gb (List.all (lfv (Prod.fst (Prod.snd y))) lfIs && (List.all (lfv (Prod.fst (Prod.snd y_2))) lfIs && (lenOk (List.length (lfv (Prod.fst (Prod.snd y)))) && List.all (lfv (Prod.fst (Prod.snd y))) lfG))) (brV (hold (List.map lfOf (lfv (Prod.fst (Prod.snd y))) == List.map lfOf (lfv (Prod.fst (Prod.snd y_2))))) true (brV (hold (Prod.snd (Prod.snd y_1) == Prod.snd (Prod.snd y_3))) true (gb (rootG (AVal.agg [AVal.slice (strv (Prod.fst (Prod.fst y_1))) 1 Tag.ro, AVal.slice (iv (Prod.snd (Prod.fst y_1))) 1 Tag.ro]) && rootG (AVal.agg [AVal.slice (strv (Prod.fst (Prod.fst y_3))) 1 Tag.ro, AVal.slice (iv (Prod.snd (Prod.fst y_3))) 1 Tag.ro])) (brV (hold ((List.map AVal.strOf (strv (Prod.fst (Prod.fst y_1))), List.map AVal.intOf (iv (Prod.snd (Prod.fst y_1)))) == (List.map AVal.strOf (strv (Prod.fst (Prod.fst y_3))), List.map AVal.intOf (iv (Prod.snd (Prod.fst y_3)))))) true (gb (List.all (lfv (Prod.fst (Prod.snd y_1))) lfIs && (List.all (lfv (Prod.fst (Prod.snd y_3))) lfIs && (lenOk (List.length (lfv (Prod.fst (Prod.snd y_1)))) && List.all (lfv (Prod.fst (Prod.snd y_1))) lfG))) (Q (AVal.bool (hold (List.map lfOf (lfv (Prod.fst (Prod.snd y_1))) == List.map lfOf (lfv (Prod.fst (Prod.snd y_3)))))) (Sto.set (Sto.push (Sto.set (Sto.push Sto.empty (AObj.cells [AVal.slice [] 0 Tag.nil, AVal.slice [] 0 Tag.nil])) 0 (AObj.cells [AVal.slice (strv (Prod.fst r)) 1 Tag.ro, AVal.slice (iv (Prod.snd r)) 1 Tag.ro])) (AObj.cells [AVal.int IntKind.i64 (0 : Int), AVal.slice [] 0 Tag.nil, AVal.bool false])) 1 (AObj.cells [AVal.int IntKind.i64 (Prod.fst l), AVal.slice (strv (Prod.fst (Prod.snd l))) 1 Tag.ro, AVal.bool (Prod.snd (Prod.snd l))])))) (Q (AVal.bool false) (Sto.set (Sto.push (Sto.set (Sto.push Sto.empty (AObj.cells [AVal.slice [] 0 Tag.nil, AVal.slice [] 0 Tag.nil])) 0 (AObj.cells [AVal.slice (strv (Prod.fst r)) 1 Tag.ro, AVal.slice (iv (Prod.snd r)) 1 Tag.ro])) (AObj.cells [AVal.int IntKind.i64 (0 : Int), AVal.slice [] 0 Tag.nil, AVal.bool false])) 1 (AObj.cells [AVal.int IntKind.i64 (Prod.fst l), AVal.slice (strv (Prod.fst (Prod.snd l))) 1 Tag.ro, AVal.bool (Prod.snd (Prod.snd l))]))))) (Q (AVal.bool false) (Sto.set (Sto.push (Sto.set (Sto.push Sto.empty (AObj.cells [AVal.slice [] 0 Tag.nil, AVal.slice [] 0 Tag.nil])) 0 (AObj.cells [AVal.slice (strv (Prod.fst r)) 1 Tag.ro, AVal.slice (iv (Prod.snd r)) 1 Tag.ro])) (AObj.cells [AVal.int IntKind.i64 (0 : Int), AVal.slice [] 0 Tag.nil, AVal.bool false])) 1 (AObj.cells [AVal.int IntKind.i64 (Prod.fst l), AVal.slice (strv (Prod.fst (Prod.snd l))) 1 Tag.ro, AVal.bool (Prod.snd (Prod.snd l))])))) (Q (AVal.bool false) (Sto.set (Sto.push (Sto.set (Sto.push Sto.empty (AObj.cells [AVal.slice [] 0 Tag.nil, AVal.slice [] 0 Tag.nil])) 0 (AObj.cells [AVal.slice (strv (Prod.fst r)) 1 Tag.ro, AVal.slice (iv (Prod.snd r)) 1 Tag.ro])) (AObj.cells [AVal.int IntKind.i64 (0 : Int), AVal.slice [] 0 Tag.nil, AVal.bool false])) 1 (AObj.cells [AVal.int IntKind.i64 (Prod.fst l), AVal.slice (strv (Prod.fst (Prod.snd l))) 1 Tag.ro, AVal.bool (Prod.snd (Prod.snd l))]))))) (Q (AVal.bool false) (Sto.set (Sto.push (Sto.set (Sto.push Sto.empty (AObj.cells [AVal.slice [] 0 Tag.nil, AVal.slice [] 0 Tag.nil])) 0 (AObj.cells [AVal.slice (strv (Prod.fst r)) 1 Tag.ro, AVal.slice (iv (Prod.snd r)) 1 Tag.ro])) (AObj.cells [AVal.int IntKind.i64 (0 : Int), AVal.slice [] 0 Tag.nil, AVal.bool false])) 1 (AObj.cells [AVal.int IntKind.i64 (Prod.fst l), AVal.slice (strv (Prod.fst (Prod.snd l))) 1 Tag.ro, AVal.bool (Prod.snd (Prod.snd l))]))))) (Q (AVal.bool false) (Sto.set (Sto.push (Sto.set (Sto.push Sto.empty (AObj.cells [AVal.slice [] 0 Tag.nil, AVal.slice [] 0 Tag.nil])) 0 (AObj.cells [AVal.slice (strv (Prod.fst r)) 1 Tag.ro, AVal.slice (iv (Prod.snd r)) 1 Tag.ro])) (AObj.cells [AVal.int IntKind.i64 (0 : Int), AVal.slice [] 0 Tag.nil, AVal.bool false])) 1 (AObj.cells [AVal.int IntKind.i64 (Prod.fst l), AVal.slice (strv (Prod.fst (Prod.snd l))) 1 Tag.ro, AVal.bool (Prod.snd (Prod.snd l))])))))) (Q (AVal.bool false) (Sto.set (Sto.push (Sto.set (Sto.push Sto.empty (AObj.cells [AVal.slice [] 0 Tag.nil, AVal.slice [] 0 Tag.nil])) 0 (AObj.cells [AVal.slice (strv (Prod.fst r)) 1 Tag.ro, AVal.slice (iv (Prod.snd r)) 1 Tag.ro])) (AObj.cells [AVal.int IntKind.i64 (0 : Int), AVal.slice [] 0 Tag.nil, AVal.bool false])) 1 (AObj.cells [AVal.int IntKind.i64 (Prod.fst l), AVal.slice (strv (Prod.fst (Prod.snd l))) 1 Tag.ro, AVal.bool (Prod.snd (Prod.snd l))]))))))))))))) (Q (AVal.bool true) Sto.empty))) := by kernel_rfl
theorem changes_i (r : Root) (l : Lf) (s : Txt) (Q : AVal → Sto → Prop) (ho : OrcOk Try.prog cChanges) (h : gb (rootG (AVal.agg [AVal.slice (strv (Prod.fst r)) 1 Tag.ro, AVal.slice (iv (Prod.snd r)) 1 Tag.ro]) && (List.all [AVal.agg [AVal.int IntKind.i64 (Prod.fst l), AVal.slice (strv (Prod.fst (Prod.snd l))) 1 Tag.ro, AVal.bool (Prod.snd (Prod.snd l))]] lfIs && (lenOk 1 && List.all [AVal.agg [AVal.int IntKind.i64 (Prod.fst l), AVal.slice (strv (Prod.fst (Prod.snd l))) 1 Tag.ro, AVal.bool (Prod.snd (Prod.snd l))]] lfG))) (brV (!hold (smallB (List.map AVal.strOf (strv (Prod.fst r)), List.map AVal.intOf (iv (Prod.snd r))) [(Prod.fst l, List.map AVal.strOf (strv (Prod.fst (Prod.snd l))), Prod.snd (Prod.snd l))])) false (brV (hold (decide ((700 : Int) < (↑(List.length s) : Int)))) true (Q (AVal.bool true) Sto.empty) (gb (decide (decide (true = true ∧ List.length (strv (Prod.fst r)) * 16 ≤ 140737488355328 ∧ List.length (strv (Prod.fst r)) ≤ 9223372036854775807) = true ∧ true = true)) (gb (decide (decide (true = true ∧ List.length (iv (Prod.snd r)) * 8 ≤ 140737488355328 ∧ List.length (iv (Prod.snd r)) ≤ 9223372036854775807) = true ∧ true = true)) (gb (decide (decide (true = true ∧ List.length (strv (Prod.fst (Prod.snd l))) * 16 ≤ 140737488355328 ∧ List.length (strv (Prod.fst (Prod.snd l))) ≤ 9223372036854775807) = true ∧ true = true)) (∀ (y : Ch), y = insN (List.map AVal.strOf (strv (Prod.fst r)), List.map AVal.intOf (iv (Prod.snd r))) (Prod.fst l, List.map AVal.strOf (strv (Prod.fst (Prod.snd l))), Prod.snd (Prod.snd l)) s → gb (rootM (AVal.agg [AVal.slice (strv (Prod.fst r)) 1 Tag.ro, AVal.slice (iv (Prod.snd r)) 1 Tag.ro]) && lfM (AVal.agg [AVal.int IntKind.i64 (Prod.fst l), AVal.slice (strv (Prod.fst (Prod.snd l))) 1 Tag.ro, AVal.bool (Prod.snd (Prod.snd l))])) (∀ (y_1 : Ch), y_1 = remN (List.map AVal.strOf (strv (Prod.fst r)), List.map AVal.intOf (iv (Prod.snd r))) (Prod.fst l, List.map AVal.strOf (strv (Prod.fst (Prod.snd l))), Prod.snd (Prod.snd l)) s → gb (rootM (AVal.agg [AVal.slice (strv (Prod.fst r)) 1 Tag.ro, AVal.slice (iv (Prod.snd r)) 1 Tag.ro]) && lfM (AVal.agg [AVal.int IntKind.i64 (Prod.fst l), AVal.slice (strv (Prod.fst (Prod.snd l))) 1 Tag.ro, AVal.bool (Prod.snd (Prod.snd l))])) (∀ (y_2 : Ch), y_2 = insN (List.map AVal.strOf (strv (Prod.fst r)), List.map AVal.intOf (iv (Prod.snd r))) (Prod.fst l, List.map AVal.strOf (strv (Prod.fst (Prod.snd l))), Prod.snd (Prod.snd l)) s → gb (rootM (AVal.agg [AVal.slice (strv (Prod.fst r)) 1 Tag.ro, AVal.slice (iv (Prod.snd r)) 1 Tag.ro]) && hold (shortL (List.map AVal.strOf (strv (Prod.fst r)))) && (lfM (AVal.agg [AVal.int IntKind.i64 (Prod.fst l), AVal.slice (strv (Prod.fst (Prod.snd l))) 1 Tag.ro, AVal.bool (Prod.snd (Prod.snd l))]) && hold (shortL (List.map AVal.strOf (strv (Prod.fst (Prod.snd l))))))) (∀ (y_3 : Ch), y_3 = remN (List.map AVal.strOf (strv (Prod.fst r)), List.map AVal.intOf (iv (Prod.snd r))) (Prod.fst l, List.map AVal.strOf (strv (Prod.fst (Prod.snd l))), Prod.snd (Prod.snd l)) s → gb (rootM (AVal.agg [AVal.slice (strv (Prod.fst r)) 1 Tag.ro, AVal.slice (iv (Prod.snd r)) 1 Tag.ro]) && hold (shortL (List.map AVal.strOf (strv (Prod.fst r)))) && (lfM (AVal.agg [AVal.int IntKind.i64 (Prod.fst l), AVal.slice (strv (Prod.fst (Prod.snd l))) 1 Tag.ro, AVal.bool (Prod.snd (Prod.snd l))]) && hold (shortL (List.map AVal.strOf (strv (Prod.fst (Prod.snd l))))))) (gb (rootG (AVal.agg [AVal.slice (strv (Prod.fst r)) 1 Tag.ro, AVal.slice (iv (Prod.snd r)) 1 Tag.ro]) && rootG (AVal.agg [AVal.slice (strv (Prod.fst r)) 1 Tag.ro, AVal.slice (iv (Prod.snd r)) 1 Tag.ro])) (brV (!hold ((List.map AVal.strOf (strv (Prod.fst r)), List.map AVal.intOf (iv (Prod.snd r))) == (List.map AVal.strOf (strv (Prod.fst r)), List.map AVal.intOf (iv (Prod.snd r))))) false (gb (List.all [AVal.agg [AVal.int IntKind.i64 (Prod.fst l), AVal.slice (strv (Prod.fst (Prod.snd l))) 1 Tag.ro, AVal.bool (Prod.snd (Prod.snd l))]] lfIs && (List.all [AVal.agg [AVal.int IntKind.i64 (Prod.fst l), AVal.slice (strv (Prod.fst (Prod.snd l))) 1 Tag.ro, AVal.bool (Prod.snd (Prod.snd l))]] lfIs && (lenOk 1 && List.all [AVal.agg [AVal.int IntKind.i64 (Prod.fst l), AVal.slice (strv (Prod.fst (Prod.snd l))) 1 Tag.ro, AVal.bool (Prod.snd (Prod.snd l))]] lfG))) (brV (!hold ([(Prod.fst l, List.map AVal.strOf (strv (Prod.fst (Prod.snd l))), Prod.snd (Prod.snd l))] == [(Prod.fst l, List.map AVal.strOf (strv (Prod.fst (Prod.snd l))), Prod.snd (Prod.snd l))])) true (Q (AVal.bool false) (Sto.set (Sto.push (Sto.set (Sto.push Sto.empty (AObj.cells [AVal.slice [] 0 Tag.nil, AVal.slice [] 0 Tag.nil])) 0 (AObj.cells [AVal.slice (strv (Prod.fst r)) 1 Tag.ro, AVal.slice (iv (Prod.snd r)) 1 Tag.ro])) (AObj.cells [AVal.int IntKind.i64 (0 : Int), AVal.slice [] 0 Tag.nil, AVal.bool false])) 1 (AObj.cells [AVal.int IntKind.i64 (Prod.fst l), AVal.slice (strv (Prod.fst (Prod.snd l))) 1 Tag.ro, AVal.bool (Prod.snd (Prod.snd l))]))) (brV (hold (Prod.snd (Prod.snd y) == Prod.snd (Prod.snd y_2))) true (gb (rootG (AVal.agg [AVal.slice (strv (Prod.fst (Prod.fst y))) 1 Tag.ro, AVal.slice (iv (Prod.snd (Prod.fst y))) 1 Tag.ro]) && rootG (AVal.agg [AVal.slice (strv (Prod.fst (Prod.fst y_2))) 1 Tag.ro, AVal.slice (iv (Prod.snd (Prod.fst y_2))) 1 Tag.ro])) (brV (hold ((List.map AVal.strOf (strv (Prod.fst (Prod.fst y))), List.map AVal.intOf (iv (Prod.snd (Prod.fst y)))) == (List.map AVal.strOf (strv (Prod.fst (Prod.fst y_2))), List.map AVal.intOf (iv (Prod.snd (Prod.fst y_2)))))) true (gb (List.all (lfv (Prod.fst (Prod.snd y))) lfIs && (List.all (lfv (Prod.fst (Prod.snd y_2))) lfIs && (lenOk (List.length (lfv (Prod.fst (Prod.snd y)))) && List.all (lfv (Prod.fst (Prod.snd y))) lfG))) (brV (hold (List.map lfOf (lfv (Prod.fst (Prod.snd y))) == List.map lfOf (lfv (Prod.fst (Prod.snd y_2))))) true (brV (hold (Prod.snd (Prod.snd y_1) == Prod.snd (Prod.snd y_3))) true (gb (rootG (AVal.agg [AVal.slice (strv (Prod.fst (Prod.fst y_1))) 1 Tag.ro, AVal.slice (iv (Prod.snd (Prod.fst y_1))) 1 Tag.ro]) && rootG (AVal.agg [AVal.slice (strv (Prod.fst (Prod.fst y_3))) 1 Tag.ro, AVal.slice (iv (Prod.snd (Prod.fst y_3))) 1 Tag.ro])) (brV (hold ((List.map AVal.strOf (strv (Prod.fst (Prod.fst y_1))), List.map AVal.intOf (iv (Prod.snd (Prod.fst y_1)))) == (List.map AVal.strOf (strv (Prod.fst (Prod.fst y_3))), List.map AVal.intOf (iv (Prod.snd (Prod.fst y_3)))))) true (gb (List.all (lfv (Prod.fst (Prod.snd y_1))) lfIs && (List.all (lfv (Prod.fst (Prod.snd y_3))) lfIs && (lenOk (List.length (lfv (Prod.fst (Prod.snd y_1)))) && List.all (lfv (Prod.fst (Prod.snd y_1))) lfG))) (Q (AVal.bool (hold (List.map lfOf (lfv (Prod.fst (Prod.snd y_1))) == List.map lfOf (lfv (Prod.fst (Prod.snd y_3)))))) (Sto.set (Sto.push (Sto.set (Sto.push Sto.empty (AObj.cells [AVal.slice [] 0 Tag.nil, AVal.slice [] 0 Tag.nil])) 0 (AObj.cells [AVal.slice (strv (Prod.fst r)) 1 Tag.ro, AVal.slice (iv (Prod.snd r)) 1 Tag.ro])) (AObj.cells [AVal.int IntKind.i64 (0 : Int), AVal.slice [] 0 Tag.nil, AVal.bool false])) 1 (AObj.cells [AVal.int IntKind.i64 (Prod.fst l), AVal.slice (strv (Prod.fst (Prod.snd l))) 1 Tag.ro, AVal.bool (Prod.snd (Prod.snd l))])))) (Q (AVal.bool false) (Sto.set (Sto.push (Sto.set (Sto.push Sto.empty (AObj.cells [AVal.slice [] 0 Tag.nil, AVal.slice [] 0 Tag.nil])) 0 (AObj.cells [AVal.slice (strv (Prod.fst r)) 1 Tag.ro, AVal.slice (iv (Prod.snd r)) 1 Tag.ro])) (AObj.cells [AVal.int IntKind.i64 (0 : Int), AVal.slice [] 0 Tag.nil, AVal.bool false])) 1 (AObj.cells [AVal.int IntKind.i64 (Prod.fst l), AVal.slice (strv (Prod.fst (Prod.snd l))) 1 Tag.ro, AVal.bool (Prod.snd (Prod.snd l))]))))) (Q (AVal.bool false) (Sto.set (Sto.push (Sto.set (Sto.push Sto.empty (AObj.cells [AVal.slice [] 0 Tag.nil, AVal.slice [] 0 Tag.nil])) 0 (AObj.cells [AVal.slice (strv (Prod.fst r)) 1 Tag.ro, AVal.slice (iv (Prod.snd r)) 1 Tag.ro])) (AObj.cells [AVal.int IntKind.i64 (0 : Int), AVal.slice [] 0 Tag.nil, AVal.bool false])) 1 (AObj.cells [AVal.int IntKind.i64 (Prod.fst l), AVal.slice (strv (Prod.fst (Prod.snd l))) 1 Tag.ro, AVal.bool (Prod.snd (Prod.snd l))])))) (Q (AVal.bool false) (Sto.set (Sto.push (Sto.set (Sto.push Sto.empty (AObj.cells [AVal.slice [] 0 Tag.nil, AVal.slice [] 0 Tag.nil])) 0 (AObj.cells [AVal.slice (strv (Prod.fst r)) 1 Tag.ro, AVal.slice (iv (Prod.snd r)) 1 Tag.ro])) (AObj.cells [AVal.int IntKind.i64 (0 : Int), AVal.slice [] 0 Tag.nil, AVal.bool false])) 1 (AObj.cells [AVal.int IntKind.i64 (Prod.fst l), AVal.slice (strv (Prod.fst (Prod.snd l))) 1 Tag.ro, AVal.bool (Prod.snd (Prod.snd l))]))))) (Q (AVal.bool false) (Sto.set (Sto.push (Sto.set (Sto.push Sto.empty (AObj.cells [AVal.slice [] 0 Tag.nil, AVal.slice [] 0 Tag.nil])) 0 (AObj.cells [AVal.slice (strv (Prod.fst r)) 1 Tag.ro, AVal.slice (iv (Prod.snd r)) 1 Tag.ro])) (AObj.cells [AVal.int IntKind.i64 (0 : Int), AVal.slice [] 0 Tag.nil, AVal.bool false])) 1 (AObj.cells [AVal.int IntKind.i64 (Prod.fst l), AVal.slice (strv (Prod.fst (Prod.snd l))) 1 Tag.ro, AVal.bool (Prod.snd (Prod.snd l))]))))) (Q (AVal.bool false) (Sto.set (Sto.push (Sto.set (Sto.push Sto.empty (AObj.cells [AVal.slice [] 0 Tag.nil, AVal.slice [] 0 Tag.nil])) 0 (AObj.cells [AVal.slice (strv (Prod.fst r)) 1 Tag.ro, AVal.slice (iv (Prod.snd r)) 1 Tag.ro])) (AObj.cells [AVal.int IntKind.i64 (0 : Int), AVal.slice [] 0 Tag.nil, AVal.bool false])) 1 (AObj.cells [AVal.int IntKind.i64 (Prod.fst l), AVal.slice (strv (Prod.fst (Prod.snd l))) 1 Tag.ro, AVal.bool (Prod.snd (Prod.snd l))])))))) (Q (AVal.bool false) (Sto.set (Sto.push (Sto.set (Sto.push Sto.empty (AObj.cells [AVal.slice [] 0 Tag.nil, AVal.slice [] 0 Tag.nil])) 0 (AObj.cells [AVal.slice (strv (Prod.fst r)) 1 Tag.ro, AVal.slice (iv (Prod.snd r)) 1 Tag.ro])) (AObj.cells [AVal.int IntKind.i64 (0 : Int), AVal.slice [] 0 Tag.nil, AVal.bool false])) 1 (AObj.cells [AVal.int IntKind.i64 (Prod.fst l), AVal.slice (strv (Prod.fst (Prod.snd l))) 1 Tag.ro, AVal.bool (Prod.snd (Prod.snd l))]))))))))))))) (Q (AVal.bool true) Sto.empty))) : ACall Try.prog 4 [rootV r, lfV l, .str s] (Sto.empty) Q :=
  ACall.intro hmix Try.func4 (c := code_4_) (by kernel_rfl) cChanges ho (Nat.le_of_ble_eq_true (by kernel_rfl)) (by rw [changes_r]; exact h)
end Go.Proofs.Ytlfnmhfmikomkaa
end

section
set_option linter.unusedVariables false
set_option linter.unusedSimpArgs false
set_option maxRecDepth 20000
set_option maxHeartbeats 4000000
namespace Go.Proofs.Ytlfnmhfmikomkaa
open Go.AL

theorem lawTexts_c (l : List Txt) (hl : l.length ≤ 140737488351232) : ACall Try.prog 44 [.slice (strv l) 1 .ro] Sto.empty fun r _ => Wk r (.bool (hold (textsB l))) := by
  refine lawTexts_i l _ (.of_none rfl) ?_
  have hn : (strv l).length = l.length := strv_length l
  simp only [hold_eq]
  refine brV_by (fun h => ?_) (fun h => ?_)
  · have hb : textsB l = false := by
      have := of_decide_eq_true h
      rw [← Bool.not_eq_true, textsB_iff]
      omega
    rw [hb]; exact Wk.refl _
  have h30 : l.length ≤ 30 := by have := of_decide_eq_false h; omega
  refine loopV_intro (α := Nat) (fun i => lawTextsL_S l i) (fun i => i ≤ l.length ∧ ∀ y ∈ l.take i, y.length ≤ 700) (fun i => l.length - i) ?_ 0 ⟨Nat.zero_le _, fun x hx => by simp at hx⟩
  rintro i ⟨hi, hpre⟩ L hL
  refine Eq.mpr (lawTextsL_r l i L _) ?_
  simp only [hold_eq]
  refine brV_by (fun h => ?_) (fun h => ?_)
  · have hlt : i < l.length := by have := of_decide_eq_true h; omega
    rw [i64_succ hlt hl, elemAt_strv l i hlt]
    refine gb_by (dt (by omega)) (gb_by rfl (brV_by (fun h => ?_) (fun h => ?_)))
    · have h7 : 700 < (l[i]).length := by
        have h : (700 : Int) < ((l[i]).length : Int) := of_decide_eq_true h
        omega
      have hb : textsB l = false := by
        rw [← Bool.not_eq_true, textsB_iff]
        rintro ⟨_, h'⟩
        have := h' _ (List.getElem_mem hlt)
        omega
      rw [hb]; exact Wk.refl _
    · have h7 : (l[i]).length ≤ 700 := by
        have h : ¬ (700 : Int) < ((l[i]).length : Int) := of_decide_eq_false h
        omega
      refine hL (i + 1) ⟨hlt, fun y hy => ?_⟩ (by omega)
      rw [List.take_succ_eq_append_getElem hlt] at hy
      rcases List.mem_append.1 hy with h1 | h1
      · exact hpre y h1
      · simp at h1; subst h1; exact h7
  · have hge : ¬ i < l.length := by have := of_decide_eq_false h; omega
    rw [List.take_of_length_le (by omega)] at hpre
    have hb : textsB l = true := textsB_iff.2 ⟨h30, hpre⟩
    rw [hb]
    exact leaveTo (toCut (Eq.mpr (lawTextsF_r _) (Wk.refl _)))
theorem lawTexts_ok : EntOk Try.prog lawTextsE := by
  intro xs σ; simp only [lawTextsE]; split
  · rename_i es s t
    intro hc
    simp only [Bool.and_eq_true, hold_eq] at hc
    obtain ⟨h1, h2, h3⟩ := hc
    exact pcall_of (.cons (wk_strv t h1 h2) (.refl _)) (lawTexts_c _ (by simpa using lenOk_of h3)) (by simp only [noOutL, AVal.noOut, strv_noOut, Bool.and_true]) (by simp only [noTokL, AVal.noTok, strv_noTok, Bool.and_true, Tag.below]) rfl rfl
  · trivial

theorem small_c (r : Root) (ls : List Lf) (h1 : r.1.length ≤ 140737488351232) (h2 : r.2.length ≤ 140737488351232) (h3 : ls.length ≤ 140737488351232) (h4 : ∀ x ∈ ls, x.2.1.length ≤ 140737488351232) :
    ACall Try.prog 17 [rootV r, .slice (lfv ls) 3 .ro] Sto.empty fun v _ => Wk v (.bool (hold (smallB r ls))) := by
  refine small_i r ls _ (.of [lawTextsE] rfl ⟨lawTexts_ok, trivial⟩) ?_
  have hn1 : (strv r.1).length = r.1.length := strv_length _
  have hn2 : (iv r.2).length = r.2.length := iv_length _
  have hn3 : (lfv ls).length = ls.length := lfv_length _
  simp only [hold_eq, map_strOf_strv]
  have no : ¬ (textsB r.1 = true ∧ r.2.length ≤ 40 ∧ ls.length ≤ 40 ∧ ∀ l ∈ ls, textsB l.2.1 = true) → Wk (.bool false) (.bool (smallB r ls)) := fun h => by
    have : smallB r ls = false := by rw [← Bool.not_eq_true, smallB_iff]; exact h
    rw [this]; exact Wk.refl _
  refine gb_by (and_tt (strv_is _) (lenOk_mk (by omega))) (brV_by' (fun h => ?_) (fun h => no ?_))
  case refine_2 =>
    have h : textsB r.1 = false := by
      have h : (!textsB r.1) = true := h
      simpa using h
    rw [h]; simp
  have t1 : textsB r.1 = true := by
    have h : (!textsB r.1) = false := h
    simpa using h
  refine brV_by' (fun h => ?_) (fun h => no ?_)
  case refine_2 =>
    have := of_decide_eq_true h
    omega
  have t2 : r.2.length ≤ 40 := by have := of_decide_eq_false h; omega
  refine brV_by (fun h => no ?_) (fun h => ?_)
  · have := of_decide_eq_true h
    omega
  have t3 : ls.length ≤ 40 := by have := of_decide_eq_false h; omega
  refine loopV_intro (α := Nat) (fun i => smallL_S r ls i) (fun i => i ≤ ls.length ∧ ∀ y ∈ ls.take i, textsB y.2.1 = true) (fun i => ls.length - i) ?_ 0 ⟨Nat.zero_le _, fun x hx => by simp at hx⟩
  rintro i ⟨hi, hpre⟩ L hL
  refine Eq.mpr (smallL_r r ls i L _) ?_
  simp only [hold_eq]
  refine brV_by (fun h => ?_) (fun h => ?_)
  · have hlt : i < ls.length := by have := of_decide_eq_true h; omega
    rw [i64_succ hlt h3, elemAt_lfv ls i hlt]
    have hx := h4 _ (List.getElem_mem hlt)
    refine gb_by (dt (by omega)) (gb_by rfl (gb_by (and_tt (strv_is _) (lenOk_mk (by rw [← strv_length] at hx; exact hx))) (brV_by (fun h => ?_) (fun h => ?_))))
    · have h : (!textsB (List.map AVal.strOf (strv (ls[i]).2.1))) = true := h
      rw [map_strOf_strv] at h
      have h7 : textsB (ls[i]).2.1 = false := by simpa using h
      exact no (fun hh => by
        have := hh.2.2.2 _ (List.getElem_mem hlt)
        rw [h7] at this; cases this)
    · have h : (!textsB (List.map AVal.strOf (strv (ls[i]).2.1))) = false := h
      rw [map_strOf_strv] at h
      have h7 : textsB (ls[i]).2.1 = true := by simpa using h
      refine hL (i + 1) ⟨hlt, fun y hy => ?_⟩ (by omega)
      rw [List.take_succ_eq_append_getElem hlt] at hy
      rcases List.mem_append.1 hy with h1 | h1
      · exact hpre y h1
      · simp at h1; subst h1; exact h7
  · have hge : ¬ i < ls.length := by have := of_decide_eq_false h; omega
    rw [List.take_of_length_le (by omega)] at hpre
    have hb : smallB r ls = true := smallB_iff.2 ⟨t1, t2, t3, hpre⟩
    rw [hb]
    exact leaveTo (toCut (Eq.mpr (smallF_r _) (Wk.refl _)))
theorem small_ok : EntOk Try.prog smallE := by
  intro xs σ; simp only [smallE]; split
  · rename_i v es s t
    intro hc
    simp only [Bool.and_eq_true] at hc
    obtain ⟨h1, h2, h3, h4, h5⟩ := hc
    obtain ⟨r1, r2, r3⟩ := rootG_spec h1
    refine pcall_of (.cons (wk_root r1) (.cons (wk_lfs t h2 h3) (.refl _))) (small_c _ _ r2 r3 (by simpa using lenOk_of h4) ?_) (by simp only [noOutL, AVal.noOut, root_noOut, lfv_noOut, Bool.and_true]) (by simp only [noTokL, AVal.noTok, root_noTok, lfv_noTok, Bool.and_true, Tag.below]) rfl rfl
    intro x hx
    obtain ⟨e, he, rfl⟩ := List.mem_map.1 hx
    exact (lfG_spec (List.all_eq_true.1 h5 e he)).2
  · trivial

theorem awake_c : ACall Try.prog 9 [] Sto.empty fun r _ => Wk r (.bool true) := by
  refine awake_i _ (.of [insertE, sameRootE, sameE] rfl ⟨insert_ok, sameRoot_ok, same_ok, trivial⟩) ?_
  intro y hy
  subst hy
  simp only [hold_eq, map_strOf_strv, map_intOf_iv, map_lfOf, beq_self_eq_true]
  refine gb_by ?_ (brV_by (fun _ => gb_by ?_ (brV_by (fun _ => gb_by ?_ (Wk.refl _)) (fun h => by cases h))) (fun h => by cases h))
  · simp [rootM, lfM, rootIs, lfIs, rootOf, lfOf, okW, strIs, isI64]
  · refine and_tt (rootG_mk (r := ([[100]], [1, 2])) (by decide) (by decide)) ?_
    simp [rootG, rootIs, rootOf, okW, strIs, isI64, lenOk]
  · refine and_tt (lfv_is _) (and_tt (lenOk_mk (by decide)) ?_)
    simp [lfv, lfG_mk]
theorem awake_ok : EntOk Try.prog awakeE := by
  intro xs σ; simp only [awakeE]; split
  · intro hc
    exact pcall_of (.refl _) awake_c rfl rfl rfl rfl
  · trivial
theorem fits_strv {b : Nat} {a : AVal} (h : Fits (.slice .str 1 b) a) : ∃ l : List Txt, a = .slice (strv l) 1 .ro ∧ l.length * b ≤ 140737488351232 := by
  obtain ⟨es, rfl, h1, h2⟩ := h
  obtain ⟨ls, rfl, hx⟩ := map_of (f := AVal.str) (P := fun s => s.length ≤ 140737488351232) fun e he => by
    obtain ⟨s, h3, h4⟩ := h2 e he
    exact ⟨s, h3, h4⟩
  exact ⟨ls, rfl, by simpa using h1⟩
theorem fits_root {a : AVal} (h : Fits (.agg [.slice .str 1 16, .slice (.int .i64) 1 8]) a) : ∃ r : Root, a = rootV r ∧ r.1.length ≤ 140737488351232 / 16 ∧ r.2.length ≤ 140737488351232 / 8 := by
  obtain ⟨cs, rfl, a1, t1, rfl, h1, a2, t2, rfl, h2, rfl⟩ := h
  obtain ⟨l1, rfl, b1⟩ := fits_strv h1
  obtain ⟨l2, rfl, b2, _⟩ := fits_iv h2
  exact ⟨(l1, l2), rfl, by show l1.length ≤ _; omega, by show l2.length ≤ _; omega⟩
theorem fits_lf {a : AVal} (h : Fits (.agg [.int .i64, .slice .str 1 16, .bool]) a) : ∃ l : Lf, a = lfV l ∧ l.2.1.length ≤ 140737488351232 / 16 := by
  obtain ⟨cs, rfl, a1, t1, rfl, h1, a2, t2, rfl, h2, a3, t3, rfl, h3, rfl⟩ := h
  obtain ⟨n, rfl, _, _⟩ := h1
  obtain ⟨l2, rfl, b2⟩ := fits_strv h2
  obtain ⟨b, rfl⟩ := h3
  exact ⟨(n, l2, b), rfl, by show l2.length ≤ _; omega⟩

end Go.Proofs.Ytlfnmhfmikomkaa
end

section
namespace Go.Proofs.Ytlfnmhfmikomkaa
open Go.AL Jt
set_option linter.unusedSimpArgs false
set_option linter.unusedVariables false
set_option maxHeartbeats 4000000
set_option maxRecDepth 20000

theorem lenB_of {n : Nat} (h : lenB n = true) : n ≤ 1000000 := by simpa [lenB] using h
theorem lenB_mk {n : Nat} (h : n ≤ 1000000) : lenB n = true := by simpa [lenB] using h
theorem tt2 {a b : Bool} (h1 : a = true) (h2 : b = true) : (a && b) = true := by rw [h1, h2]; rfl
theorem tall_ok : EntOk Try.prog tallE := by
  intro xs σ; simp only [tallE]; split
  · rename_i s
    intro _
    refine pcall_of (.refl _) (tall_i s _ (.of_none rfl) ?_) rfl rfl rfl rfl
    simp only [hold_eq, tallB]
    rw [show decide (600 < (s.length : Int)) = decide (600 < s.length) from decide_eq_decide.2 (by omega)]
    exact Wk.refl _
  · trivial
theorem idxP_at {p : Txt → Bool} {l : List Txt} {i : Nat} (h : i < l.length) (hp : ∀ y ∈ l.take i, p y = false) (hx : p l[i] = true) : idxP p l = (i : Int) := by
  have ha : l.any p = true := List.any_eq_true.2 ⟨_, List.getElem_mem h, hx⟩
  have hi : l.findIdx p = i := by
    rw [List.findIdx_eq h]
    exact ⟨hx, fun j hj => hp l[j] (List.mem_take_iff_getElem.2 ⟨j, by omega, rfl⟩)⟩
  unfold idxP
  rw [if_pos ha, hi]
theorem indexT_c (l : List Txt) (hl : l.length ≤ 1000000) : ACall Try.prog 72 [.slice (strv l) 1 .ro, .func (.func 57) [] []] Sto.empty fun r _ => Wk r (.int .i64 (idxP tallB l)) := by
  refine indexT_i l _ (.of [tallE] rfl ⟨tall_ok, trivial⟩) ?_
  have hn : (strv l).length = l.length := strv_length l
  rw [hn]
  refine loopV_intro (α := Nat) (fun i => indexTL_S l l.length i) (fun i => i ≤ l.length ∧ ∀ y ∈ l.take i, tallB y = false) (fun i => l.length - i) ?_ 0 ⟨Nat.zero_le _, fun x hx => by simp at hx⟩
  rintro i ⟨hi, hpre⟩ L hL
  refine Eq.mpr (indexTL_r l l.length i L _) ?_
  simp only [hold_eq]
  refine brV_by (fun h => ?_) (fun h => ?_)
  · have hlt : i < l.length := by have := of_decide_eq_true h; omega
    rw [i64_succ hlt (by omega), elemAt_strv l i hlt]
    refine gb_by (dt (by omega)) (gb_by rfl (brV_by (fun h => ?_) (fun h => ?_)))
    · show Wk (.int .i64 (i : Int)) _
      rw [idxP_at hlt hpre h]
      exact Wk.refl _
    · refine hL (i + 1) ⟨hlt, fun y hy => ?_⟩ (by omega)
      rw [List.take_succ_eq_append_getElem hlt] at hy
      rcases List.mem_append.1 hy with h1 | h1
      · exact hpre y h1
      · rw [List.mem_singleton] at h1; rw [h1]; exact h
  · have hge : ¬ i < l.length := by have := of_decide_eq_false h; omega
    rw [List.take_of_length_le (by omega)] at hpre
    have ha : l.any tallB = false := by
      rw [List.any_eq_false]
      exact fun y hy => by rw [hpre y hy]; simp
    show Wk (.int .i64 (-1 : Int)) _
    unfold idxP
    rw [if_neg (by rw [ha]; simp)]
    exact Wk.refl _
theorem indexT_ok : EntOk Try.prog indexTE := by
  intro xs σ; simp only [indexTE]; split
  · rename_i es s t g
    intro hc
    simp only [Bool.and_eq_true] at hc
    obtain ⟨hg, h1, h2, h3⟩ := hc
    have hg : g = 57 := Nat.eq_of_beq_eq_true hg
    subst hg
    exact pcall_of (.cons (wk_strv t h1 h2) (.refl _)) (indexT_c _ (by simpa using lenB_of h3)) (by simp only [noOutL, AVal.noOut, strv_noOut, Bool.and_true, Bool.and_self]) (by simp only [noTokL, AVal.noTok, strv_noTok, Bool.and_true, Tag.below, Bool.and_self]) rfl rfl
  · trivial
theorem idxP_nonneg (p : Txt → Bool) (l : List Txt) : decide (0 ≤ idxP p l) = l.any p := by
  unfold idxP
  by_cases h : l.any p = true
  · rw [if_pos h, h]; simp
  · rw [if_neg h]
    rw [Bool.not_eq_true] at h
    rw [h]; rfl
theorem containsT_c (l : List Txt) (hl : l.length ≤ 1000000) : ACall Try.prog 55 [.slice (strv l) 1 .ro, .func (.func 57) [] []] Sto.empty fun r _ => Wk r (.bool (l.any tallB)) := by
  refine containsT_i l _ (.of [indexTE] rfl ⟨indexT_ok, trivial⟩) ?_
  intro y hy
  have hn : (strv l).length = l.length := strv_length l
  refine gb_by (tt2 (strv_is l) (lenB_mk (by omega))) ?_
  rw [hold_eq, hy, map_strOf_strv, idxP_nonneg]
  exact Wk.refl _
theorem containsT_ok : EntOk Try.prog containsTE := by
  intro xs σ; simp only [containsTE]; split
  · rename_i es s t g
    intro hc
    simp only [Bool.and_eq_true] at hc
    obtain ⟨hg, h1, h2, h3⟩ := hc
    have hg : g = 57 := Nat.eq_of_beq_eq_true hg
    subst hg
    rw [hold_eq]
    exact pcall_of (.cons (wk_strv t h1 h2) (.refl _)) (containsT_c _ (by simpa using lenB_of h3)) (by simp only [noOutL, AVal.noOut, strv_noOut, Bool.and_true, Bool.and_self]) (by simp only [noTokL, AVal.noTok, strv_noTok, Bool.and_true, Tag.below, Bool.and_self]) rfl rfl
  · trivial
/-! ### Two bytes -/
theorem u8_wrap (n : Int) : IntKind.u8.wrap n = n % 256 := by
  simp only [IntKind.wrap]
  first | rfl | (simp [IntKind.signed, IntKind.bits]) | omega
theorem u8_lit (n : Int) : AVal.int .u8 (IntKind.u8.wrap n) = ofByte (UInt8.ofNat (n % 256).toNat) := by
  rw [u8_wrap]
  unfold ofByte
  have h0 : 0 ≤ n % 256 := Int.emod_nonneg _ (by decide)
  have h1 : n % 256 < 256 := Int.emod_lt_of_pos _ (by decide)
  have : ((UInt8.ofNat (n % 256).toNat).toNat : Int) = n % 256 := by
    rw [UInt8.toNat_ofNat']
    omega
  rw [this]
theorem two_bw (n : Int) : [AVal.int .u8 (IntKind.u8.wrap (Int.fdiv n 256)), .int .u8 (IntKind.u8.wrap n)] = bw (twoB n) := by
  rw [u8_lit, u8_lit, Int.fdiv_eq_ediv_of_nonneg _ (show (0 : Int) ≤ 256 by decide)]
  rfl
theorem wk_nil0 (s : Nat) : Wk (.slice [] s .nil) (.slice [] 0 .nil) := fun γ w l v hr => by
  cases hr with
  | sliceRow _ _ _ _ _ _ ht => exact ht.elim
  | sliceNil ht ho => exact .sliceNil ht ho
theorem two_ok : EntOk Try.prog twoE := by
  intro xs σ; simp only [twoE]; split
  · rename_i es s t n
    split
    · rename_i p
      intro hc
      simp only [Bool.and_eq_true, hold_eq, decide_eq_true_eq] at hc
      obtain ⟨h1, h2, h3⟩ := hc
      have h3 := lenB_of h3
      obtain rfl : s = 1 := Nat.eq_of_beq_eq_true h1
      refine twoO_i σ es p n _ (.of_none rfl) (gb_by (by rw [h2]; simp; omega) ⟨?_, rfl⟩)
      rw [two_bw]
    · split
      · intro _
        refine ACall.args (args := [.slice [] 0 .nil, .int .i64 n]) (twoN_i σ n _ (.of_none rfl) ⟨?_, rfl⟩) (.cons (wk_nil0 s) (.refl _))
        rw [two_bw]
      · trivial
    · trivial
  · trivial
theorem encT_take (l : List Txt) (i : Nat) (h : i < l.length) : encT (l.take (i + 1)) = encT (l.take i) ++ (twoB (l[i].length : Int) ++ l[i]) := by
  unfold encT
  rw [List.take_succ_eq_append_getElem h, List.flatMap_append]
  simp
theorem encT_mono (l : List Txt) (i : Nat) : (encT (l.take i)).length ≤ (encT l).length := by
  have : encT l = encT (l.take i) ++ encT (l.drop i) := by
    conv => lhs; rw [← List.take_append_drop i l]
    unfold encT
    rw [List.flatMap_append]
  rw [this, List.length_append]; omega
theorem twoB_len (n : Int) : (twoB n).length = 2 := rfl
theorem own_push (σ : Sto) (n : Nat) : (σ.pushOwn n).own σ.nown = some n := by simp [Sto.pushOwn]
theorem set_pushOwn (σ : Sto) (n m : Nat) : (σ.pushOwn n).setOwn σ.nown m = σ.pushOwn m := by
  simp only [Sto.setOwn, Sto.pushOwn]
  congr 1
  funext q
  by_cases h : q = σ.nown <;> simp [h]
theorem own_setOwn (σ : Sto) (p n : Nat) : (σ.setOwn p n).own p = some n := by simp [Sto.setOwn]
/-- The loop of texts. -/
theorem texts_loop (l : List Txt) (o : Txt) (p : Nat) (τ : Nat → Sto) (hl : l.length ≤ 1000000) (hb : o.length + (encT l).length ≤ 1000000) (hown : ∀ m, (τ m).own p = some m) (hset : ∀ m m', (τ m).setOwn p m' = τ m') (K : Exit → St → Prop)
    (hK : vc Try.prog Jt.cTexts textsTF_C K (textsTF_S (o ++ encT l) p (τ (o.length + (encT l).length)))) :
    loopV (fun s => St.norm [(0, 1)] [0, 7, 8, 9] [] s) (vc Try.prog Jt.cTexts textsTL_C) (blockK 0 (thenK (fun s => cutV (vc Try.prog Jt.cTexts textsTF_C K) (St.norm [(0, 1)] [0] [] s)) K)) (textsTL_S o l p l.length 0 (τ o.length)) := by
  have h0 : textsTL_S o l p l.length 0 (τ o.length) = textsTL_S (o ++ encT (l.take 0)) l p l.length 0 (τ (o ++ encT (l.take 0)).length) := by simp [encT]
  rw [h0]
  refine loopV_intro (α := Nat) (fun i => textsTL_S (o ++ encT (l.take i)) l p l.length i (τ (o ++ encT (l.take i)).length)) (fun i => i ≤ l.length) (fun i => l.length - i) ?_ 0 (Nat.zero_le _)
  intro i hi L hL
  refine Eq.mpr (textsTL_r (o ++ encT (l.take i)) l p l.length i _ L _) ?_
  have hn : (strv l).length = l.length := strv_length l
  simp only [hold_eq]
  refine brV_by (fun h => ?_) (fun h => ?_)
  · have hlt : i < l.length := by have := of_decide_eq_true h; omega
    have hm := encT_mono l (i + 1)
    have e2 : AVal.strOf (List.getD [AVal.str l[i]] 0 .undef) = l[i] := rfl
    have e3 : (o ++ encT (l.take (i + 1))) = (o ++ encT (l.take i)) ++ twoB (l[i].length : Int) ++ l[i] := by rw [encT_take l i hlt]; simp only [List.append_assoc]
    have e4 : (o ++ encT (l.take (i + 1))).length = (o ++ encT (l.take i)).length + 2 + l[i].length := by rw [e3, List.length_append, List.length_append, twoB_len]
    have e5 : (o ++ encT (l.take (i + 1))).length ≤ 1000000 := by rw [List.length_append]; omega
    have hbl : (bw (o ++ encT (l.take i))).length = (o ++ encT (l.take i)).length := bw_length _
    have hb2 : (bw (o ++ encT (l.take i)) ++ bw (twoB (l[i].length : Int))).length = (o ++ encT (l.take i)).length + 2 := by rw [List.length_append, hbl, bw_length, twoB_len]
    have hb3 : (l[i].map ofByte).length = l[i].length := List.length_map _
    rw [i64_succ hlt (by omega), elemAt_strv l i hlt, e2]
    refine gb_by (dt (by omega)) (gb_by rfl (gb_by (tt2 (dt (by rw [hown, hbl])) (lenB_mk (by rw [hbl]; omega))) (gb_by ?_ ?_)))
    · rw [own_setOwn, hbl, hb2, hb3]
      simp only [true_and, and_true, decide_eq_true_eq]
      omega
    · rw [hb2, hb3, setOwn_setOwn, hset, ← e4]
      have e6 : bw (o ++ encT (l.take i)) ++ bw (twoB (l[i].length : Int)) ++ l[i].map ofByte = bw (o ++ encT (l.take (i + 1))) := by rw [e3]; simp only [bw_append, List.append_assoc]; rfl
      rw [e6]
      exact hL (i + 1) hlt (by omega)
  · have hi' : i = l.length := by have := of_decide_eq_false h; omega
    subst hi'
    rw [List.take_length]
    refine leaveTo (toCut ?_)
    rw [List.length_append]
    exact hK
theorem textsT_ok : EntOk Try.prog textsTE := by
  intro xs σ; simp only [textsTE]; split
  · rename_i es s t fs s' t'
    split
    · rename_i p
      intro hc
      simp only [Bool.and_eq_true, hold_eq, decide_eq_true_eq] at hc
      obtain ⟨h1, h2, h3, h4, h5, h6, h7⟩ := hc
      obtain rfl : s = 1 := Nat.eq_of_beq_eq_true h1
      have h4 := lenB_of h4
      have h7 := lenB_of h7
      obtain ⟨o, rfl⟩ : ∃ o, es = bw o := ⟨_, bw_of h3⟩
      have hbo : (bw o).length = o.length := bw_length o
      rw [hbo] at h2 h4
      refine ACall.args (args := [.slice (bw o) 1 (.own p), .slice (strv (fs.map AVal.strOf)) 1 .ro]) ?_ (.cons (.refl _) (.cons (wk_strv t' h5 h6) (.refl _)))
      have hll : (fs.map AVal.strOf).length = fs.length := List.length_map _
      generalize fs.map AVal.strOf = l at *
      refine textsTO_i σ o l p _ (.of [twoE] rfl ⟨two_ok, trivial⟩) ?_
      have hn : (strv l).length = l.length := strv_length l
      rw [hn]
      have hσ : σ = σ.setOwn p o.length := (setOwn_same h2).symm
      have := texts_loop l o p (fun m => σ.setOwn p m) (by omega) h4 (fun m => own_setOwn _ _ _) (fun m m' => setOwn_setOwn _ _ _ _) (endK Try.prog Try.f58.results.toList fun r τ => r = .slice (bw o ++ bw (encT l)) 1 (.own p) ∧ τ = σ.setOwn p ((bw o).length + (encT l).length)) (Eq.mpr (textsTF_r (o ++ encT l) p _ _) ⟨by rw [bw_append], by rw [hbo]⟩)
      rw [← hσ] at this
      exact this
    · split
      · intro hc
        simp only [Bool.and_eq_true] at hc
        obtain ⟨h4, h5, h6, h7⟩ := hc
        have h4 := lenB_of h4
        have h7 := lenB_of h7
        refine ACall.args (args := [.slice [] 0 .nil, .slice (strv (fs.map AVal.strOf)) 1 .ro]) ?_ (.cons (wk_nil0 s) (.cons (wk_strv t' h5 h6) (.refl _)))
        have hll : (fs.map AVal.strOf).length = fs.length := List.length_map _
        generalize fs.map AVal.strOf = l at *
        refine textsTN_i σ l _ (.of [twoE] rfl ⟨two_ok, trivial⟩) ?_
        have hn : (strv l).length = l.length := strv_length l
        rw [hn]
        exact texts_loop l [] σ.nown (fun m => σ.pushOwn m) (by omega) (by simpa using h4) (fun m => own_push _ _) (fun m m' => set_pushOwn _ _ _) (endK Try.prog Try.f58.results.toList fun r τ => r = .slice (bw (encT l)) 1 (.own σ.nown) ∧ τ = σ.pushOwn (encT l).length) (Eq.mpr (textsTF_r ([] ++ encT l) σ.nown _ _) ⟨rfl, by simp⟩)
      · trivial
    · trivial
  · trivial
theorem number_c (s : Txt) (hl : s.length ≤ 1000000) : ACall Try.prog 62 [.str s] Sto.empty fun r _ => Wk r (.tuple [.int .i64 (numN s).1, .str (numN s).2.1, .bool (numN s).2.2]) := by
  refine number_i s _ (.of_none rfl) ?_
  simp only [hold_eq]
  match s, hl with
  | [], _ => exact brV_by (fun _ => Wk.refl _) (fun h => by simp at h)
  | [a], _ => exact brV_by (fun _ => Wk.refl _) (fun h => by simp at h)
  | a :: b :: r, hl =>
    have hl : r.length ≤ 1000000 := by simp only [List.length_cons] at hl; omega
    have hc : ((a :: b :: r).length : Int) = (r.length : Int) + 2 := by simp only [List.length_cons]; omega
    refine brV_by (fun h => by have := of_decide_eq_true h; omega) (fun _ => ?_)
    refine gb_by (dt (by omega)) (gb_by (dt (by omega)) (gb_by (dt (by omega)) ?_))
    have e1 : List.take (((a :: b :: r).length : Int).toNat - 2) (List.drop 2 (a :: b :: r)) = r := by
      rw [hc]; exact List.take_of_length_le (by simp only [List.drop_succ_cons, List.drop_zero]; omega)
    have ha := u8_lt a
    have hb := u8_lt b
    have e2 : Go.bits Go.BinOp.or IntKind.i64 (IntKind.i64.wrap (IntKind.i64.wrap (((a :: b :: r).getD 0 0).toNat : Int) * 256)) (IntKind.i64.wrap (((a :: b :: r).getD 1 0).toNat : Int)) = (a.toNat : Int) * 256 + (b.toNat : Int) := by
      show Go.bits Go.BinOp.or IntKind.i64 (IntKind.i64.wrap (IntKind.i64.wrap (a.toNat : Int) * 256)) (IntKind.i64.wrap (b.toNat : Int)) = _
      rw [wrap_i64 (n := (a.toNat : Int)) (by omega) (by omega), wrap_i64 (by omega) (by omega), wrap_i64 (by omega) (by omega)]
      have o : (a.toNat * 256) ||| b.toNat = a.toNat * 256 + b.toNat := by
        have := Nat.shiftLeft_add_eq_or_of_lt (i := 8) (b := b.toNat) (by omega) a.toNat
        rw [Nat.shiftLeft_eq] at this
        exact this.symm
      have ec : (a.toNat : Int) * 256 = ((a.toNat * 256 : Nat) : Int) := by omega
      rw [ec]
      have e3 : (BitVec.ofInt 64 ((a.toNat * 256 : Nat) : Int) ||| BitVec.ofInt 64 (b.toNat : Int)).toNat = a.toNat * 256 + b.toNat := by
        rw [BitVec.toNat_or, BitVec.toNat_ofInt, BitVec.toNat_ofInt, ← o]
        congr 1 <;> omega
      show IntKind.i64.wrap (((BitVec.ofInt 64 ((a.toNat * 256 : Nat) : Int) ||| BitVec.ofInt 64 (b.toNat : Int)).toNat : Nat) : Int) = _
      rw [e3, wrap_i64 (by omega) (by omega)]
      omega
    rw [e1, e2]
    exact Wk.refl _
theorem number_ok : EntOk Try.prog numberE := by
  intro xs σ; simp only [numberE]; split
  · rename_i s
    intro hc
    exact pcall_of (.refl _) (number_c s (lenB_of hc)) rfl rfl rfl rfl
  · trivial
theorem sClone_ok : EntOk Try.prog sCloneE := by
  intro xs σ; simp only [sCloneE]; split
  · rename_i s
    intro hc
    have hl := lenB_of hc
    refine PCall.ofBelow fun γ w vs hr => ?_
    obtain ⟨u, rfl, h1⟩ := repL1 hr
    obtain rfl := repStr h1
    refine (Go.Proofs.Try.stringslite_Clone ⟨s.toArray⟩ w (by show s.length ≤ _; omega)).mono ?_
    rintro e w' ⟨rfl, hB⟩
    exact ⟨_, rfl, .str _ _, hB⟩
  · trivial
theorem strClone_ok : EntOk Try.prog strCloneE := by
  intro xs σ; simp only [strCloneE]; split
  · rename_i s
    intro hc
    refine pcall_of (.refl _) (strClone_i s _ (.of [sCloneE] rfl ⟨sClone_ok, trivial⟩) ?_) rfl rfl rfl rfl
    exact gb_by hc (Wk.refl _)
  · trivial
theorem text_c (s : Txt) (hl : s.length ≤ 1000000) : ACall Try.prog 63 [.str s] Sto.empty fun r _ => Wk r (.tuple [.str (textN s).1, .str (textN s).2.1, .bool (textN s).2.2]) := by
  refine text_i s _ (.of [numberE, strCloneE] rfl ⟨number_ok, strClone_ok, trivial⟩) ?_
  intro y hy
  refine gb_by (lenB_mk hl) ?_
  simp only [hold_eq]
  have hn : 0 ≤ y.1 ∧ y.2.1.length ≤ s.length := by
    rw [hy]
    unfold numN
    split
    · simp only [List.length_cons]; omega
    · exact ⟨Int.le_refl _, Nat.le_refl _⟩
  unfold textN
  rw [← hy]
  refine brV_by' (fun h => ?_) (fun h => ?_)
  · have h : y.2.2 = true := by simpa using h
    rw [if_pos h]
    refine brV_by (fun h2 => ?_) (fun h2 => ?_)
    · rw [if_pos (by have := of_decide_eq_true h2; omega)]
      exact Wk.refl _
    · have h3 : y.1.toNat ≤ y.2.1.length := by have := of_decide_eq_false h2; omega
      rw [if_neg (by omega)]
      refine gb_by (dt (by omega)) (gb_by (lenB_mk ?_) (gb_by (dt (by omega)) ?_))
      · rw [List.length_take, List.drop_zero]; omega
      · rw [List.drop_zero, Nat.sub_zero, List.take_of_length_le (l := y.2.1.drop y.1.toNat) (by rw [List.length_drop]; omega)]
        exact Wk.refl _
  · have h : y.2.2 = false := by simpa using h
    rw [if_neg (by rw [h]; simp)]
    exact Wk.refl _
theorem text_ok : EntOk Try.prog textE := by
  intro xs σ; simp only [textE]; split
  · rename_i s
    intro hc
    exact pcall_of (.refl _) (text_c s (lenB_of hc)) rfl rfl rfl rfl
  · trivial
theorem twoR_c (n : Int) (h0 : 0 ≤ n) : ACall Try.prog 61 [.int .i64 n] Sto.empty fun r _ => Wk r (.str (twoB n)) := by
  refine twoR_i n _ (.of_none rfl) ?_
  have a1 : 0 ≤ n / 256 := Int.ediv_nonneg h0 (by omega)
  have a2 : n / 256 ≤ n := Int.ediv_le_self _ h0
  have e : [AVal.int .u8 (IntKind.u8.wrap (IntKind.i64.wrap (Int.tdiv n 256))), .int .u8 (IntKind.u8.wrap (Int.tmod n 256))].map AL.byteOf = twoB n := by
    rw [Int.tdiv_eq_ediv_of_nonneg h0, Int.tmod_eq_emod_of_nonneg h0]
    have e1 : IntKind.u8.wrap (IntKind.i64.wrap (n / 256)) = IntKind.u8.wrap (n / 256) := by
      rw [u8_wrap, u8_wrap]
      simp only [IntKind.wrap]
      first | omega | (simp [IntKind.signed, IntKind.bits]; omega)
    have e2 : IntKind.u8.wrap (n % 256) = IntKind.u8.wrap n := by rw [u8_wrap, u8_wrap]; omega
    rw [e1, e2, u8_lit, u8_lit]
    show [AL.byteOf (ofByte _), AL.byteOf (ofByte _)] = _
    rw [byteOf_ofByte, byteOf_ofByte]; rfl
  rw [e]
  exact Wk.refl _
theorem twoR_ok : EntOk Try.prog twoRE := by
  intro xs σ; simp only [twoRE]; split
  · rename_i n
    intro hc
    exact pcall_of (.refl _) (twoR_c n (by simpa using hc)) rfl rfl rfl rfl
  · trivial
theorem lay_c (l : List Txt) (hl : l.length ≤ 1000000) (hb : (encT l).length ≤ 1000000) : ACall Try.prog 60 [.slice (strv l) 1 .ro] Sto.empty fun r _ => Wk r (.tuple [.str (if l.any tallB then [] else encT l), .bool (!l.any tallB)]) := by
  refine lay_i l _ (.of [twoRE] rfl ⟨twoR_ok, trivial⟩) ?_
  have hn : (strv l).length = l.length := strv_length l
  refine loopV_intro (α := Nat) (fun i => layL_S l (encT (l.take i)) i) (fun i => i ≤ l.length ∧ ∀ y ∈ l.take i, tallB y = false) (fun i => l.length - i) ?_ 0 ⟨Nat.zero_le _, fun x hx => by simp at hx⟩
  rintro i ⟨hi, hpre⟩ L hL
  refine Eq.mpr (layL_r l (encT (l.take i)) i L _) ?_
  simp only [hold_eq]
  refine brV_by (fun h => ?_) (fun h => ?_)
  · have hlt : i < l.length := by have := of_decide_eq_true h; omega
    have hm := encT_mono l (i + 1)
    have e2 : AVal.strOf (List.getD [AVal.str l[i]] 0 .undef) = l[i] := rfl
    have e4 : (encT (l.take (i + 1))).length = (encT (l.take i)).length + 2 + l[i].length := by rw [encT_take l i hlt, List.length_append, List.length_append, twoB_len]; omega
    rw [i64_succ hlt (by omega), elemAt_strv l i hlt, e2]
    refine gb_by (dt (by omega)) (gb_by rfl (brV_by (fun h6 => ?_) (fun h6 => ?_)))
    · have hx : tallB l[i] = true := dt (by have := of_decide_eq_true h6; omega)
      have ha : l.any tallB = true := List.any_eq_true.2 ⟨_, List.getElem_mem hlt, hx⟩
      rw [if_pos ha, ha]
      exact Wk.refl _
    · have hx : tallB l[i] = false := by unfold tallB; rw [decide_eq_false_iff_not]; have := of_decide_eq_false h6; omega
      refine gb_by (dt (by omega)) (gb_by rfl (gb_by (dt (by omega)) (gb_by (dt (by omega)) (gb_by (dt (by omega)) (gb_by rfl (gb_by (dt (by rw [List.length_append, twoB_len]; omega)) ?_))))))
      rw [List.append_assoc, ← encT_take l i hlt]
      refine hL (i + 1) ⟨hlt, fun y hy => ?_⟩ (by omega)
      rw [List.take_succ_eq_append_getElem hlt] at hy
      rcases List.mem_append.1 hy with h1 | h1
      · exact hpre y h1
      · rw [List.mem_singleton] at h1; rw [h1]; exact hx
  · have hi' : i = l.length := by have := of_decide_eq_false h; omega
    subst hi'
    rw [List.take_length] at hpre ⊢
    have ha : l.any tallB = false := by
      rw [List.any_eq_false]
      exact fun y hy => by rw [hpre y hy]; simp
    refine leaveTo (toCut (Eq.mpr (layF_r (encT l) _) ?_))
    rw [ha]
    exact Wk.refl _
theorem lay_ok : EntOk Try.prog layE := by
  intro xs σ; simp only [layE]; split
  · rename_i es s t
    intro hc
    simp only [Bool.and_eq_true] at hc
    obtain ⟨h1, h2, h3, h4⟩ := hc
    exact pcall_of (.cons (wk_strv t h1 h2) (.refl _)) (lay_c _ (by simpa using lenB_of h3) (lenB_of h4)) (by simp only [noOutL, AVal.noOut, strv_noOut, Bool.and_true, Bool.and_self]) (by simp only [noTokL, AVal.noTok, strv_noTok, Bool.and_true, Tag.below, Bool.and_self]) rfl rfl
  · trivial
end Go.Proofs.Ytlfnmhfmikomkaa
end

section
namespace Go.Proofs.Ytlfnmhfmikomkaa
open Go.AL Ju
set_option linter.unusedSimpArgs false
set_option linter.unusedVariables false
set_option maxHeartbeats 1000000
set_option maxRecDepth 20000

theorem tk_snoc {α : Type} (l : List α) (i : Nat) (h : i < l.length) : l.take (i + 1) = l.take i ++ [l[i]] := List.take_succ_eq_append_getElem h
theorem maxN_snoc (l : List Int) (x : Int) (h : l ≠ []) : maxN (l ++ [x]) = max (maxN l) x := by
  unfold maxN
  rw [List.foldl_append]
  cases l with
  | nil => exact (h rfl).elim
  | cons y r => rfl
theorem maxN_le (l : List Int) (b : Int) (h : l ≠ []) : maxN l ≤ b ↔ ∀ x ∈ l, x ≤ b := by
  have : ∀ (l : List Int) (a : Int), l.foldl max a ≤ b ↔ a ≤ b ∧ ∀ x ∈ l, x ≤ b := by
    intro l
    induction l with
    | nil => intro a; simp
    | cons y r ih => intro a; rw [List.foldl_cons, ih]; simp only [List.mem_cons, forall_eq_or_imp, Int.max_le, and_assoc]
  cases l with
  | nil => exact (h rfl).elim
  | cons y r =>
    unfold maxN
    rw [this]
    simp only [List.headD_cons, List.mem_cons, forall_eq_or_imp]
    exact ⟨fun h => h.2, fun h => ⟨h.1, h⟩⟩
theorem max_c (l : List Int) (h0 : 0 < l.length) (hl : l.length ≤ 1000000) : ACall Try.prog 56 [.slice (iv l) 1 .ro] Sto.empty fun r _ => Wk r (.int .i64 (maxN l)) := by
  refine max_i l _ (.of_none rfl) ?_
  have hn : (iv l).length = l.length := iv_length l
  simp only [hold_eq]
  refine brV_by (fun h => by have := of_decide_eq_true h; omega) (fun _ => ?_)
  have e0 : elemAt (iv l) 0 = [.int .i64 l[0]] := elemAt_iv l 0 h0
  rw [e0]
  refine gb_by (dt (by omega)) (gb_by rfl ?_)
  have e1 : AVal.intOf (List.getD [AVal.int .i64 l[0]] 0 .undef) = maxN (l.take 1) := by
    cases l with
    | nil => simp at h0
    | cons y r => show y = maxN [y]; simp [maxN]
  rw [e1]
  show loopV _ _ _ (maxL_S l (maxN (l.take 1)) 1)
  refine loopV_intro (α := Nat) (fun i => maxL_S l (maxN (l.take i)) i) (fun i => 1 ≤ i ∧ i ≤ l.length) (fun i => l.length - i) ?_ 1 ⟨Nat.le_refl _, h0⟩
  rintro i ⟨h1, hi⟩ L hL
  refine Eq.mpr (maxL_r l (maxN (l.take i)) i L _) ?_
  simp only [hold_eq]
  refine brV_by (fun h => ?_) (fun h => ?_)
  · have hlt : i < l.length := by have := of_decide_eq_true h; omega
    rw [i64_succ hlt (by omega), elemAt_iv l i hlt]
    refine gb_by (dt (by omega)) (gb_by rfl ?_)
    have e2 : (if maxN (l.take i) < AVal.intOf (List.getD [AVal.int .i64 l[i]] 0 .undef) then AVal.intOf (List.getD [AVal.int .i64 l[i]] 0 .undef) else maxN (l.take i)) = maxN (l.take (i + 1)) := by
      have hne : l.take i ≠ [] := fun e => by
        have h' : (l.take i).length = i := by rw [List.length_take]; omega
        rw [e] at h'
        simp at h'
        omega
      rw [tk_snoc l i hlt, maxN_snoc _ _ hne]
      show (if maxN (l.take i) < l[i] then l[i] else maxN (l.take i)) = _
      split <;> omega
    rw [e2]
    exact hL (i + 1) ⟨by omega, hlt⟩ (by omega)
  · have hi' : i = l.length := by have := of_decide_eq_false h; omega
    subst hi'
    rw [List.take_length]
    exact leaveTo (toCut (Eq.mpr (maxF_r (maxN l) _) (Wk.refl _)))
theorem max_ok : EntOk Try.prog maxE := by
  intro xs σ; simp only [maxE]; split
  · rename_i es s t
    intro hc
    simp only [Bool.and_eq_true, hold_eq, decide_eq_true_eq] at hc
    obtain ⟨h1, h2, h3, h4⟩ := hc
    have hl : (es.map AVal.intOf).length = es.length := List.length_map _
    exact pcall_of (.cons (wk_iv t h1 h2) (.refl _)) (max_c _ (by omega) (by omega)) (by simp only [noOutL, AVal.noOut, iv_noOut, Bool.and_true, Bool.and_self]) (by simp only [noTokL, AVal.noTok, iv_noTok, Bool.and_true, Tag.below, Bool.and_self]) rfl rfl
  · trivial
theorem encN_take (l : List Int) (i : Nat) (h : i < l.length) : encN (l.take (i + 1)) = encN (l.take i) ++ twoB l[i] := by
  unfold encN
  rw [List.take_succ_eq_append_getElem h, List.flatMap_append]
  simp
theorem encN_len : ∀ l : List Int, (encN l).length = 2 * l.length
  | [] => rfl
  | x :: r => by
    have := encN_len r
    show (twoB x ++ encN r).length = _
    rw [List.length_append, this, List.length_cons, twoB_len]
    omega
theorem twoB_bi (n : Int) : (bw (twoB n)).all byteIs = true := bw_byteIs _
theorem rootM2_of {v : AVal} (h : rootM2 v = true) : rootG v = true ∧ (rootOf v).1.length ≤ 800000 ∧ (rootOf v).2.length ≤ 1000000 ∧ (encT (rootOf v).1).length ≤ 800000 := by
  simp only [rootM2, Bool.and_eq_true] at h
  have := lenB_of h.2.1
  have := lenB_of h.2.2.2
  exact ⟨h.1, by omega, lenB_of h.2.2.1, by omega⟩
theorem lfM2_of {v : AVal} (h : lfM2 v = true) : lfG v = true ∧ (lfOf v).2.1.length ≤ 1000000 ∧ (encT (lfOf v).2.1).length ≤ 1000000 := by
  simp only [lfM2, Bool.and_eq_true] at h
  exact ⟨h.1, lenB_of h.2.1, lenB_of h.2.2⟩
theorem rootG_is {v : AVal} (h : rootG v = true) : rootIs v = true := by simp only [rootG, Bool.and_eq_true] at h; exact h.1
theorem lfG_is {v : AVal} (h : lfG v = true) : lfIs v = true := by simp only [lfG, Bool.and_eq_true] at h; exact h.1
theorem rootB_c (r : Root) (h1 : r.1.length ≤ 800000) (h2 : r.2.length ≤ 1000000) (h3 : (encT r.1).length ≤ 800000) : ACall Try.prog 28 [rootV r] Sto.empty fun v _ => Wk v (.tuple [.str (rootN r).1, .int .i64 (rootN r).2]) := by
  refine rootBt_i r _ (.of [rootE, maxE, containsTE, twoE, textsTE] rfl ⟨root_ok, max_ok, containsT_ok, two_ok, textsT_ok, trivial⟩) ?_
  have hs : (strv r.1).length = r.1.length := strv_length _
  have hi : (iv r.2).length = r.2.length := iv_length _
  have hbad : rootOk r = false → Wk (.tuple [.str [], .int .i64 2]) (.tuple [.str (rootN r).1, .int .i64 (rootN r).2]) := fun hb => by
    unfold rootN
    rw [hb]
    exact Wk.refl _
  have hG : rootG (.agg [.slice (strv r.1) 1 .ro, .slice (iv r.2) 1 .ro]) = true := rootG_mk (r := r) (by omega) (by omega)
  refine gb_by hG ?_
  rw [map_strOf_strv, map_intOf_iv]
  simp only [hold_eq]
  refine brV_by' (fun hr => ?_) (fun hr => ?_)
  · have hr : rootB r = true := by simpa using hr
    have hsp := rootB_spec hr
    have hne : r.2 ≠ [] := fun e => by have := hsp.1; rw [e] at this; simp at this
    refine brV_by' (fun h65 => ?_) (fun h65 => ?_)
    · have h65 : r.2.length ≤ 65535 := by have := of_decide_eq_false h65; omega
      intro y hy
      refine gb_by (tt2 (iv_isI64 _) (dt (by have := hsp.1; omega))) (brV_by' (fun hm => ?_) (fun hm => ?_))
      · have hm : ∀ x ∈ r.2, x ≤ 65535 := (maxN_le r.2 65535 hne).1 (by rw [← hy]; have := of_decide_eq_false hm; omega)
        refine gb_by (tt2 (strv_is _) (lenB_mk (by omega))) (brV_by (fun ht => ?_) (fun ht => ?_))
        · refine hbad ?_
          unfold rootOk
          rw [ht]; simp
        · intro z hz
          refine gb_by ?_ ?_
          · rw [hz]
            exact tt2 rfl (tt2 (bw_byteIs _) (tt2 (lenB_mk (by omega)) (tt2 (strv_is _) (lenB_mk (by omega)))))
          rw [setOwn_e1, hs, hi, hz]
          have hok : rootOk r = true := by
            unfold rootOk
            rw [hr, ht]
            simp only [Bool.and_eq_true, decide_eq_true_eq, List.all_eq_true, Bool.not_false, and_true, true_and]
            exact ⟨h65, hm⟩
          have e1 : bw (twoB (r.1.length : Int)) ++ bw (encT r.1) = bw (twoB (r.1.length : Int) ++ encT r.1) := by rw [bw_append]
          have e2 : 2 + (encT r.1).length = (twoB (r.1.length : Int) ++ encT r.1).length := by rw [List.length_append, twoB_len]
          rw [e1, e2]
          obtain ⟨o, ho⟩ : ∃ o, twoB (r.1.length : Int) ++ encT r.1 = o := ⟨_, rfl⟩
          have hol : o.length ≤ 800002 := by rw [← ho, ← e2]; omega
          rw [ho]
          have h00 : o = o ++ encN (r.2.take 0) := by simp [encN]
          show loopV _ _ _ (rootBL_S o r.2 0 r.2.length 0 (Sto.pushOwn Sto.empty o.length))
          have hS : rootBL_S o r.2 0 r.2.length 0 (Sto.pushOwn Sto.empty o.length) = rootBL_S (o ++ encN (r.2.take 0)) r.2 0 r.2.length 0 (Sto.pushOwn Sto.empty (o ++ encN (r.2.take 0)).length) := by rw [← h00]
          rw [hS]
          refine loopV_intro (α := Nat) (fun i => rootBL_S (o ++ encN (r.2.take i)) r.2 0 r.2.length i (Sto.pushOwn Sto.empty (o ++ encN (r.2.take i)).length)) (fun i => i ≤ r.2.length) (fun i => r.2.length - i) ?_ 0 (Nat.zero_le _)
          intro i hi2 L hL
          refine Eq.mpr (rootBL_r (o ++ encN (r.2.take i)) r.2 0 r.2.length i _ L _) ?_
          simp only [hold_eq]
          refine brV_by (fun h => ?_) (fun h => ?_)
          · have hlt : i < r.2.length := by have := of_decide_eq_true h; omega
            have hel : (encN (r.2.take i)).length = 2 * i := by rw [encN_len, List.length_take]; omega
            have e3 : o ++ encN (r.2.take (i + 1)) = (o ++ encN (r.2.take i)) ++ twoB r.2[i] := by rw [encN_take _ i hlt, List.append_assoc]
            have e4 : (o ++ encN (r.2.take (i + 1))).length = (o ++ encN (r.2.take i)).length + 2 := by rw [e3, List.length_append, twoB_len]
            have hbl : (bw (o ++ encN (r.2.take i))).length = (o ++ encN (r.2.take i)).length := bw_length _
            have hb9 : (o ++ encN (r.2.take i)).length ≤ 1000000 := by rw [List.length_append, hel]; omega
            rw [i64_succ hlt (by omega), elemAt_iv _ i hlt]
            refine gb_by (dt (by omega)) (gb_by rfl (gb_by (tt2 (dt (by rw [own_e1, hbl])) (lenB_mk (by omega))) ?_))
            have e5 : AVal.intOf (List.getD [AVal.int .i64 r.2[i]] 0 .undef) = r.2[i] := rfl
            rw [e5, setOwn_e1, hbl, ← e4, ← bw_append, ← e3]
            exact hL (i + 1) hlt (by omega)
          · have hi' : i = r.2.length := by have := of_decide_eq_false h; omega
            subst hi'
            rw [List.take_length]
            refine leaveTo (toCut (Eq.mpr (rootBF_r (o ++ encN r.2) 0 _ _) ?_))
            refine gb_by (dt (bw_isU8 _)) ?_
            rw [map_byteOf_bw]
            unfold rootN
            rw [if_pos hok, ho]
            exact Wk.refl _
      · refine hbad ?_
        unfold rootOk
        have : ¬ r.2.all (fun n => decide (n ≤ 65535)) = true := by
          intro ha
          rw [List.all_eq_true] at ha
          have h9 : maxN r.2 ≤ 65535 := (maxN_le r.2 65535 hne).2 fun x hx => of_decide_eq_true (ha x hx)
          rw [← hy] at h9
          have := of_decide_eq_true hm; omega
        simp [this]
    · refine hbad ?_
      unfold rootOk
      have : ¬ r.2.length ≤ 65535 := by have := of_decide_eq_true h65; omega
      simp [this]
  · refine hbad ?_
    have hr : rootB r = false := by simpa using hr
    unfold rootOk
    rw [hr]; rfl
theorem rootB_ok' : EntOk Try.prog rootBytesE := by
  intro xs σ; simp only [rootBytesE]; split
  · rename_i v
    intro hc
    obtain ⟨h1, h2, h3, h4⟩ := rootM2_of hc
    exact pcall_of (.cons (wk_root (rootG_is h1)) (.refl _)) (rootB_c _ h2 h3 h4) (by simp only [noOutL, root_noOut, Bool.and_true]) (by simp only [noTokL, root_noTok, Bool.and_true]) rfl rfl
  · trivial
theorem rootBR_c (r : Root) (h1 : r.1.length ≤ 800000) (h2 : r.2.length ≤ 1000000) (h3 : (encT r.1).length ≤ 800000) (hH : rootH (rootV r) = true) : ACall Try.prog 29 [rootV r] Sto.empty fun v _ => Wk v (.tuple [.str (rootN r).1, .bool ((rootN r).2 == 0)]) := by
  refine rootBR_i r _ (.of [rootRE, layE, twoRE] rfl ⟨rootR_ok, lay_ok, twoR_ok, trivial⟩) ?_
  have hs : (strv r.1).length = r.1.length := strv_length _
  have hi : (iv r.2).length = r.2.length := iv_length _
  have hbad : rootOk r = false → Wk (.tuple [.str [], .bool false]) (.tuple [.str (rootN r).1, .bool ((rootN r).2 == 0)]) := fun hb => by
    unfold rootN
    rw [hb]
    exact Wk.refl _
  refine gb_by hH ?_
  rw [map_strOf_strv, map_intOf_iv]
  simp only [hold_eq]
  refine brV_by' (fun hr => ?_) (fun hr => ?_)
  · have hr : rootB r = true := by simpa using hr
    have hsp := rootB_spec hr
    refine brV_by (fun h65 => ?_) (fun h65 => ?_)
    · refine hbad ?_
      unfold rootOk
      have : ¬ r.2.length ≤ 65535 := by have := of_decide_eq_true h65; omega
      simp [this]
    · have h65 : r.2.length ≤ 65535 := by have := of_decide_eq_false h65; omega
      intro t ht z hz
      have hzl : z.length ≤ 800000 := by rw [hz]; split; exact Nat.zero_le _; exact h3
      refine gb_by (tt2 (strv_is _) (tt2 (lenB_mk (by omega)) (lenB_mk (by omega)))) (gb_by (dt (by omega)) (gb_by (dt (by omega)) ?_))
      rw [hs]
      obtain ⟨o, ho⟩ : ∃ o, twoB (r.1.length : Int) ++ z = o := ⟨_, rfl⟩
      have hol : o.length ≤ 800002 := by rw [← ho, List.length_append, twoB_len]; omega
      rw [ho]
      have hS : rootBRL_S r (!t) o 0 = rootBRL_S r (!t && (r.2.take 0).all fun n => decide (n ≤ 65535)) (o ++ encN (r.2.take 0)) 0 := by simp [encN]
      show loopV _ _ _ (rootBRL_S r (!t) o 0)
      rw [hS]
      refine loopV_intro (α := Nat) (fun i => rootBRL_S r (!t && (r.2.take i).all fun n => decide (n ≤ 65535)) (o ++ encN (r.2.take i)) i) (fun i => i ≤ r.2.length) (fun i => r.2.length - i) ?_ 0 (Nat.zero_le _)
      intro i hi2 L hL
      refine Eq.mpr (rootBRL_r r (!t && (r.2.take i).all fun n => decide (n ≤ 65535)) (o ++ encN (r.2.take i)) i L _) ?_
      simp only [hold_eq]
      refine brV_by (fun h => ?_) (fun h => ?_)
      · have hlt : i < r.2.length := by have := of_decide_eq_true h; omega
        have hel : (encN (r.2.take i)).length = 2 * i := by rw [encN_len, List.length_take]; omega
        have e3 : o ++ encN (r.2.take i) ++ twoB r.2[i] = o ++ encN (r.2.take (i + 1)) := by rw [encN_take _ i hlt, List.append_assoc]
        have hb9 : (o ++ encN (r.2.take i)).length ≤ 1000000 := by rw [List.length_append, hel]; omega
        have hpos : 1 ≤ r.2[i] := hsp.2.2.1 _ (List.getElem_mem hlt)
        have e5 : AVal.intOf (List.getD [AVal.int .i64 r.2[i]] 0 .undef) = r.2[i] := rfl
        have ea : ((r.2.take (i + 1)).all fun n => decide (n ≤ 65535)) = (((r.2.take i).all fun n => decide (n ≤ 65535)) && decide (r.2[i] ≤ 65535)) := by rw [tk_snoc _ i hlt, List.all_append]; simp
        have nx := hL (i + 1) hlt (by omega)
        rw [ea, ← e3] at nx
        rw [i64_succ hlt (by omega), elemAt_iv _ i hlt, e5]
        refine brV_by (fun hb => ?_) (fun hb => ?_)
        · refine gb_by (dt (by omega)) (gb_by rfl (gb_by (dt (by omega)) (gb_by rfl (gb_by (dt (by omega)) (gb_by (dt (by omega)) ?_)))))
          rw [← Bool.and_assoc, hb, Bool.true_and] at nx
          exact nx
        · refine gb_by (dt (by omega)) (gb_by rfl (gb_by (dt (by omega)) (gb_by (dt (by omega)) ?_)))
          rw [← Bool.and_assoc, hb, Bool.false_and] at nx
          exact nx
      · have hi' : i = r.2.length := by have := of_decide_eq_false h; omega
        subst hi'
        rw [List.take_length]
        refine leaveTo (toCut (Eq.mpr (rootBRF_r _ (o ++ encN r.2) _) ?_))
        refine brV_by (fun hb => ?_) (fun hb => ?_)
        · refine hbad ?_
          have hb : (!t && r.2.all fun n => decide (n ≤ 65535)) = false := by
            have hb : (!(!t && r.2.all fun n => decide (n ≤ 65535))) = true := hb
            rw [Bool.not_eq_true'] at hb
            exact hb
          unfold rootOk
          rw [hr, ← ht]
          cases t with
          | true => simp
          | false =>
            have hb : (r.2.all fun n => decide (n ≤ 65535)) = false := by simpa using hb
            rw [hb]; simp
        · have hb : (!t && r.2.all fun n => decide (n ≤ 65535)) = true := by
            have hb : (!(!t && r.2.all fun n => decide (n ≤ 65535))) = false := hb
            rw [Bool.not_eq_false'] at hb
            exact hb
          rw [Bool.and_eq_true] at hb
          have ht2 : t = false := by simpa using hb.1
          have hok : rootOk r = true := by
            unfold rootOk
            rw [hr, ← ht, ht2, hb.2]
            simp [h65]
          unfold rootN
          rw [if_pos hok, ← ho, hz, ht2]
          exact Wk.refl _
  · refine hbad ?_
    have hr : rootB r = false := by simpa using hr
    unfold rootOk
    rw [hr]; rfl
theorem rootBR_ok : EntOk Try.prog rootBytesRE := by
  intro xs σ; simp only [rootBytesRE]; split
  · rename_i v
    intro hc
    simp only [Bool.and_eq_true] at hc
    obtain ⟨h1, h2, h3, h4⟩ := rootM2_of hc.1
    have hH : rootH (rootV (rootOf v)) = true := by
      have := hc.2
      simp only [rootH, Bool.and_eq_true] at this ⊢
      exact ⟨rootG_mk (by omega) (by omega), by rw [rootOf_V]; exact this.2⟩
    exact pcall_of (.cons (wk_root (rootG_is h1)) (.refl _)) (rootBR_c _ h2 h3 h4 hH) (by simp only [noOutL, root_noOut, Bool.and_true]) (by simp only [noTokL, root_noTok, Bool.and_true]) rfl rfl
  · trivial
theorem leafB_c (x : Lf) (h1 : x.2.1.length ≤ 1000000) (h3 : (encT x.2.1).length ≤ 1000000) : ACall Try.prog 31 [lfV x] Sto.empty fun v _ => Wk v (.tuple [.str (leafN x).1, .int .i64 (leafN x).2]) := by
  refine leafBt_i x _ (.of [leafE, containsTE, textsTE] rfl ⟨leaf_ok, containsT_ok, textsT_ok, trivial⟩) ?_
  have hs : (strv x.2.1).length = x.2.1.length := strv_length _
  have hbad : leafOk x = false → Wk (.tuple [.str [], .int .i64 2]) (.tuple [.str (leafN x).1, .int .i64 (leafN x).2]) := fun hb => by
    unfold leafN
    rw [hb]
    exact Wk.refl _
  have hG : lfG (.agg [.int .i64 x.1, .slice (strv x.2.1) 1 .ro, .bool x.2.2]) = true := lfG_mk (l := x) (by omega)
  refine gb_by hG ?_
  rw [map_strOf_strv]
  simp only [hold_eq]
  refine brV_by' (fun hr => ?_) (fun hr => ?_)
  · have hr : lfB x = true := by simpa using hr
    refine gb_by (tt2 (strv_is _) (lenB_mk (by omega))) (brV_by (fun ht => ?_) (fun ht => ?_))
    · refine hbad ?_
      unfold leafOk
      rw [ht]; simp
    · intro y hy
      refine gb_by (tt2 (lenB_mk (by rw [hy]; omega)) (tt2 (strv_is _) (lenB_mk (by omega)))) (gb_by (dt (bw_isU8 _)) ?_)
      rw [map_byteOf_bw, hy]
      unfold leafN
      rw [if_pos (by unfold leafOk; rw [hr, ht]; rfl)]
      exact Wk.refl _
  · refine hbad ?_
    have hr : lfB x = false := by simpa using hr
    unfold leafOk
    rw [hr]; rfl
theorem leafB_ok : EntOk Try.prog leafBytesE := by
  intro xs σ; simp only [leafBytesE]; split
  · rename_i v
    intro hc
    obtain ⟨h1, h2, h3⟩ := lfM2_of hc
    exact pcall_of (.cons (wk_lf (lfG_is h1)) (.refl _)) (leafB_c _ h2 h3) (by simp only [noOutL, lf_noOut, Bool.and_true]) (by simp only [noTokL, lf_noTok, Bool.and_true]) rfl rfl
  · trivial
theorem leafBR_c (x : Lf) (h1 : x.2.1.length ≤ 1000000) (h3 : (encT x.2.1).length ≤ 1000000) (hH : lfH (lfV x) = true) : ACall Try.prog 32 [lfV x] Sto.empty fun v _ => Wk v (.tuple [.str (leafN x).1, .bool ((leafN x).2 == 0)]) := by
  refine leafBR_i x _ (.of [leafRE, layE] rfl ⟨leafR_ok, lay_ok, trivial⟩) ?_
  have hs : (strv x.2.1).length = x.2.1.length := strv_length _
  refine gb_by hH ?_
  rw [map_strOf_strv]
  simp only [hold_eq]
  refine brV_by (fun hr => ?_) (fun hr => ?_)
  · have hr : lfB x = false := by simpa using hr
    unfold leafN leafOk
    rw [hr]
    exact Wk.refl _
  · have hr : lfB x = true := by simpa using hr
    intro y hy z hz
    refine gb_by (tt2 (strv_is _) (tt2 (lenB_mk (by omega)) (lenB_mk h3))) ?_
    unfold leafN leafOk
    rw [hr, ← hy]
    cases y with
    | true => rw [hz]; exact Wk.refl _
    | false => rw [hz]; exact Wk.refl _
theorem leafBR_ok : EntOk Try.prog leafBytesRE := by
  intro xs σ; simp only [leafBytesRE]; split
  · rename_i v
    intro hc
    simp only [Bool.and_eq_true] at hc
    obtain ⟨h1, h2, h3⟩ := lfM2_of hc.1
    have hH : lfH (lfV (lfOf v)) = true := by
      have := hc.2
      simp only [lfH, Bool.and_eq_true] at this ⊢
      exact ⟨lfG_mk (by omega), by rw [lfOf_V]; exact this.2⟩
    exact pcall_of (.cons (wk_lf (lfG_is h1)) (.refl _)) (leafBR_c _ h2 h3 hH) (by simp only [noOutL, lf_noOut, Bool.and_true]) (by simp only [noTokL, lf_noTok, Bool.and_true]) rfl rfl
  · trivial
end Go.Proofs.Ytlfnmhfmikomkaa
end

section
namespace Go.Proofs.Ytlfnmhfmikomkaa
open Go.AL Ju
set_option linter.unusedSimpArgs false
set_option linter.unusedVariables false
set_option maxHeartbeats 1000000
set_option maxRecDepth 20000

theorem numN_inv {s : Txt} (h : (numN s).2.2 = true) : s = twoB (numN s).1 ++ (numN s).2.1 ∧ 0 ≤ (numN s).1 ∧ (numN s).1 ≤ 65535 := by
  match s, h with
  | a :: b :: r, _ =>
    have ha := u8_lt a
    have hb := u8_lt b
    show a :: b :: r = twoB ((a.toNat : Int) * 256 + (b.toNat : Int)) ++ r ∧ 0 ≤ (a.toNat : Int) * 256 + (b.toNat : Int) ∧ (a.toNat : Int) * 256 + (b.toNat : Int) ≤ 65535
    refine ⟨?_, by omega, by omega⟩
    have e1 : (((a.toNat : Int) * 256 + (b.toNat : Int)) / 256 % 256).toNat = a.toNat := by omega
    have e2 : (((a.toNat : Int) * 256 + (b.toNat : Int)) % 256).toNat = b.toNat := by omega
    unfold twoB
    rw [e1, e2, UInt8.ofNat_toNat, UInt8.ofNat_toNat]
    rfl
theorem numN_le (s : Txt) : (numN s).2.1.length ≤ s.length ∧ 0 ≤ (numN s).1 ∧ (numN s).1 ≤ 65535 := by
  unfold numN
  split
  · rename_i a b r
    have ha := u8_lt a
    have hb := u8_lt b
    simp only [List.length_cons]
    omega
  · exact ⟨Nat.le_refl _, Int.le_refl 0, by show (0 : Int) ≤ 65535; decide⟩
theorem textN_inv {s : Txt} (h : (textN s).2.2 = true) : s = twoB ((textN s).1.length : Int) ++ (textN s).1 ++ (textN s).2.1 := by
  unfold textN at h ⊢
  by_cases h1 : (numN s).2.2 = true
  · obtain ⟨q1, q2, q3⟩ := numN_inv h1
    rw [if_pos h1] at h ⊢
    by_cases h2 : (numN s).2.1.length < (numN s).1.toNat
    · rw [if_pos h2] at h; cases h
    · rw [if_neg h2]
      show s = twoB (((numN s).2.1.take (numN s).1.toNat).length : Int) ++ (numN s).2.1.take (numN s).1.toNat ++ (numN s).2.1.drop (numN s).1.toNat
      have e : (((numN s).2.1.take (numN s).1.toNat).length : Int) = (numN s).1 := by rw [List.length_take]; omega
      rw [e, List.append_assoc, List.take_append_drop]
      exact q1
  · rw [if_neg h1] at h; cases h
theorem textN_le (s : Txt) : (textN s).2.1.length ≤ s.length := by
  have h := (numN_le s).1
  unfold textN
  split
  · split
    · exact h
    · show ((numN s).2.1.drop _).length ≤ _
      rw [List.length_drop]; omega
  · exact h
theorem encT_one (x : Txt) : encT [x] = twoB (x.length : Int) ++ x := by simp [encT]
theorem encT_app (a b : List Txt) : encT (a ++ b) = encT a ++ encT b := by simp [encT]
theorem wk_rootT {v u : AVal} (a : List Txt) (b : List Int) (e : Int) (h1 : Wk v (.slice (strv a) 1 .ro)) (h2 : Wk u (.slice (iv b) 1 .ro)) : Wk (.tuple [.agg [v, u], .int .i64 e]) (.tuple [rootV (a, b), .int .i64 e]) :=
  Wk.tuple (.cons (Wk.agg (.cons h1 (.cons h2 (.refl _)))) (.refl _))
theorem wk_nn (e : Int) : Wk (.tuple [.agg [.slice [] 0 .nil, .slice [] 0 .nil], .int .i64 e]) (.tuple [rootV ([], []), .int .i64 e]) :=
  wk_rootT [] [] e (Wk.nil 0 1 .nil) (Wk.nil 0 1 .nil)
/-- What is left behind some texts; behind some numbers. -/
def RootA (s : Txt) (n i : Nat) (left : Txt) (l : List Txt) : Prop :=
  i ≤ n ∧ l.length = i ∧ encT l ++ left = (numN s).2.1 ∧ textsN n (numN s).2.1 = (textsN (n - i) left).map fun x => (l ++ x.1, x.2)
def RootBs (s t : Txt) (n i : Nat) (left : Txt) (b : List Int) : Prop :=
  i ≤ n ∧ b.length = i ∧ left.length ≤ 1000000 ∧ numsN n t = (numsN (n - i) left).map fun x => (b ++ x.1, x.2)
theorem RootA.next {s : Txt} {n i : Nat} {left : Txt} {l : List Txt} (h : RootA s n i left l) (hi : i < n) (ht : (textN left).2.2 = true) : RootA s n (i + 1) (textN left).2.1 (l ++ [(textN left).1]) := by
  obtain ⟨h1, h2, h3, h4⟩ := h
  refine ⟨hi, by rw [List.length_append]; simp; omega, ?_, ?_⟩
  · rw [encT_app, encT_one, List.append_assoc, ← textN_inv ht]; exact h3
  · rw [h4]
    obtain ⟨k, hk⟩ : ∃ k, n - i = k + 1 := ⟨n - i - 1, by omega⟩
    rw [hk, show n - (i + 1) = k by omega, textsN, if_pos ht]
    cases textsN k (textN left).2.1 with
    | none => rfl
    | some x => simp
theorem RootA.fail {s : Txt} {n i : Nat} {left : Txt} {l : List Txt} (h : RootA s n i left l) (hi : i < n) (ht : (textN left).2.2 = false) (hn : n = (numN s).1.toNat) : parseRootN s = (([], []), 10) := by
  obtain ⟨h1, h2, h3, h4⟩ := h
  obtain ⟨k, hk⟩ : ∃ k, n - i = k + 1 := ⟨n - i - 1, by omega⟩
  rw [hk, textsN, if_neg (by rw [ht]; simp)] at h4
  unfold parseRootN
  rw [← hn, h4]; rfl
theorem RootBs.next {s t : Txt} {n i : Nat} {left : Txt} {b : List Int} (h : RootBs s t n i left b) (hi : i < n) (ht : (numN left).2.2 = true) : RootBs s t n (i + 1) (numN left).2.1 (b ++ [(numN left).1]) := by
  obtain ⟨h1, h2, h3, h4⟩ := h
  refine ⟨hi, by rw [List.length_append]; simp; omega, by have := (numN_le left).1; omega, ?_⟩
  rw [h4]
  obtain ⟨k, hk⟩ : ∃ k, n - i = k + 1 := ⟨n - i - 1, by omega⟩
  rw [hk, show n - (i + 1) = k by omega, numsN, if_pos ht]
  cases numsN k (numN left).2.1 with
  | none => rfl
  | some x => simp
noncomputable def prAS (s left : Txt) (n : Int) (m i : Nat) : List Txt → St
  | [] => prANN_S s left n m i
  | x :: r => prAON_S s left n m i (x :: r) (x :: r).length
noncomputable def prBS (s left : Txt) (m i : Nat) : List Txt → List Int → St
  | [], [] => prBNN_S s left m i
  | [], y :: r => prBNO_S s left m i (y :: r) (y :: r).length
  | x :: q, [] => prBON_S s left m i (x :: q) (x :: q).length
  | x :: q, y :: r => prBOO_S s left m i (x :: q) (y :: r) (x :: q).length (y :: r).length
theorem rootM2_at {v : AVal} {l : List Txt} {b : List Int} (hv : rootOf v = (l, b)) (hg : rootG v = true) (h1 : l.length ≤ 800000) (h2 : b.length ≤ 1000000) (h3 : (encT l).length ≤ 800000) : rootM2 v = true := by
  unfold rootM2
  rw [hv, hg]
  exact tt2 rfl (tt2 (lenB_mk (by show l.length + _ ≤ _; omega)) (tt2 (lenB_mk h2) (lenB_mk (by show (encT l).length + _ ≤ _; omega))))
theorem okW1_strv (l : List Txt) : okW 1 1 (strv l) = true := okW_same 1 _
theorem rootOf_at (l : List Txt) (b : List Int) (s1 s2 : Nat) (t1 t2 : Tag) : rootOf (.agg [.slice (strv l) s1 t1, .slice (iv b) s2 t2]) = (l, b) := by simp [rootOf]
theorem rootG_at (l : List Txt) (b : List Int) (s1 s2 : Nat) (t1 t2 : Tag) (o1 : okW 1 s1 (strv l) = true) (o2 : okW 1 s2 (iv b) = true) (h1 : l.length ≤ 1000000) (h2 : b.length ≤ 1000000) : rootG (.agg [.slice (strv l) s1 t1, .slice (iv b) s2 t2]) = true := by
  unfold rootG
  rw [rootOf_at]
  refine tt2 ?_ (tt2 (lenOk_mk (by show l.length ≤ _; omega)) (lenOk_mk (by show b.length ≤ _; omega)))
  simp [rootIs, o1, o2]
noncomputable def prFS (s : Txt) : List Txt → List Int → St
  | [], b => prFNO_S s b b.length
  | x :: q, b => prFOO_S s (x :: q) b (x :: q).length b.length
/-- The end of ParseRoot. -/
theorem pr_end (s : Txt) (hs : s.length ≤ 800000) (l : List Txt) (b : List Int) (t u : Txt) (hA : encT l ++ t = (numN s).2.1) (hl : l.length ≤ 65535) (hb : b.length ≤ 65536) (hne : b ≠ [])
    (hp : parseRootN s = if (rootN (l, b)).2 = 0 ∧ (rootN (l, b)).1 = s then ((l, b), 0) else (([], []), 10)) :
    vc Try.prog cPR prFNO_C (endK Try.prog Try.f30.results.toList fun r _ => Wk r (.tuple [rootV (parseRootN s).1, .int .i64 (parseRootN s).2])) (prFS s l b) := by
  have he : (encT l).length ≤ 800000 := by
    have := congrArg List.length hA
    rw [List.length_append] at this
    have := (numN_le s).1
    omega
  have hbad : ¬ ((rootN (l, b)).2 = 0 ∧ (rootN (l, b)).1 = s) → Wk (.tuple [.agg [.slice [] 0 .nil, .slice [] 0 .nil], .int .i64 10]) (.tuple [rootV (parseRootN s).1, .int .i64 (parseRootN s).2]) := fun h => by
    rw [hp, if_neg h]
    exact wk_nn 10
  cases b with
  | nil => exact (hne rfl).elim
  | cons y r =>
    cases l with
    | nil =>
      refine Eq.mpr (prFNO_r s (y :: r) (y :: r).length _) ?_
      intro z hz
      rw [map_intOf_iv] at hz
      simp only [hold_eq]
      refine gb_by (rootM2_at (rootOf_at [] (y :: r) 0 1 .nil (.own 0)) (rootG_at [] (y :: r) 0 1 .nil (.own 0) (okW_nil _ _) (okW_same _ _) (by simp) (by omega)) (by simp) (by omega) he) (brV_by' (fun h1 => brV_by (fun h2 => ?_) (fun h2 => ?_)) (fun h1 => ?_))
      · refine hbad fun h => ?_
        have e : z.1 = s := by rw [hz]; exact h.2
        rw [e] at h2
        simp at h2
      · have h2 : (!z.1 == s) = false := h2
        have e1 : (rootN ([], y :: r)).2 = 0 := by
          have : (z.2 != 0) = false := h1
          rw [hz] at this
          simpa using this
        have e2 : (rootN ([], y :: r)).1 = s := by
          rw [hz] at h2
          simpa using h2
        rw [hp, if_pos ⟨e1, e2⟩]
        exact wk_rootT [] (y :: r) 0 (Wk.nil 0 1 .nil) (Wk.ro _ _ _)
      · refine hbad fun h => ?_
        have e : z.2 = 0 := by rw [hz]; exact h.1
        rw [e] at h1
        cases h1
    | cons x q =>
      refine Eq.mpr (prFOO_r s (x :: q) (y :: r) (x :: q).length (y :: r).length _) ?_
      intro z hz
      rw [map_intOf_iv, map_strOf_strv] at hz
      simp only [hold_eq]
      refine gb_by (rootM2_at (rootOf_at (x :: q) (y :: r) 1 1 (.own 0) (.own 1)) (rootG_at (x :: q) (y :: r) 1 1 (.own 0) (.own 1) (okW_same _ _) (okW_same _ _) (by omega) (by omega)) (by omega) (by omega) he) (brV_by' (fun h1 => brV_by (fun h2 => ?_) (fun h2 => ?_)) (fun h1 => ?_))
      · refine hbad fun h => ?_
        have e : z.1 = s := by rw [hz]; exact h.2
        rw [e] at h2
        simp at h2
      · have h2 : (!(z.1 == s)) = false := h2
        have e1 : (rootN (x :: q, y :: r)).2 = 0 := by
          have : (z.2 != 0) = false := h1
          rw [hz] at this
          simpa using this
        have e2 : (rootN (x :: q, y :: r)).1 = s := by
          rw [hz] at h2
          simpa using h2
        rw [hp, if_pos ⟨e1, e2⟩]
        exact wk_rootT (x :: q) (y :: r) 0 (Wk.ro _ _ _) (Wk.ro _ _ _)
      · refine hbad fun h => ?_
        have e : z.2 = 0 := by rw [hz]; exact h.1
        rw [e] at h1
        cases h1
/-- The numbers, and the end. -/
theorem pr_nums (s s0 : Txt) (h0 : s = s0) (hs : s.length ≤ 800000) (l : List Txt) (t : Txt) (M : Nat) (hA : encT l ++ t = (numN s).2.1) (hl : l.length + 1 = M) (hM : M ≤ 65536)
    (hp : parseRootN s = match numsN M t with
      | none => (([], []), 10)
      | some (b, _) => if (rootN (l, b)).2 = 0 ∧ (rootN (l, b)).1 = s then ((l, b), 0) else (([], []), 10)) :
    loopV (fun s => St.norm [] [0, 2, 4, 6, 38, 39] [2, 4] s) (vc Try.prog cPR prBNN_C) (blockK 2 (thenK (fun s => cutV (vc Try.prog cPR prFNO_C (endK Try.prog Try.f30.results.toList fun r _ => Wk r (.tuple [rootV (parseRootN s0).1, .int .i64 (parseRootN s0).2]))) (St.norm [] [0, 2, 4] [2, 4] s)) (endK Try.prog Try.f30.results.toList fun r _ => Wk r (.tuple [rootV (parseRootN s0).1, .int .i64 (parseRootN s0).2])))) (prBS s t M 0 l []) := by
  subst h0
  have ht : t.length ≤ 1000000 := by
    have := congrArg List.length hA
    rw [List.length_append] at this
    have := (numN_le s).1
    omega
  refine loopV_intro (α := Nat × Txt × List Int) (fun x => prBS s x.2.1 M x.1 l x.2.2) (fun x => RootBs s t M x.1 x.2.1 x.2.2) (fun x => M - x.1) ?_ (0, t, []) ⟨Nat.zero_le _, rfl, ht, by cases numsN M t <;> simp [*]⟩
  rintro ⟨i, left, b⟩ hC L hL
  simp only at hC
  have hbad : (numN left).2.2 = false → i < M → Wk (.tuple [.agg [.slice [] 0 .nil, .slice [] 0 .nil], .int .i64 10]) (.tuple [rootV (parseRootN s).1, .int .i64 (parseRootN s).2]) := fun h hi => by
    obtain ⟨k, hk⟩ : ∃ k, M - i = k + 1 := ⟨M - i - 1, by omega⟩
    have e : numsN M t = none := by
      rw [hC.2.2.2, hk, numsN, if_neg (by rw [h]; simp)]; rfl
    rw [hp, e]
    exact wk_nn 10
  have hnext : (numN left).2.2 = true → i < M → L (prBS s (numN left).2.1 M (i + 1) l (b ++ [(numN left).1])) := fun h hi =>
    hL (i + 1, (numN left).2.1, b ++ [(numN left).1]) (hC.next hi h) (by simp only; omega)
  have hend : i = M → vc Try.prog cPR prFNO_C (endK Try.prog Try.f30.results.toList fun r _ => Wk r (.tuple [rootV (parseRootN s).1, .int .i64 (parseRootN s).2])) (prFS s l b) := fun hi => by
    have e : numsN M t = some (b, left) := by rw [hC.2.2.2, hi, Nat.sub_self]; simp [numsN]
    have hbl : b.length = M := by rw [hC.2.1, hi]
    exact pr_end s hs l b t [] hA (by omega) (by omega) (fun e => by rw [e] at hbl; simp at hbl; omega) (by rw [hp, e])
  have hCl := hC.2.2.1
  have hbl := hC.2.1
  cases l with
  | nil =>
    cases b with
    | nil =>
      refine Eq.mpr (prBNN_r s left M i L _) ?_
      simp only [hold_eq]
      refine brV_by (fun h => ?_) (fun h => ?_)
      · have hlt : i < M := by have := of_decide_eq_true h; omega
        intro y hy
        refine gb_by (lenB_mk hCl) (brV_by (fun hb => ?_) (fun hb => ?_))
        · exact hbad (by rw [← hy]; simpa using hb) hlt
        · have := hnext (by rw [← hy]; simpa using hb) hlt
          rw [← hy] at this
          rw [i64_succ hlt (by omega)]
          exact this
      · have hi : i = M := by have := of_decide_eq_false h; have := hC.1; omega
        have := hend hi
        simp at hbl
        omega
    | cons z r =>
      refine Eq.mpr (prBNO_r s left M i (z :: r) (z :: r).length L _) ?_
      simp only [hold_eq]
      refine brV_by (fun h => ?_) (fun h => ?_)
      · have hlt : i < M := by have := of_decide_eq_true h; omega
        have hiv : (iv (z :: r)).length = (z :: r).length := iv_length _
        intro y hy
        refine gb_by (lenB_mk hCl) (brV_by (fun hb => ?_) (fun hb => ?_))
        · exact hbad (by rw [← hy]; simpa using hb) hlt
        · have := hnext (by rw [← hy]; simpa using hb) hlt
          rw [← hy] at this
          refine gb_by (by rw [hiv]; simp only [true_and, and_true, decide_eq_true_eq]; omega) ?_
          rw [i64_succ hlt (by omega), setOwn_e1, hiv]
          have e1 : iv (z :: r) ++ [.int .i64 y.1] = iv (z :: r ++ [y.1]) := by rw [iv_append]; rfl
          have e2 : (z :: r).length + 1 = (z :: r ++ [y.1]).length := by simp
          rw [e1, e2]
          exact this
      · have hi : i = M := by have := of_decide_eq_false h; have := hC.1; omega
        exact leaveTo (toCut (hend hi))
  | cons x q =>
    cases b with
    | nil =>
      refine Eq.mpr (prBON_r s left M i (x :: q) (x :: q).length L _) ?_
      simp only [hold_eq]
      refine brV_by (fun h => ?_) (fun h => ?_)
      · have hlt : i < M := by have := of_decide_eq_true h; omega
        intro y hy
        refine gb_by (lenB_mk hCl) (brV_by (fun hb => ?_) (fun hb => ?_))
        · exact hbad (by rw [← hy]; simpa using hb) hlt
        · have := hnext (by rw [← hy]; simpa using hb) hlt
          rw [← hy] at this
          rw [i64_succ hlt (by omega)]
          exact this
      · have hi : i = M := by have := of_decide_eq_false h; have := hC.1; omega
        simp at hbl
        omega
    | cons z r =>
      refine Eq.mpr (prBOO_r s left M i (x :: q) (z :: r) (x :: q).length (z :: r).length L _) ?_
      simp only [hold_eq]
      refine brV_by (fun h => ?_) (fun h => ?_)
      · have hlt : i < M := by have := of_decide_eq_true h; omega
        have hiv : (iv (z :: r)).length = (z :: r).length := iv_length _
        intro y hy
        refine gb_by (lenB_mk hCl) (brV_by (fun hb => ?_) (fun hb => ?_))
        · exact hbad (by rw [← hy]; simpa using hb) hlt
        · have := hnext (by rw [← hy]; simpa using hb) hlt
          rw [← hy] at this
          refine gb_by (by rw [hiv]; simp only [true_and, and_true, decide_eq_true_eq]; omega) ?_
          rw [i64_succ hlt (by omega), setOwn_e21, hiv]
          have e1 : iv (z :: r) ++ [.int .i64 y.1] = iv (z :: r ++ [y.1]) := by rw [iv_append]; rfl
          have e2 : (z :: r).length + 1 = (z :: r ++ [y.1]).length := by simp
          rw [e1, e2]
          exact this
      · have hi : i = M := by have := of_decide_eq_false h; have := hC.1; omega
        exact leaveTo (toCut (hend hi))
end Go.Proofs.Ytlfnmhfmikomkaa
end

section
namespace Go.Proofs.Ytlfnmhfmikomkaa
open Go.AL Ju
set_option linter.unusedSimpArgs false
set_option linter.unusedVariables false
set_option maxHeartbeats 1000000
set_option maxRecDepth 20000

theorem parseRoot_c (s : Txt) (hs : s.length ≤ 800000) : ACall Try.prog 30 [.str s] Sto.empty fun r _ => Wk r (.tuple [rootV (parseRootN s).1, .int .i64 (parseRootN s).2]) := by
  refine pr_i s _ (.of [numberE, textE, rootBytesE] rfl ⟨number_ok, text_ok, rootB_ok', trivial⟩) ?_
  intro y hy
  refine gb_by (lenB_mk (by omega)) ?_
  obtain ⟨n1, n2, n3⟩ := numN_le s
  rw [← hy] at n1 n2 n3
  obtain ⟨m, hm⟩ : ∃ m : Nat, y.1 = (m : Int) := ⟨y.1.toNat, by omega⟩
  have hmn : m = (numN s).1.toNat := by rw [← hy, hm]; rfl
  rw [hm]
  show loopV _ _ _ (prAS s y.2.1 (m : Int) m 0 [])
  refine loopV_intro (α := Nat × Txt × List Txt) (fun x => prAS s x.2.1 (m : Int) m x.1 x.2.2) (fun x => RootA s m x.1 x.2.1 x.2.2) (fun x => m - x.1) ?_ (0, y.2.1, []) ⟨Nat.zero_le _, rfl, by rw [hy]; rfl, by rw [hy]; cases textsN m (numN s).2.1 <;> simp [*]⟩
  rintro ⟨i, left, l⟩ hC L hL
  simp only at hC
  have hbad : (textN left).2.2 = false → i < m → Wk (.tuple [.agg [.slice [] 0 .nil, .slice [] 0 .nil], .int .i64 10]) (.tuple [rootV (parseRootN s).1, .int .i64 (parseRootN s).2]) := fun h hi => by
    rw [hC.fail hi h hmn]
    exact wk_nn 10
  have hnext : (textN left).2.2 = true → i < m → L (prAS s (textN left).2.1 (m : Int) m (i + 1) (l ++ [(textN left).1])) := fun h hi =>
    hL (i + 1, (textN left).2.1, l ++ [(textN left).1]) (hC.next hi h) (by simp only; omega)
  have hll : left.length ≤ 800000 := by
    have := congrArg List.length hC.2.2.1
    rw [List.length_append, ← hy] at this
    omega
  have hlen := hC.2.1
  have hend : i = m → loopV (fun s => St.norm [] [0, 2, 4, 6, 38, 39] [2, 4] s) (vc Try.prog cPR prBNN_C) (blockK 2 (thenK (fun s' => cutV (vc Try.prog cPR prFNO_C (endK Try.prog Try.f30.results.toList fun r _ => Wk r (.tuple [rootV (parseRootN s).1, .int .i64 (parseRootN s).2]))) (St.norm [] [0, 2, 4] [2, 4] s')) (endK Try.prog Try.f30.results.toList fun r _ => Wk r (.tuple [rootV (parseRootN s).1, .int .i64 (parseRootN s).2])))) (prBS s left (m + 1) 0 l []) := fun hi => by
    have e : textsN m (numN s).2.1 = some (l, left) := by rw [hC.2.2.2, hi, Nat.sub_self]; simp [textsN]
    refine pr_nums s s rfl hs l left (m + 1) hC.2.2.1 (by omega) (by omega) ?_
    unfold parseRootN
    rw [← hmn, e]
    rfl
  have hw : IntKind.i64.wrap ((m : Int) + 1) = ((m + 1 : Nat) : Int) := by rw [wrap_i64 (by omega) (by omega)]; rfl
  cases l with
  | nil =>
    refine Eq.mpr (prANN_r s left (m : Int) m i L _) ?_
    simp only [hold_eq]
    refine brV_by (fun h => ?_) (fun h => ?_)
    · have hlt : i < m := by have := of_decide_eq_true h; omega
      intro z hz
      refine gb_by (lenB_mk (by omega)) (brV_by (fun hb => ?_) (fun hb => ?_))
      · exact hbad (by rw [← hz]; simpa using hb) hlt
      · have := hnext (by rw [← hz]; simpa using hb) hlt
        rw [← hz] at this
        rw [i64_succ hlt (by omega)]
        exact this
    · have hi : i = m := by have := of_decide_eq_false h; have := hC.1; omega
      refine leaveTo (toCut (Eq.mpr (prCNN_r s left (m : Int) _) ?_))
      rw [hw]
      exact hend hi
  | cons x q =>
    refine Eq.mpr (prAON_r s left (m : Int) m i (x :: q) (x :: q).length L _) ?_
    simp only [hold_eq]
    refine brV_by (fun h => ?_) (fun h => ?_)
    · have hlt : i < m := by have := of_decide_eq_true h; omega
      have hiv : (strv (x :: q)).length = (x :: q).length := strv_length _
      intro z hz
      refine gb_by (lenB_mk (by omega)) (brV_by (fun hb => ?_) (fun hb => ?_))
      · exact hbad (by rw [← hz]; simpa using hb) hlt
      · have := hnext (by rw [← hz]; simpa using hb) hlt
        rw [← hz] at this
        refine gb_by (by rw [hiv]; simp only [true_and, and_true, decide_eq_true_eq]; omega) ?_
        rw [i64_succ hlt (by omega), setOwn_e1, hiv]
        have e1 : strv (x :: q) ++ [.str z.1] = strv (x :: q ++ [z.1]) := by simp [strv]
        have e2 : (x :: q).length + 1 = (x :: q ++ [z.1]).length := by simp
        rw [e1, e2]
        exact this
    · have hi : i = m := by have := of_decide_eq_false h; have := hC.1; omega
      refine leaveTo (toCut (Eq.mpr (prCON_r s left (m : Int) (x :: q) (x :: q).length _) ?_))
      rw [hw]
      exact hend hi
theorem parseRoot_ok : EntOk Try.prog parseRootE := by
  intro xs σ; simp only [parseRootE]; split
  · rename_i s
    intro hc
    have := lenB_of hc
    exact pcall_of (.refl _) (parseRoot_c s (by omega)) rfl rfl (by simp only [AVal.noOut, noOutL, root_noOut, Bool.and_true]) (by simp only [AVal.noTok, noTokL, root_noTok, Bool.and_true])
  · trivial
/-! ### Leaves -/
theorem textN_lt {s : Txt} (h : (textN s).2.2 = true) : (textN s).2.1.length < s.length := by
  have := congrArg List.length (textN_inv h)
  rw [List.length_append, List.length_append, twoB_len] at this
  omega
theorem allT_cons (f : Nat) (a : UInt8) (r : Txt) : allT (f + 1) (a :: r) = if (textN (a :: r)).2.2 then (allT f (textN (a :: r)).2.1).map fun x => (textN (a :: r)).1 :: x else none := rfl
def LeafA (s left : Txt) (l : List Txt) : Prop := encT l ++ left = s ∧ ∃ f, left.length ≤ f ∧ allT s.length s = (allT f left).map fun x => l ++ x
theorem LeafA.next {s left : Txt} {l : List Txt} (h : LeafA s left l) (hne : left ≠ []) (ht : (textN left).2.2 = true) : LeafA s (textN left).2.1 (l ++ [(textN left).1]) := by
  obtain ⟨h1, f, h2, h3⟩ := h
  refine ⟨by rw [encT_app, encT_one, List.append_assoc, ← textN_inv ht]; exact h1, ?_⟩
  cases left with
  | nil => exact (hne rfl).elim
  | cons a r =>
    cases f with
    | zero => simp at h2
    | succ f =>
      refine ⟨f, by have := textN_lt ht; omega, ?_⟩
      rw [h3, allT_cons, if_pos ht]
      cases allT f (textN (a :: r)).2.1 with
      | none => rfl
      | some x => simp
theorem LeafA.fail {s left : Txt} {l : List Txt} (h : LeafA s left l) (hne : left ≠ []) (ht : (textN left).2.2 = false) (no : Int) : parseLeafN no s = ((0, [], false), 10) := by
  obtain ⟨h1, f, h2, h3⟩ := h
  cases left with
  | nil => exact (hne rfl).elim
  | cons a r =>
    cases f with
    | zero => simp at h2
    | succ f =>
      rw [allT_cons, if_neg (by rw [ht]; simp)] at h3
      unfold parseLeafN
      rw [h3]; rfl
theorem LeafA.done {s : Txt} {l : List Txt} (h : LeafA s [] l) : allT s.length s = some l := by
  obtain ⟨h1, f, h2, h3⟩ := h
  rw [h3]
  cases f <;> simp [allT]
noncomputable def plS (no : Int) (left : Txt) : List Txt → St
  | [] => plNL_S no left
  | x :: r => plOL_S no left (x :: r) (x :: r).length
theorem wk_lfT {v : AVal} (no : Int) (l : List Txt) (e : Int) (h : Wk v (.slice (strv l) 1 .ro)) : Wk (.tuple [.agg [.int .i64 no, v, .bool false], .int .i64 e]) (.tuple [lfV (no, l, false), .int .i64 e]) :=
  Wk.tuple (.cons (Wk.agg (.cons (.refl _) (.cons h (.refl _)))) (.refl _))
theorem lfM2_at {no : Int} {l : List Txt} {s : Nat} {t : Tag} (o : okW 1 s (strv l) = true) (h1 : l.length ≤ 1000000) (h2 : (encT l).length ≤ 1000000) : lfM2 (.agg [.int .i64 no, .slice (strv l) s t, .bool false]) = true := by
  have e : lfOf (.agg [.int .i64 no, .slice (strv l) s t, .bool false]) = (no, l, false) := by simp [lfOf]
  unfold lfM2 lfG
  rw [e]
  refine tt2 (tt2 ?_ (lenOk_mk (by show l.length ≤ _; omega))) (tt2 (lenB_mk h1) (lenB_mk h2))
  simp [lfIs, o]
theorem encT_len (l : List Txt) : l.length ≤ (encT l).length := by
  induction l with
  | nil => exact Nat.zero_le _
  | cons x r ih =>
    show _ ≤ (twoB (x.length : Int) ++ x ++ encT r).length
    rw [List.length_append, List.length_append, twoB_len, List.length_cons]; omega
theorem parseLeaf_c (no : Int) (s : Txt) (hs : s.length ≤ 1000000) : ACall Try.prog 33 [.int .i64 no, .str s] Sto.empty fun r _ => Wk r (.tuple [lfV (parseLeafN no s).1, .int .i64 (parseLeafN no s).2]) := by
  refine pl_i no s _ (.of [textE, leafBytesE] rfl ⟨text_ok, leafB_ok, trivial⟩) ?_
  show loopV _ _ _ (plS no s [])
  refine loopV_intro (α := Txt × List Txt) (fun x => plS no x.1 x.2) (fun x => LeafA s x.1 x.2) (fun x => x.1.length) ?_ (s, []) ⟨rfl, s.length, Nat.le_refl _, by cases allT s.length s <;> simp⟩
  rintro ⟨left, l⟩ hC L hL
  simp only at hC
  have hlen : (encT l).length + left.length = s.length := by rw [← List.length_append, hC.1]
  have hll := encT_len l
  have hbad : (textN left).2.2 = false → left ≠ [] → Wk (.tuple [.agg [.int .i64 0, .slice [] 0 .nil, .bool false], .int .i64 10]) (.tuple [lfV (parseLeafN no s).1, .int .i64 (parseLeafN no s).2]) := fun h hne => by
    rw [hC.fail hne h no]
    exact wk_lfT 0 [] 10 (Wk.nil 0 1 .nil)
  have hnext : (textN left).2.2 = true → left ≠ [] → L (plS no (textN left).2.1 (l ++ [(textN left).1])) := fun h hne =>
    hL ((textN left).2.1, l ++ [(textN left).1]) (hC.next hne h) (textN_lt h)
  have hfin : left = [] → ∀ z : Txt × Int, z = leafN (no, l, false) → (z.2 ≠ 0 → Wk (.tuple [.agg [.int .i64 0, .slice [] 0 .nil, .bool false], .int .i64 10]) (.tuple [lfV (parseLeafN no s).1, .int .i64 (parseLeafN no s).2])) ∧ (z.2 = 0 → parseLeafN no s = ((no, l, false), 0)) := fun he z hz => by
    subst he
    have hd := hC.done
    unfold parseLeafN
    rw [hd]
    simp only
    rw [← hz]
    refine ⟨fun h => ?_, fun h => by rw [if_pos h]⟩
    rw [if_neg h]
    exact wk_lfT 0 [] 10 (Wk.nil 0 1 .nil)
  cases l with
  | nil =>
    refine Eq.mpr (plNL_r no left L _) ?_
    simp only [hold_eq]
    refine brV_by (fun h => ?_) (fun h => ?_)
    · have hne : left ≠ [] := by simpa using h
      intro z hz
      refine gb_by (lenB_mk (by omega)) (brV_by (fun hb => ?_) (fun hb => ?_))
      · exact hbad (by rw [← hz]; simpa using hb) hne
      · have := hnext (by rw [← hz]; simpa using hb) hne
        rw [← hz] at this
        exact this
    · have he : left = [] := by simpa using h
      refine leaveTo (toCut (Eq.mpr (plNF_r no _) ?_))
      intro z hz
      have hz2 : z = leafN (no, [], false) := by rw [hz]; rfl
      obtain ⟨q1, q2⟩ := hfin he z hz2
      simp only [hold_eq]
      refine gb_by (lfM2_at (l := []) (okW_nil _ _) (by simp) (by simp [encT])) (brV_by (fun hb => ?_) (fun hb => ?_))
      · exact q1 (by simpa using hb)
      · rw [q2 (by simpa using hb)]
        exact wk_lfT no [] 0 (Wk.nil 0 1 .nil)
  | cons x q =>
    refine Eq.mpr (plOL_r no left (x :: q) (x :: q).length L _) ?_
    simp only [hold_eq]
    have hiv : (strv (x :: q)).length = (x :: q).length := strv_length _
    refine brV_by (fun h => ?_) (fun h => ?_)
    · have hne : left ≠ [] := by simpa using h
      intro z hz
      refine gb_by (lenB_mk (by omega)) (brV_by (fun hb => ?_) (fun hb => ?_))
      · exact hbad (by rw [← hz]; simpa using hb) hne
      · have := hnext (by rw [← hz]; simpa using hb) hne
        rw [← hz] at this
        refine gb_by (by rw [hiv]; simp only [true_and, and_true, decide_eq_true_eq]; omega) ?_
        rw [setOwn_e1, hiv]
        have e1 : strv (x :: q) ++ [.str z.1] = strv (x :: q ++ [z.1]) := by simp [strv]
        have e2 : (x :: q).length + 1 = (x :: q ++ [z.1]).length := by simp
        rw [e1, e2]
        exact this
    · have he : left = [] := by simpa using h
      refine leaveTo (toCut (Eq.mpr (plOF_r no (x :: q) (x :: q).length _) ?_))
      intro z hz
      rw [map_strOf_strv] at hz
      obtain ⟨q1, q2⟩ := hfin he z hz
      simp only [hold_eq]
      refine gb_by (lfM2_at (okW_same _ _) (by omega) (by omega)) (brV_by (fun hb => ?_) (fun hb => ?_))
      · exact q1 (by simpa using hb)
      · rw [q2 (by simpa using hb)]
        exact wk_lfT no (x :: q) 0 (Wk.ro _ _ _)
theorem parseLeaf_ok : EntOk Try.prog parseLeafE := by
  intro xs σ; simp only [parseLeafE]; split
  · rename_i no s
    intro hc
    exact pcall_of (.refl _) (parseLeaf_c no s (lenB_of hc)) rfl rfl (by simp only [AVal.noOut, noOutL, lf_noOut, Bool.and_true]) (by simp only [AVal.noTok, noTokL, lf_noTok, Bool.and_true])
  · trivial
end Go.Proofs.Ytlfnmhfmikomkaa
end

section
set_option maxRecDepth 100000
set_option maxHeartbeats 0
set_option linter.unusedVariables false
namespace Go.Proofs.Ytlfnmhfmikomkaa.Jv
open Go.AL Go.Proofs
noncomputable def cLawT : Cfg := { keep := [0, 1, 2, 3, 6, 7, 8, 9, 10, 11, 12, 13, 14, 15, 16, 17, 18, 19, 20, 21, 22, 23, 24, 25, 26, 27, 42, 72, 89, 94, 131, 159, 194], cut := [(23, [1, 2, 3, 13], [3]), (14, [1, 2, 3, 7, 10], [3]), (20, [1, 2, 3], [3]), (24, [1, 2, 3, 13], [3]), (34, [1, 2, 3, 13, 14, 17], [3]), (40, [1, 2], []), (48, [1, 2], [])], orc := ofList [awakeE, smallE, rootBytesE, rootBytesRE, parseRootE, sameRootE, leafBytesE, leafBytesRE, parseLeafE, sameE] }
noncomputable def code_8_ : Code := (Try.f8.body).getD .skip
noncomputable def code_8_1_1_1_1_1 : Code := codeAt code_8_ [1, 1, 1, 1, 1]
noncomputable def code_8_1_1_1_1_1_1 : Code := codeAt code_8_ [1, 1, 1, 1, 1, 1]
noncomputable def code_8_1_1_1_1_1_1_1 : Code := codeAt code_8_ [1, 1, 1, 1, 1, 1, 1]
noncomputable def code_8_1_1_1_1_1_1_0_1_0_0 : Code := codeAt code_8_ [1, 1, 1, 1, 1, 1, 0, 1, 0, 0]
noncomputable def code_8_1_1_1_1_1_1_1_1_1_1 : Code := codeAt code_8_ [1, 1, 1, 1, 1, 1, 1, 1, 1, 1]
noncomputable def code_8_1_1_1_1_1_1_0_1_0_0_1_1 : Code := codeAt code_8_ [1, 1, 1, 1, 1, 1, 0, 1, 0, 0, 1, 1]
noncomputable def code_8_1_1_1_1_1_1_0_1_0_0_1_0_0_1_1_1 : Code := codeAt code_8_ [1, 1, 1, 1, 1, 1, 0, 1, 0, 0, 1, 0, 0, 1, 1, 1]
theorem lawT_r (r : Root) (ls : List Lf) (no : Int) (s : Txt) (Q : AVal → Sto → Prop) : vc Try.prog cLawT code_8_ (endK Try.prog Try.f8.results.toList Q) (St.start Try.f8.ntmps [.agg [.slice (strv r.1) 1 .ro, .slice (iv r.2) 1 .ro, .slice (lfv ls) 3 .ro], .int .i64 no, .str s] (Sto.empty)) =
  (gb (Go.Proofs.Ytlfnmhfmikomkaa.rootG (AVal.agg [AVal.slice (strv (Prod.fst r)) 1 Tag.ro, AVal.slice (iv (Prod.snd r)) 1 Tag.ro]) && (List.all (lfv ls) lfIs && (Go.Proofs.Ytlfnmhfmikomkaa.lenOk (List.length (lfv ls)) && List.all (lfv ls) Go.Proofs.Ytlfnmhfmikomkaa.lfG))) (brV (!hold (Go.Proofs.Ytlfnmhfmikomkaa.smallB (List.map AVal.strOf (strv (Prod.fst r)), List.map AVal.intOf (iv (Prod.snd r))) (List.map lfOf (lfv ls)))) false (brV (hold (decide ((2000 : Int) < (↑(List.length s) : Int)))) true (Q (AVal.bool true) Sto.empty) (∀ (y : Txt × Int), y = Go.Proofs.Ytlfnmhfmikomkaa.rootN (List.map AVal.strOf (strv (Prod.fst r)), List.map AVal.intOf (iv (Prod.snd r))) → gb (Go.Proofs.Ytlfnmhfmikomkaa.rootM2 (AVal.agg [AVal.slice (strv (Prod.fst r)) 1 Tag.ro, AVal.slice (iv (Prod.snd r)) 1 Tag.ro])) (∀ (y_1 : Txt × Int), y_1 = Go.Proofs.Ytlfnmhfmikomkaa.rootN (List.map AVal.strOf (strv (Prod.fst r)), List.map AVal.intOf (iv (Prod.snd r))) → gb (Go.Proofs.Ytlfnmhfmikomkaa.rootM2 (AVal.agg [AVal.slice (strv (Prod.fst r)) 1 Tag.ro, AVal.slice (iv (Prod.snd r)) 1 Tag.ro]) && Go.Proofs.Ytlfnmhfmikomkaa.rootH (AVal.agg [AVal.slice (strv (Prod.fst r)) 1 Tag.ro, AVal.slice (iv (Prod.snd r)) 1 Tag.ro])) (brV (!hold ((Prod.snd y_1 == (0 : Int)) == hold (Prod.snd y == (0 : Int)))) false (brV (hold !Prod.fst y == Prod.fst y_1) false (brV (!Prod.snd y_1 == (0 : Int)) true (brV (hold (Prod.snd y != (2 : Int))) true (Q (AVal.bool false) Sto.empty) (cutV (vc Try.prog cLawT code_8_1_1_1_1_1 (endK Try.prog (Array.toList (Go.Func.results Try.f8)) Q)) (St.mk 232 [(1, AVal.int IntKind.i64 no), (2, AVal.str s), (3, AVal.ptr (Oid.loc 3) 0), (7, AVal.str (Prod.fst y)), (10, AVal.bool (Prod.snd y_1 == (0 : Int)))] [] [(3, AObj.cells [AVal.slice (strv (Prod.fst r)) 1 Tag.ro, AVal.slice (iv (Prod.snd r)) 1 Tag.ro, AVal.slice (lfv ls) 3 Tag.ro])] Sto.empty))) (cutV (vc Try.prog cLawT code_8_1_1_1_1_1 (endK Try.prog (Array.toList (Go.Func.results Try.f8)) Q)) (St.mk 232 [(1, AVal.int IntKind.i64 no), (2, AVal.str s), (3, AVal.ptr (Oid.loc 3) 0), (7, AVal.str (Prod.fst y)), (10, AVal.bool (Prod.snd y_1 == (0 : Int)))] [] [(3, AObj.cells [AVal.slice (strv (Prod.fst r)) 1 Tag.ro, AVal.slice (iv (Prod.snd r)) 1 Tag.ro, AVal.slice (lfv ls) 3 Tag.ro])] Sto.empty))) (Q (AVal.bool false) Sto.empty)) (Q (AVal.bool false) Sto.empty))))) (Q (AVal.bool true) Sto.empty))) := by kernel_rfl
theorem lawT_i (r : Root) (ls : List Lf) (no : Int) (s : Txt) (Q : AVal → Sto → Prop) (ho : OrcOk Try.prog cLawT) (h : gb (Go.Proofs.Ytlfnmhfmikomkaa.rootG (AVal.agg [AVal.slice (strv (Prod.fst r)) 1 Tag.ro, AVal.slice (iv (Prod.snd r)) 1 Tag.ro]) && (List.all (lfv ls) lfIs && (Go.Proofs.Ytlfnmhfmikomkaa.lenOk (List.length (lfv ls)) && List.all (lfv ls) Go.Proofs.Ytlfnmhfmikomkaa.lfG))) (brV (!hold (Go.Proofs.Ytlfnmhfmikomkaa.smallB (List.map AVal.strOf (strv (Prod.fst r)), List.map AVal.intOf (iv (Prod.snd r))) (List.map lfOf (lfv ls)))) false (brV (hold (decide ((2000 : Int) < (↑(List.length s) : Int)))) true (Q (AVal.bool true) Sto.empty) (∀ (y : Txt × Int), y = Go.Proofs.Ytlfnmhfmikomkaa.rootN (List.map AVal.strOf (strv (Prod.fst r)), List.map AVal.intOf (iv (Prod.snd r))) → gb (Go.Proofs.Ytlfnmhfmikomkaa.rootM2 (AVal.agg [AVal.slice (strv (Prod.fst r)) 1 Tag.ro, AVal.slice (iv (Prod.snd r)) 1 Tag.ro])) (∀ (y_1 : Txt × Int), y_1 = Go.Proofs.Ytlfnmhfmikomkaa.rootN (List.map AVal.strOf (strv (Prod.fst r)), List.map AVal.intOf (iv (Prod.snd r))) → gb (Go.Proofs.Ytlfnmhfmikomkaa.rootM2 (AVal.agg [AVal.slice (strv (Prod.fst r)) 1 Tag.ro, AVal.slice (iv (Prod.snd r)) 1 Tag.ro]) && Go.Proofs.Ytlfnmhfmikomkaa.rootH (AVal.agg [AVal.slice (strv (Prod.fst r)) 1 Tag.ro, AVal.slice (iv (Prod.snd r)) 1 Tag.ro])) (brV (!hold ((Prod.snd y_1 == (0 : Int)) == hold (Prod.snd y == (0 : Int)))) false (brV (hold !Prod.fst y == Prod.fst y_1) false (brV (!Prod.snd y_1 == (0 : Int)) true (brV (hold (Prod.snd y != (2 : Int))) true (Q (AVal.bool false) Sto.empty) (cutV (vc Try.prog cLawT code_8_1_1_1_1_1 (endK Try.prog (Array.toList (Go.Func.results Try.f8)) Q)) (St.mk 232 [(1, AVal.int IntKind.i64 no), (2, AVal.str s), (3, AVal.ptr (Oid.loc 3) 0), (7, AVal.str (Prod.fst y)), (10, AVal.bool (Prod.snd y_1 == (0 : Int)))] [] [(3, AObj.cells [AVal.slice (strv (Prod.fst r)) 1 Tag.ro, AVal.slice (iv (Prod.snd r)) 1 Tag.ro, AVal.slice (lfv ls) 3 Tag.ro])] Sto.empty))) (cutV (vc Try.prog cLawT code_8_1_1_1_1_1 (endK Try.prog (Array.toList (Go.Func.results Try.f8)) Q)) (St.mk 232 [(1, AVal.int IntKind.i64 no), (2, AVal.str s), (3, AVal.ptr (Oid.loc 3) 0), (7, AVal.str (Prod.fst y)), (10, AVal.bool (Prod.snd y_1 == (0 : Int)))] [] [(3, AObj.cells [AVal.slice (strv (Prod.fst r)) 1 Tag.ro, AVal.slice (iv (Prod.snd r)) 1 Tag.ro, AVal.slice (lfv ls) 3 Tag.ro])] Sto.empty))) (Q (AVal.bool false) Sto.empty)) (Q (AVal.bool false) Sto.empty))))) (Q (AVal.bool true) Sto.empty))) : ACall Try.prog 8 [.agg [.slice (strv r.1) 1 .ro, .slice (iv r.2) 1 .ro, .slice (lfv ls) 3 .ro], .int .i64 no, .str s] (Sto.empty) Q :=
  ACall.intro hmix Try.func8 (c := code_8_) (by kernel_rfl) cLawT ho (Nat.le_of_ble_eq_true (by kernel_rfl)) (by rw [lawT_r]; exact h)
noncomputable def lawTA_S (r : Root) (ls : List Lf) (no : Int) (s b : Txt) (ok : Bool) : St := St.mk 232 [(1, .int .i64 no), (2, .str s), (3, .ptr (.loc 3) 0), (7, .str b), (10, .bool ok)] [] [(3, .cells [.slice (strv r.1) 1 .ro, .slice (iv r.2) 1 .ro, .slice (lfv ls) 3 .ro])] (Sto.empty)
noncomputable abbrev lawTA_C : Code := code_8_1_1_1_1_1
theorem lawTA_r (r : Root) (ls : List Lf) (no : Int) (s b : Txt) (ok : Bool) (K : Exit → St → Prop) : vc Try.prog cLawT code_8_1_1_1_1_1 K (St.mk 232 [(1, .int .i64 no), (2, .str s), (3, .ptr (.loc 3) 0), (7, .str b), (10, .bool ok)] [] [(3, .cells [.slice (strv r.1) 1 .ro, .slice (iv r.2) 1 .ro, .slice (lfv ls) 3 .ro])] (Sto.empty)) =
  (∀ (y : Root × Int), y = Go.Proofs.Ytlfnmhfmikomkaa.parseRootN b → gb (Go.Proofs.Ytlfnmhfmikomkaa.lenB (List.length b + 200000)) (brV ok true (brV (hold (Prod.snd y != (0 : Int))) false (gb (Go.Proofs.Ytlfnmhfmikomkaa.rootG (AVal.agg [AVal.slice (strv (Prod.fst (Prod.fst y))) 1 Tag.ro, AVal.slice (iv (Prod.snd (Prod.fst y))) 1 Tag.ro]) && Go.Proofs.Ytlfnmhfmikomkaa.rootG (AVal.agg [AVal.slice (strv (Prod.fst r)) 1 Tag.ro, AVal.slice (iv (Prod.snd r)) 1 Tag.ro])) (brV (!hold ((List.map AVal.strOf (strv (Prod.fst (Prod.fst y))), List.map AVal.intOf (iv (Prod.snd (Prod.fst y)))) == (List.map AVal.strOf (strv (Prod.fst r)), List.map AVal.intOf (iv (Prod.snd r))))) true (K Exit.ret (St.mk 232 [(1, AVal.int IntKind.i64 no), (2, AVal.str s), (3, AVal.ptr (Oid.loc 3) 0), (7, AVal.str b), (10, AVal.bool ok), (11, AVal.ptr (Oid.loc 11) 0), (12, AVal.int IntKind.i64 (Prod.snd y)), (89, AVal.bool !hold ((List.map AVal.strOf (strv (Prod.fst (Prod.fst y))), List.map AVal.intOf (iv (Prod.snd (Prod.fst y)))) == (List.map AVal.strOf (strv (Prod.fst r)), List.map AVal.intOf (iv (Prod.snd r))))), (6, AVal.bool false)] [] [(3, AObj.cells [AVal.slice (strv (Prod.fst r)) 1 Tag.ro, AVal.slice (iv (Prod.snd r)) 1 Tag.ro, AVal.slice (lfv ls) 3 Tag.ro]), (11, AObj.cells [AVal.slice (strv (Prod.fst (Prod.fst y))) 1 Tag.ro, AVal.slice (iv (Prod.snd (Prod.fst y))) 1 Tag.ro])] Sto.empty)) (cutV (vc Try.prog cLawT code_8_1_1_1_1_1_1 K) (St.mk 232 [(1, AVal.int IntKind.i64 no), (2, AVal.str s), (3, AVal.ptr (Oid.loc 3) 0)] [] [(3, AObj.cells [AVal.slice (strv (Prod.fst r)) 1 Tag.ro, AVal.slice (iv (Prod.snd r)) 1 Tag.ro, AVal.slice (lfv ls) 3 Tag.ro])] Sto.empty)))) (K Exit.ret (St.mk 232 [(1, AVal.int IntKind.i64 no), (2, AVal.str s), (3, AVal.ptr (Oid.loc 3) 0), (7, AVal.str b), (10, AVal.bool ok), (11, AVal.ptr (Oid.loc 11) 0), (12, AVal.int IntKind.i64 (Prod.snd y)), (89, AVal.bool true), (6, AVal.bool false)] [] [(3, AObj.cells [AVal.slice (strv (Prod.fst r)) 1 Tag.ro, AVal.slice (iv (Prod.snd r)) 1 Tag.ro, AVal.slice (lfv ls) 3 Tag.ro]), (11, AObj.cells [AVal.slice (strv (Prod.fst (Prod.fst y))) 1 Tag.ro, AVal.slice (iv (Prod.snd (Prod.fst y))) 1 Tag.ro])] Sto.empty))) (cutV (vc Try.prog cLawT code_8_1_1_1_1_1_1 K) (St.mk 232 [(1, AVal.int IntKind.i64 no), (2, AVal.str s), (3, AVal.ptr (Oid.loc 3) 0)] [] [(3, AObj.cells [AVal.slice (strv (Prod.fst r)) 1 Tag.ro, AVal.slice (iv (Prod.snd r)) 1 Tag.ro, AVal.slice (lfv ls) 3 Tag.ro])] Sto.empty)))) := by kernel_rfl
noncomputable def lawTB_S (r : Root) (ls : List Lf) (no : Int) (s : Txt) : St := St.mk 232 [(1, .int .i64 no), (2, .str s), (3, .ptr (.loc 3) 0)] [] [(3, .cells [.slice (strv r.1) 1 .ro, .slice (iv r.2) 1 .ro, .slice (lfv ls) 3 .ro])] (Sto.empty)
noncomputable abbrev lawTB_C : Code := code_8_1_1_1_1_1_1
theorem lawTB_r (r : Root) (ls : List Lf) (no : Int) (s : Txt) (K : Exit → St → Prop) : vc Try.prog cLawT code_8_1_1_1_1_1_1 K (St.mk 232 [(1, .int .i64 no), (2, .str s), (3, .ptr (.loc 3) 0)] [] [(3, .cells [.slice (strv r.1) 1 .ro, .slice (iv r.2) 1 .ro, .slice (lfv ls) 3 .ro])] (Sto.empty)) =
  (loopV (fun s => St.norm [] [1, 2, 3, 13] [3] s) (vc Try.prog cLawT code_8_1_1_1_1_1_1_0_1_0_0) (blockK 0 (thenK (fun s => cutV (vc Try.prog cLawT code_8_1_1_1_1_1_1_1 K) (St.norm [] [1, 2] [] s)) K)) (St.mk 232 [(1, AVal.int IntKind.i64 no), (2, AVal.str s), (3, AVal.ptr (Oid.loc 3) 0), (13, AVal.int IntKind.i64 (0 : Int))] [] [(3, AObj.cells [AVal.slice (strv (Prod.fst r)) 1 Tag.ro, AVal.slice (iv (Prod.snd r)) 1 Tag.ro, AVal.slice (lfv ls) 3 Tag.ro])] Sto.empty)) := by kernel_rfl
noncomputable def lawTL_S (r : Root) (ls : List Lf) (no : Int) (s : Txt) (i : Nat) : St := St.mk 232 [(1, .int .i64 no), (2, .str s), (3, .ptr (.loc 3) 0), (13, .int .i64 (i : Int))] [] [(3, .cells [.slice (strv r.1) 1 .ro, .slice (iv r.2) 1 .ro, .slice (lfv ls) 3 .ro])] (Sto.empty)
noncomputable abbrev lawTL_C : Code := code_8_1_1_1_1_1_1_0_1_0_0
theorem lawTL_r (r : Root) (ls : List Lf) (no : Int) (s : Txt) (i : Nat) (L : St → Prop) (K : Exit → St → Prop) : vc Try.prog cLawT code_8_1_1_1_1_1_1_0_1_0_0 (thenK (fun s => L (St.norm [] [1, 2, 3, 13] [3] s)) K) (St.mk 232 [(1, .int .i64 no), (2, .str s), (3, .ptr (.loc 3) 0), (13, .int .i64 (i : Int))] [] [(3, .cells [.slice (strv r.1) 1 .ro, .slice (iv r.2) 1 .ro, .slice (lfv ls) 3 .ro])] (Sto.empty)) =
  (brV (hold (decide ((↑i : Int) < (↑(List.length (lfv ls)) : Int)))) true (gb (decide ((0 : Int) ≤ (↑i : Int) ∧ (↑i : Int) < (↑(List.length (lfv ls)) : Int))) (gb (decide (3 ≤ List.length (elemAt (lfv ls) (↑i : Int)) ∧ 0 < 3) && (etaOk (Sh.int IntKind.i64) (List.getD (elemAt (lfv ls) (↑i : Int)) 0 AVal.undef) && (sliceOk 1 (List.getD (elemAt (lfv ls) (↑i : Int)) 1 AVal.undef) && (etaOk Sh.bool (List.getD (elemAt (lfv ls) (↑i : Int)) 2 AVal.undef) && true)))) (∀ (y : Txt × Int), y = Go.Proofs.Ytlfnmhfmikomkaa.leafN (AVal.intOf (List.getD (elemAt (lfv ls) (↑i : Int)) 0 AVal.undef), List.map AVal.strOf (AVal.elems (List.getD (elemAt (lfv ls) (↑i : Int)) 1 AVal.undef)), AVal.boolOf (List.getD (elemAt (lfv ls) (↑i : Int)) 2 AVal.undef)) → gb (Go.Proofs.Ytlfnmhfmikomkaa.lfM2 (AVal.agg [AVal.int IntKind.i64 (AVal.intOf (List.getD (elemAt (lfv ls) (↑i : Int)) 0 AVal.undef)), AVal.slice (AVal.elems (List.getD (elemAt (lfv ls) (↑i : Int)) 1 AVal.undef)) 1 Tag.ro, AVal.bool (AVal.boolOf (List.getD (elemAt (lfv ls) (↑i : Int)) 2 AVal.undef))])) (gb (decide ((0 : Int) ≤ (↑i : Int) ∧ (↑i : Int) < (↑(List.length (lfv ls)) : Int))) (gb (decide (3 ≤ List.length (elemAt (lfv ls) (↑i : Int)) ∧ 0 < 3) && (etaOk (Sh.int IntKind.i64) (List.getD (elemAt (lfv ls) (↑i : Int)) 0 AVal.undef) && (sliceOk 1 (List.getD (elemAt (lfv ls) (↑i : Int)) 1 AVal.undef) && (etaOk Sh.bool (List.getD (elemAt (lfv ls) (↑i : Int)) 2 AVal.undef) && true)))) (∀ (y_1 : Txt × Int), y_1 = Go.Proofs.Ytlfnmhfmikomkaa.leafN (AVal.intOf (List.getD (elemAt (lfv ls) (↑i : Int)) 0 AVal.undef), List.map AVal.strOf (AVal.elems (List.getD (elemAt (lfv ls) (↑i : Int)) 1 AVal.undef)), AVal.boolOf (List.getD (elemAt (lfv ls) (↑i : Int)) 2 AVal.undef)) → gb (Go.Proofs.Ytlfnmhfmikomkaa.lfM2 (AVal.agg [AVal.int IntKind.i64 (AVal.intOf (List.getD (elemAt (lfv ls) (↑i : Int)) 0 AVal.undef)), AVal.slice (AVal.elems (List.getD (elemAt (lfv ls) (↑i : Int)) 1 AVal.undef)) 1 Tag.ro, AVal.bool (AVal.boolOf (List.getD (elemAt (lfv ls) (↑i : Int)) 2 AVal.undef))]) && Go.Proofs.Ytlfnmhfmikomkaa.lfH (AVal.agg [AVal.int IntKind.i64 (AVal.intOf (List.getD (elemAt (lfv ls) (↑i : Int)) 0 AVal.undef)), AVal.slice (AVal.elems (List.getD (elemAt (lfv ls) (↑i : Int)) 1 AVal.undef)) 1 Tag.ro, AVal.bool (AVal.boolOf (List.getD (elemAt (lfv ls) (↑i : Int)) 2 AVal.undef))])) (brV (!hold ((Prod.snd y_1 == (0 : Int)) == hold (Prod.snd y == (0 : Int)))) false (brV (hold !Prod.fst y == Prod.fst y_1) false (brV (!Prod.snd y_1 == (0 : Int)) true (brV (hold (Prod.snd y != (2 : Int))) true (K Exit.ret (St.mk 232 [(1, AVal.int IntKind.i64 no), (2, AVal.str s), (3, AVal.ptr (Oid.loc 3) 0), (13, AVal.int IntKind.i64 (↑i : Int)), (94, AVal.bool (hold (decide ((↑i : Int) < (↑(List.length (lfv ls)) : Int))))), (14, AVal.str (Prod.fst y)), (15, AVal.int IntKind.i64 (Prod.snd y)), (16, AVal.str (Prod.fst y_1)), (17, AVal.bool (Prod.snd y_1 == (0 : Int))), (131, AVal.bool (hold (Prod.snd y != (2 : Int)))), (6, AVal.bool false)] [] [(3, AObj.cells [AVal.slice (strv (Prod.fst r)) 1 Tag.ro, AVal.slice (iv (Prod.snd r)) 1 Tag.ro, AVal.slice (lfv ls) 3 Tag.ro])] Sto.empty)) (cutV (vc Try.prog cLawT code_8_1_1_1_1_1_1_0_1_0_0_1_0_0_1_1_1 (blockK 1 (thenK (fun s => cutV (vc Try.prog cLawT code_8_1_1_1_1_1_1_0_1_0_0_1_1 (thenK (fun s => L (St.norm [] [1, 2, 3, 13] [3] s)) K)) (St.norm [] [1, 2, 3, 13] [3] s)) (thenK (fun s => L (St.norm [] [1, 2, 3, 13] [3] s)) K)))) (St.mk 232 [(1, AVal.int IntKind.i64 no), (2, AVal.str s), (3, AVal.ptr (Oid.loc 3) 0), (13, AVal.int IntKind.i64 (↑i : Int)), (14, AVal.str (Prod.fst y)), (17, AVal.bool (Prod.snd y_1 == (0 : Int)))] [] [(3, AObj.cells [AVal.slice (strv (Prod.fst r)) 1 Tag.ro, AVal.slice (iv (Prod.snd r)) 1 Tag.ro, AVal.slice (lfv ls) 3 Tag.ro])] Sto.empty))) (cutV (vc Try.prog cLawT code_8_1_1_1_1_1_1_0_1_0_0_1_0_0_1_1_1 (blockK 1 (thenK (fun s => cutV (vc Try.prog cLawT code_8_1_1_1_1_1_1_0_1_0_0_1_1 (thenK (fun s => L (St.norm [] [1, 2, 3, 13] [3] s)) K)) (St.norm [] [1, 2, 3, 13] [3] s)) (thenK (fun s => L (St.norm [] [1, 2, 3, 13] [3] s)) K)))) (St.mk 232 [(1, AVal.int IntKind.i64 no), (2, AVal.str s), (3, AVal.ptr (Oid.loc 3) 0), (13, AVal.int IntKind.i64 (↑i : Int)), (14, AVal.str (Prod.fst y)), (17, AVal.bool (Prod.snd y_1 == (0 : Int)))] [] [(3, AObj.cells [AVal.slice (strv (Prod.fst r)) 1 Tag.ro, AVal.slice (iv (Prod.snd r)) 1 Tag.ro, AVal.slice (lfv ls) 3 Tag.ro])] Sto.empty))) (K Exit.ret (St.mk 232 [(1, AVal.int IntKind.i64 no), (2, AVal.str s), (3, AVal.ptr (Oid.loc 3) 0), (13, AVal.int IntKind.i64 (↑i : Int)), (94, AVal.bool (hold (decide ((↑i : Int) < (↑(List.length (lfv ls)) : Int))))), (14, AVal.str (Prod.fst y)), (15, AVal.int IntKind.i64 (Prod.snd y)), (16, AVal.str (Prod.fst y_1)), (17, AVal.bool (Prod.snd y_1 == (0 : Int))), (131, AVal.bool true), (6, AVal.bool false)] [] [(3, AObj.cells [AVal.slice (strv (Prod.fst r)) 1 Tag.ro, AVal.slice (iv (Prod.snd r)) 1 Tag.ro, AVal.slice (lfv ls) 3 Tag.ro])] Sto.empty))) (K Exit.ret (St.mk 232 [(1, AVal.int IntKind.i64 no), (2, AVal.str s), (3, AVal.ptr (Oid.loc 3) 0), (13, AVal.int IntKind.i64 (↑i : Int)), (94, AVal.bool (hold (decide ((↑i : Int) < (↑(List.length (lfv ls)) : Int))))), (14, AVal.str (Prod.fst y)), (15, AVal.int IntKind.i64 (Prod.snd y)), (16, AVal.str (Prod.fst y_1)), (17, AVal.bool (Prod.snd y_1 == (0 : Int))), (131, AVal.bool true), (6, AVal.bool false)] [] [(3, AObj.cells [AVal.slice (strv (Prod.fst r)) 1 Tag.ro, AVal.slice (iv (Prod.snd r)) 1 Tag.ro, AVal.slice (lfv ls) 3 Tag.ro])] Sto.empty))))))))) (K (Exit.exit 0) (St.mk 232 [(1, AVal.int IntKind.i64 no), (2, AVal.str s), (3, AVal.ptr (Oid.loc 3) 0), (13, AVal.int IntKind.i64 (↑i : Int)), (94, AVal.bool (hold (decide ((↑i : Int) < (↑(List.length (lfv ls)) : Int)))))] [] [(3, AObj.cells [AVal.slice (strv (Prod.fst r)) 1 Tag.ro, AVal.slice (iv (Prod.snd r)) 1 Tag.ro, AVal.slice (lfv ls) 3 Tag.ro])] Sto.empty))) := by kernel_rfl
noncomputable def lawTC_S (r : Root) (ls : List Lf) (no : Int) (s c : Txt) (i : Nat) (ok : Bool) : St := St.mk 232 [(1, .int .i64 no), (2, .str s), (3, .ptr (.loc 3) 0), (13, .int .i64 (i : Int)), (14, .str c), (17, .bool ok)] [] [(3, .cells [.slice (strv r.1) 1 .ro, .slice (iv r.2) 1 .ro, .slice (lfv ls) 3 .ro])] (Sto.empty)
noncomputable abbrev lawTC_C : Code := code_8_1_1_1_1_1_1_0_1_0_0_1_0_0_1_1_1
theorem lawTC_r (r : Root) (ls : List Lf) (no : Int) (s c : Txt) (i : Nat) (ok : Bool) (K : Exit → St → Prop) : vc Try.prog cLawT code_8_1_1_1_1_1_1_0_1_0_0_1_0_0_1_1_1 K (St.mk 232 [(1, .int .i64 no), (2, .str s), (3, .ptr (.loc 3) 0), (13, .int .i64 (i : Int)), (14, .str c), (17, .bool ok)] [] [(3, .cells [.slice (strv r.1) 1 .ro, .slice (iv r.2) 1 .ro, .slice (lfv ls) 3 .ro])] (Sto.empty)) =
  (gb (decide ((0 : Int) ≤ (↑i : Int) ∧ (↑i : Int) < (↑(List.length (lfv ls)) : Int))) (gb (decide (1 ≤ List.length (List.drop 0 (elemAt (lfv ls) (↑i : Int))) ∧ 0 < 1) && etaOk (Sh.int IntKind.i64) (List.getD (List.drop 0 (elemAt (lfv ls) (↑i : Int))) 0 AVal.undef)) (∀ (y : Lf × Int), y = Go.Proofs.Ytlfnmhfmikomkaa.parseLeafN (AVal.intOf (List.getD (List.drop 0 (elemAt (lfv ls) (↑i : Int))) 0 AVal.undef)) c → gb (Go.Proofs.Ytlfnmhfmikomkaa.lenB (List.length c)) (brV ok true (brV (hold (Prod.snd y != (0 : Int))) false (gb (decide ((0 : Int) ≤ (↑i : Int) ∧ (↑i : Int) ≤ IntKind.wrap IntKind.i64 ((↑i : Int) + (1 : Int)) ∧ IntKind.wrap IntKind.i64 ((↑i : Int) + (1 : Int)) ≤ (↑(List.length (lfv ls)) : Int))) (gb (List.all [AVal.agg [AVal.int IntKind.i64 (Prod.fst (Prod.fst y)), AVal.slice (strv (Prod.fst (Prod.snd (Prod.fst y)))) 1 Tag.ro, AVal.bool (Prod.snd (Prod.snd (Prod.fst y)))]] lfIs && (List.all (List.take (Int.toNat (IntKind.wrap IntKind.i64 ((↑i : Int) + (1 : Int))) - Int.toNat (↑i : Int)) (List.drop (Int.toNat (↑i : Int)) (lfv ls))) lfIs && (Go.Proofs.Ytlfnmhfmikomkaa.lenOk 1 && List.all [AVal.agg [AVal.int IntKind.i64 (Prod.fst (Prod.fst y)), AVal.slice (strv (Prod.fst (Prod.snd (Prod.fst y)))) 1 Tag.ro, AVal.bool (Prod.snd (Prod.snd (Prod.fst y)))]] Go.Proofs.Ytlfnmhfmikomkaa.lfG))) (brV (!hold ([(Prod.fst (Prod.fst y), List.map AVal.strOf (strv (Prod.fst (Prod.snd (Prod.fst y)))), Prod.snd (Prod.snd (Prod.fst y)))] == List.map lfOf (List.take (Int.toNat (IntKind.wrap IntKind.i64 ((↑i : Int) + (1 : Int))) - Int.toNat (↑i : Int)) (List.drop (Int.toNat (↑i : Int)) (lfv ls))))) true (K Exit.ret (St.mk 232 [(1, AVal.int IntKind.i64 no), (2, AVal.str s), (3, AVal.ptr (Oid.loc 3) 0), (13, AVal.int IntKind.i64 (↑i : Int)), (14, AVal.str c), (17, AVal.bool ok), (18, AVal.ptr (Oid.loc 18) 0), (19, AVal.int IntKind.i64 (Prod.snd y)), (159, AVal.bool !hold ([(Prod.fst (Prod.fst y), List.map AVal.strOf (strv (Prod.fst (Prod.snd (Prod.fst y)))), Prod.snd (Prod.snd (Prod.fst y)))] == List.map lfOf (List.take (Int.toNat (IntKind.wrap IntKind.i64 ((↑i : Int) + (1 : Int))) - Int.toNat (↑i : Int)) (List.drop (Int.toNat (↑i : Int)) (lfv ls))))), (6, AVal.bool false)] [] [(3, AObj.cells [AVal.slice (strv (Prod.fst r)) 1 Tag.ro, AVal.slice (iv (Prod.snd r)) 1 Tag.ro, AVal.slice (lfv ls) 3 Tag.ro]), (18, AObj.cells [AVal.int IntKind.i64 (Prod.fst (Prod.fst y)), AVal.slice (strv (Prod.fst (Prod.snd (Prod.fst y)))) 1 Tag.ro, AVal.bool (Prod.snd (Prod.snd (Prod.fst y)))])] Sto.empty)) (K Exit.normal (St.mk 232 [(1, AVal.int IntKind.i64 no), (2, AVal.str s), (3, AVal.ptr (Oid.loc 3) 0), (13, AVal.int IntKind.i64 (↑i : Int)), (14, AVal.str c), (17, AVal.bool ok), (18, AVal.ptr (Oid.loc 18) 0), (19, AVal.int IntKind.i64 (Prod.snd y)), (159, AVal.bool !hold ([(Prod.fst (Prod.fst y), List.map AVal.strOf (strv (Prod.fst (Prod.snd (Prod.fst y)))), Prod.snd (Prod.snd (Prod.fst y)))] == List.map lfOf (List.take (Int.toNat (IntKind.wrap IntKind.i64 ((↑i : Int) + (1 : Int))) - Int.toNat (↑i : Int)) (List.drop (Int.toNat (↑i : Int)) (lfv ls)))))] [] [(3, AObj.cells [AVal.slice (strv (Prod.fst r)) 1 Tag.ro, AVal.slice (iv (Prod.snd r)) 1 Tag.ro, AVal.slice (lfv ls) 3 Tag.ro]), (18, AObj.cells [AVal.int IntKind.i64 (Prod.fst (Prod.fst y)), AVal.slice (strv (Prod.fst (Prod.snd (Prod.fst y)))) 1 Tag.ro, AVal.bool (Prod.snd (Prod.snd (Prod.fst y)))])] Sto.empty))))) (K Exit.ret (St.mk 232 [(1, AVal.int IntKind.i64 no), (2, AVal.str s), (3, AVal.ptr (Oid.loc 3) 0), (13, AVal.int IntKind.i64 (↑i : Int)), (14, AVal.str c), (17, AVal.bool ok), (18, AVal.ptr (Oid.loc 18) 0), (19, AVal.int IntKind.i64 (Prod.snd y)), (159, AVal.bool true), (6, AVal.bool false)] [] [(3, AObj.cells [AVal.slice (strv (Prod.fst r)) 1 Tag.ro, AVal.slice (iv (Prod.snd r)) 1 Tag.ro, AVal.slice (lfv ls) 3 Tag.ro]), (18, AObj.cells [AVal.int IntKind.i64 (Prod.fst (Prod.fst y)), AVal.slice (strv (Prod.fst (Prod.snd (Prod.fst y)))) 1 Tag.ro, AVal.bool (Prod.snd (Prod.snd (Prod.fst y)))])] Sto.empty))) (K Exit.normal (St.mk 232 [(1, AVal.int IntKind.i64 no), (2, AVal.str s), (3, AVal.ptr (Oid.loc 3) 0), (13, AVal.int IntKind.i64 (↑i : Int)), (14, AVal.str c), (17, AVal.bool ok), (18, AVal.ptr (Oid.loc 18) 0), (19, AVal.int IntKind.i64 (Prod.snd y)), (159, AVal.bool false)] [] [(3, AObj.cells [AVal.slice (strv (Prod.fst r)) 1 Tag.ro, AVal.slice (iv (Prod.snd r)) 1 Tag.ro, AVal.slice (lfv ls) 3 Tag.ro]), (18, AObj.cells [AVal.int IntKind.i64 (Prod.fst (Prod.fst y)), AVal.slice (strv (Prod.fst (Prod.snd (Prod.fst y)))) 1 Tag.ro, AVal.bool (Prod.snd (Prod.snd (Prod.fst y)))])] Sto.empty)))))) := by kernel_rfl
noncomputable def lawTD_S (no : Int) (s : Txt) : St := St.mk 232 [(1, .int .i64 no), (2, .str s)] [] [] (Sto.empty)
noncomputable abbrev lawTD_C : Code := code_8_1_1_1_1_1_1_1
theorem lawTD_r (no : Int) (s : Txt) (Q : AVal → Sto → Prop) : vc Try.prog cLawT code_8_1_1_1_1_1_1_1 (endK Try.prog Try.f8.results.toList Q) (St.mk 232 [(1, .int .i64 no), (2, .str s)] [] [] (Sto.empty)) =
  (∀ (y : Root × Int), y = Go.Proofs.Ytlfnmhfmikomkaa.parseRootN s → gb (Go.Proofs.Ytlfnmhfmikomkaa.lenB (List.length s + 200000)) (∀ (y_1 : Txt × Int), y_1 = Go.Proofs.Ytlfnmhfmikomkaa.rootN (List.map AVal.strOf (strv (Prod.fst (Prod.fst y))), List.map AVal.intOf (iv (Prod.snd (Prod.fst y)))) → gb (Go.Proofs.Ytlfnmhfmikomkaa.rootM2 (AVal.agg [AVal.slice (strv (Prod.fst (Prod.fst y))) 1 Tag.ro, AVal.slice (iv (Prod.snd (Prod.fst y))) 1 Tag.ro]) && Go.Proofs.Ytlfnmhfmikomkaa.rootH (AVal.agg [AVal.slice (strv (Prod.fst (Prod.fst y))) 1 Tag.ro, AVal.slice (iv (Prod.snd (Prod.fst y))) 1 Tag.ro])) (brV (hold (Prod.snd y == (0 : Int))) true (brV (!Prod.snd y_1 == (0 : Int)) false (brV (hold !Prod.fst y_1 == s) false (brV (hold (Prod.snd y != (0 : Int))) true (brV (hold (Prod.snd y != (10 : Int))) false (brV (hold ((↑(List.length (iv (Prod.snd (Prod.fst y)))) : Int) != (0 : Int))) true (Q (AVal.bool false) Sto.empty) (cutV (vc Try.prog cLawT code_8_1_1_1_1_1_1_1_1_1_1 (endK Try.prog (Array.toList (Go.Func.results Try.f8)) Q)) (St.mk 232 [(1, AVal.int IntKind.i64 no), (2, AVal.str s)] [] [] Sto.empty))) (Q (AVal.bool false) Sto.empty)) (cutV (vc Try.prog cLawT code_8_1_1_1_1_1_1_1_1_1_1 (endK Try.prog (Array.toList (Go.Func.results Try.f8)) Q)) (St.mk 232 [(1, AVal.int IntKind.i64 no), (2, AVal.str s)] [] [] Sto.empty))) (Q (AVal.bool false) Sto.empty)) (Q (AVal.bool false) Sto.empty)) (brV (hold (Prod.snd y != (0 : Int))) true (brV (hold (Prod.snd y != (10 : Int))) false (brV (hold ((↑(List.length (iv (Prod.snd (Prod.fst y)))) : Int) != (0 : Int))) true (Q (AVal.bool false) Sto.empty) (cutV (vc Try.prog cLawT code_8_1_1_1_1_1_1_1_1_1_1 (endK Try.prog (Array.toList (Go.Func.results Try.f8)) Q)) (St.mk 232 [(1, AVal.int IntKind.i64 no), (2, AVal.str s)] [] [] Sto.empty))) (Q (AVal.bool false) Sto.empty)) (cutV (vc Try.prog cLawT code_8_1_1_1_1_1_1_1_1_1_1 (endK Try.prog (Array.toList (Go.Func.results Try.f8)) Q)) (St.mk 232 [(1, AVal.int IntKind.i64 no), (2, AVal.str s)] [] [] Sto.empty)))))) := by kernel_rfl
noncomputable def lawTE_S (no : Int) (s : Txt) : St := St.mk 232 [(1, .int .i64 no), (2, .str s)] [] [] (Sto.empty)
noncomputable abbrev lawTE_C : Code := code_8_1_1_1_1_1_1_1_1_1_1
theorem lawTE_r (no : Int) (s : Txt) (Q : AVal → Sto → Prop) : vc Try.prog cLawT code_8_1_1_1_1_1_1_1_1_1_1 (endK Try.prog Try.f8.results.toList Q) (St.mk 232 [(1, .int .i64 no), (2, .str s)] [] [] (Sto.empty)) =
  (∀ (y : Lf × Int), y = Go.Proofs.Ytlfnmhfmikomkaa.parseLeafN no s → gb (Go.Proofs.Ytlfnmhfmikomkaa.lenB (List.length s)) (∀ (y_1 : Txt × Int), y_1 = Go.Proofs.Ytlfnmhfmikomkaa.leafN (Prod.fst (Prod.fst y), List.map AVal.strOf (strv (Prod.fst (Prod.snd (Prod.fst y)))), Prod.snd (Prod.snd (Prod.fst y))) → gb (Go.Proofs.Ytlfnmhfmikomkaa.lfM2 (AVal.agg [AVal.int IntKind.i64 (Prod.fst (Prod.fst y)), AVal.slice (strv (Prod.fst (Prod.snd (Prod.fst y)))) 1 Tag.ro, AVal.bool (Prod.snd (Prod.snd (Prod.fst y)))]) && Go.Proofs.Ytlfnmhfmikomkaa.lfH (AVal.agg [AVal.int IntKind.i64 (Prod.fst (Prod.fst y)), AVal.slice (strv (Prod.fst (Prod.snd (Prod.fst y)))) 1 Tag.ro, AVal.bool (Prod.snd (Prod.snd (Prod.fst y)))])) (brV (hold (Prod.snd y == (0 : Int))) true (brV (Prod.snd y_1 == (0 : Int)) true (brV (hold (Prod.fst y_1 == s)) true (brV (hold (Prod.fst (Prod.fst y) == no)) false (brV (hold (Prod.snd y == (10 : Int))) true (Q (AVal.bool (hold ((↑(List.length (strv (Prod.fst (Prod.snd (Prod.fst y))))) : Int) == (0 : Int)))) Sto.empty) (Q (AVal.bool false) Sto.empty)) (Q (AVal.bool true) Sto.empty)) (brV (hold (Prod.snd y == (10 : Int))) true (Q (AVal.bool (hold ((↑(List.length (strv (Prod.fst (Prod.snd (Prod.fst y))))) : Int) == (0 : Int)))) Sto.empty) (Q (AVal.bool false) Sto.empty))) (brV (hold (Prod.snd y == (10 : Int))) true (Q (AVal.bool (hold ((↑(List.length (strv (Prod.fst (Prod.snd (Prod.fst y))))) : Int) == (0 : Int)))) Sto.empty) (Q (AVal.bool false) Sto.empty))) (brV (hold (Prod.snd y == (10 : Int))) true (Q (AVal.bool (hold ((↑(List.length (strv (Prod.fst (Prod.snd (Prod.fst y))))) : Int) == (0 : Int)))) Sto.empty) (Q (AVal.bool false) Sto.empty))))) := by kernel_rfl
noncomputable def lawTI_S (r : Root) (ls : List Lf) (no : Int) (s : Txt) (i : Nat) : St := St.mk 232 [(1, .int .i64 no), (2, .str s), (3, .ptr (.loc 3) 0), (13, .int .i64 (i : Int))] [] [(3, .cells [.slice (strv r.1) 1 .ro, .slice (iv r.2) 1 .ro, .slice (lfv ls) 3 .ro])] (Sto.empty)
noncomputable abbrev lawTI_C : Code := code_8_1_1_1_1_1_1_0_1_0_0_1_1
theorem lawTI_r (r : Root) (ls : List Lf) (no : Int) (s : Txt) (i : Nat) (K : Exit → St → Prop) : vc Try.prog cLawT code_8_1_1_1_1_1_1_0_1_0_0_1_1 K (St.mk 232 [(1, .int .i64 no), (2, .str s), (3, .ptr (.loc 3) 0), (13, .int .i64 (i : Int))] [] [(3, .cells [.slice (strv r.1) 1 .ro, .slice (iv r.2) 1 .ro, .slice (lfv ls) 3 .ro])] (Sto.empty)) =
  (K Exit.normal (St.mk 232 [(1, AVal.int IntKind.i64 no), (2, AVal.str s), (3, AVal.ptr (Oid.loc 3) 0), (13, AVal.int IntKind.i64 (IntKind.wrap IntKind.i64 ((↑i : Int) + (1 : Int))))] [] [(3, AObj.cells [AVal.slice (strv (Prod.fst r)) 1 Tag.ro, AVal.slice (iv (Prod.snd r)) 1 Tag.ro, AVal.slice (lfv ls) 3 Tag.ro])] Sto.empty)) := by kernel_rfl
end Go.Proofs.Ytlfnmhfmikomkaa.Jv
end

section
namespace Go.Proofs.Ytlfnmhfmikomkaa
open Go.AL Jv
set_option linter.unusedSimpArgs false
set_option linter.unusedVariables false
set_option maxHeartbeats 2000000
set_option maxRecDepth 20000

theorem thenNJ {f : St → Prop} {K : Exit → St → Prop} {st : St} (h : f st) : thenK f K .normal st := h
/-! ### There and back -/
theorem numN_two {n : Int} (h0 : 0 ≤ n) (h1 : n ≤ 65535) (t : Txt) : numN (twoB n ++ t) = (n, t, true) := by
  show (((UInt8.ofNat (n / 256 % 256).toNat).toNat : Int) * 256 + ((UInt8.ofNat (n % 256).toNat).toNat : Int), t, true) = _
  rw [UInt8.toNat_ofNat', UInt8.toNat_ofNat']
  have : (((n / 256 % 256).toNat % 2 ^ 8 : Nat) : Int) * 256 + (((n % 256).toNat % 2 ^ 8 : Nat) : Int) = n := by omega
  rw [this]
theorem textN_enc (x t : Txt) (h : x.length ≤ 65535) : textN (twoB (x.length : Int) ++ x ++ t) = (x, t, true) := by
  unfold textN
  rw [List.append_assoc, numN_two (by omega) (by omega)]
  simp
theorem textsN_enc : ∀ (l : List Txt) (t : Txt), (∀ x ∈ l, x.length ≤ 65535) → textsN l.length (encT l ++ t) = some (l, t)
  | [], t, _ => rfl
  | x :: r, t, h => by
    have e : encT (x :: r) ++ t = twoB (x.length : Int) ++ x ++ (encT r ++ t) := by simp [encT]
    rw [e, List.length_cons, textsN, textN_enc x _ (h x (by simp))]
    simp only [if_true]
    rw [textsN_enc r t fun y hy => h y (by simp [hy])]
    rfl
theorem numsN_enc : ∀ (l : List Int) (t : Txt), (∀ x ∈ l, 0 ≤ x ∧ x ≤ 65535) → numsN l.length (encN l ++ t) = some (l, t)
  | [], t, _ => rfl
  | x :: r, t, h => by
    have e : encN (x :: r) ++ t = twoB x ++ (encN r ++ t) := by simp [encN]
    have hx := h x (by simp)
    rw [e, List.length_cons, numsN, numN_two hx.1 hx.2]
    simp only [if_true]
    rw [numsN_enc r t fun y hy => h y (by simp [hy])]
    rfl
theorem allT_enc : ∀ (l : List Txt) (f : Nat), (encT l).length ≤ f → (∀ x ∈ l, x.length ≤ 65535) → allT f (encT l) = some l
  | [], f, _, _ => by cases f <;> rfl
  | x :: r, f, hf, h => by
    have e : encT (x :: r) = twoB (x.length : Int) ++ x ++ encT r := by simp [encT]
    have hlen : (encT (x :: r)).length = 2 + x.length + (encT r).length := by rw [e, List.length_append, List.length_append, twoB_len]
    cases f with
    | zero => omega
    | succ f =>
      obtain ⟨a, q, hq⟩ : ∃ a q, encT (x :: r) = a :: q := ⟨_, _, rfl⟩
      have ht : textN (a :: q) = (x, encT r, true) := by rw [← hq, e]; exact textN_enc x _ (h x (by simp))
      rw [hq, allT_cons, ht]
      simp only [if_true]
      rw [allT_enc r f (by omega) fun y hy => h y (by simp [hy])]
      rfl
theorem textsN_inv : ∀ (k : Nat) (s : Txt) (l : List Txt) (t : Txt), textsN k s = some (l, t) → encT l ++ t = s ∧ l.length = k
  | 0, s, l, t, h => by cases h; exact ⟨rfl, rfl⟩
  | k + 1, s, l, t, h => by
    rw [textsN] at h
    by_cases h1 : (textN s).2.2 = true
    · rw [if_pos h1] at h
      cases h2 : textsN k (textN s).2.1 with
      | none => rw [h2] at h; cases h
      | some x =>
        rw [h2] at h
        cases h
        obtain ⟨q1, q2⟩ := textsN_inv k _ x.1 x.2 h2
        refine ⟨?_, by rw [List.length_cons, q2]⟩
        show twoB ((textN s).1.length : Int) ++ (textN s).1 ++ encT x.1 ++ x.2 = s
        rw [List.append_assoc, q1]
        exact (textN_inv h1).symm
    · rw [if_neg h1] at h; cases h
theorem numsN_inv : ∀ (k : Nat) (s : Txt) (l : List Int) (t : Txt), numsN k s = some (l, t) → l.length = k
  | 0, s, l, t, h => by cases h; rfl
  | k + 1, s, l, t, h => by
    rw [numsN] at h
    by_cases h1 : (numN s).2.2 = true
    · rw [if_pos h1] at h
      cases h2 : numsN k (numN s).2.1 with
      | none => rw [h2] at h; cases h
      | some x =>
        rw [h2] at h
        cases h
        rw [List.length_cons, numsN_inv k _ x.1 x.2 h2]
    · rw [if_neg h1] at h; cases h
theorem allT_inv : ∀ (f : Nat) (s : Txt) (l : List Txt), allT f s = some l → encT l = s
  | f, [], l, h => by
    have : allT f [] = some [] := by cases f <;> rfl
    rw [this] at h; cases h; rfl
  | 0, a :: r, l, h => by cases h
  | f + 1, a :: r, l, h => by
    rw [allT_cons] at h
    by_cases h1 : (textN (a :: r)).2.2 = true
    · rw [if_pos h1] at h
      cases h2 : allT f (textN (a :: r)).2.1 with
      | none => rw [h2] at h; cases h
      | some x =>
        rw [h2] at h
        cases h
        show twoB ((textN (a :: r)).1.length : Int) ++ (textN (a :: r)).1 ++ encT x = a :: r
        rw [allT_inv f _ x h2]
        exact (textN_inv h1).symm
    · rw [if_neg h1] at h; cases h
theorem mem_encT (l : List Txt) : ∀ x ∈ l, x.length ≤ (encT l).length := by
  induction l with
  | nil => intro x hx; cases hx
  | cons y r ih =>
    intro x hx
    have e : (encT (y :: r)).length = 2 + y.length + (encT r).length := by
      show (twoB (y.length : Int) ++ y ++ encT r).length = _
      rw [List.length_append, List.length_append, twoB_len]
    rcases List.mem_cons.1 hx with rfl | h
    · omega
    · have := ih x h; omega
theorem encT_small (l : List Txt) (n : Nat) (h : ∀ x ∈ l, x.length ≤ n) : (encT l).length ≤ (n + 2) * l.length := by
  induction l with
  | nil => exact Nat.zero_le _
  | cons y r ih =>
    have e : (encT (y :: r)).length = 2 + y.length + (encT r).length := by
      show (twoB (y.length : Int) ++ y ++ encT r).length = _
      rw [List.length_append, List.length_append, twoB_len]
    have h1 := ih fun x hx => h x (by simp [hx])
    have h2 := h y (by simp)
    rw [e, List.length_cons, Nat.mul_succ]
    omega
theorem tall_le {l : List Txt} (h : l.any tallB = false) : ∀ x ∈ l, x.length ≤ 65535 := fun x hx => by
  rw [List.any_eq_false] at h
  have := h x hx
  unfold tallB at this
  simp at this
  omega
theorem root_back {r : Root} (h : rootOk r = true) : parseRootN (rootN r).1 = (r, 0) := by
  have h' := h
  unfold rootOk at h'
  simp only [Bool.and_eq_true, decide_eq_true_eq, List.all_eq_true, Bool.not_eq_true'] at h'
  obtain ⟨h1, h2, h3, h4⟩ := h'
  obtain ⟨p1, p2, p3, p4⟩ := rootB_spec h1
  have hl : r.1.length ≤ 65535 := by omega
  have hr : rootN r = (twoB (r.1.length : Int) ++ encT r.1 ++ encN r.2, 0) := by unfold rootN; rw [if_pos h]
  rw [hr]
  unfold parseRootN
  have e1 : numN (twoB (r.1.length : Int) ++ encT r.1 ++ encN r.2) = ((r.1.length : Int), encT r.1 ++ encN r.2, true) := by rw [List.append_assoc]; exact numN_two (by omega) (by omega) _
  rw [e1]
  simp only [Int.toNat_natCast]
  rw [textsN_enc r.1 _ (tall_le h4)]
  simp only
  have e2 : numsN (r.1.length + 1) (encN r.2) = some (r.2, []) := by
    have := numsN_enc r.2 [] fun x hx => ⟨by have := p3 x hx; omega, h3 x hx⟩
    rw [List.append_nil, p1] at this
    exact this
  rw [e2]
  simp only
  have e3 : ((r.1, r.2) : Root) = r := rfl
  rw [e3, hr]
  simp
theorem leaf_back {l : Lf} (h : leafOk l = true) : parseLeafN l.1 (leafN l).1 = (l, 0) := by
  have h' := h
  unfold leafOk at h'
  simp only [Bool.and_eq_true, Bool.not_eq_true'] at h'
  obtain ⟨h1, h2⟩ := h'
  have hf : l.2.2 = false := by
    unfold lfB at h1
    exact (of_decide_eq_true h1).1
  have hr : leafN l = (encT l.2.1, 0) := by unfold leafN; rw [if_pos h]
  rw [hr]
  unfold parseLeafN
  rw [allT_enc l.2.1 _ (Nat.le_refl _) (tall_le h2)]
  have e3 : ((l.1, l.2.1, false) : Lf) = l := by rw [← hf]
  simp only
  rw [e3, hr]
  simp
theorem root_ok_iff (r : Root) : ((rootN r).2 = 0 ↔ rootOk r = true) ∧ ((rootN r).2 = 0 ∨ (rootN r).2 = 2) := by
  unfold rootN
  by_cases h : rootOk r = true
  · rw [if_pos h]; simp [h]
  · rw [if_neg h]; simp [h]
theorem leaf_ok_iff (l : Lf) : ((leafN l).2 = 0 ↔ leafOk l = true) ∧ ((leafN l).2 = 0 ∨ (leafN l).2 = 2) := by
  unfold leafN
  by_cases h : leafOk l = true
  · rw [if_pos h]; simp [h]
  · rw [if_neg h]; simp [h]
/-- What ParseRoot says. -/
theorem parseRoot_spec (s : Txt) : ((parseRootN s).2 = 0 ∧ rootN (parseRootN s).1 = (s, 0) ∨ (parseRootN s).2 = 10 ∧ (parseRootN s).1 = ([], [])) ∧ (encT (parseRootN s).1.1).length ≤ s.length ∧ (parseRootN s).1.2.length ≤ 65536 := by
  unfold parseRootN
  cases h1 : textsN (numN s).1.toNat (numN s).2.1 with
  | none => exact ⟨.inr ⟨rfl, rfl⟩, Nat.zero_le _, Nat.zero_le _⟩
  | some x =>
    obtain ⟨a, t⟩ := x
    obtain ⟨q1, q2⟩ := textsN_inv _ _ _ _ h1
    have hq := congrArg List.length q1
    rw [List.length_append] at hq
    obtain ⟨n1, n2, n3⟩ := numN_le s
    simp only
    cases h2 : numsN ((numN s).1.toNat + 1) t with
    | none => exact ⟨.inr ⟨rfl, rfl⟩, Nat.zero_le _, Nat.zero_le _⟩
    | some y =>
      obtain ⟨b, u⟩ := y
      have hb := numsN_inv _ _ _ _ h2
      simp only
      by_cases h3 : (rootN (a, b)).2 = 0 ∧ (rootN (a, b)).1 = s
      · rw [if_pos h3]
        refine ⟨.inl ⟨rfl, Prod.ext h3.2 h3.1⟩, by show (encT a).length ≤ _; omega, by show b.length ≤ _; omega⟩
      · rw [if_neg h3]
        exact ⟨.inr ⟨rfl, rfl⟩, Nat.zero_le _, Nat.zero_le _⟩
theorem parseLeaf_spec (no : Int) (s : Txt) : ((parseLeafN no s).2 = 0 ∧ leafN (parseLeafN no s).1 = (s, 0) ∧ (parseLeafN no s).1.1 = no ∨ (parseLeafN no s).2 = 10 ∧ (parseLeafN no s).1 = (0, [], false)) ∧ (encT (parseLeafN no s).1.2.1).length ≤ s.length := by
  unfold parseLeafN
  cases h1 : allT s.length s with
  | none => exact ⟨.inr ⟨rfl, rfl⟩, Nat.zero_le _⟩
  | some a =>
    have q := allT_inv _ _ _ h1
    simp only
    by_cases h3 : (leafN (no, a, false)).2 = 0
    · rw [if_pos h3]
      refine ⟨.inl ⟨rfl, ?_, rfl⟩, by show (encT a).length ≤ _; rw [q]; exact Nat.le_refl _⟩
      have hk := (leaf_ok_iff (no, a, false)).1.1 h3
      show leafN (no, a, false) = (s, 0)
      unfold leafN
      rw [if_pos hk]
      show (encT a, 0) = _
      rw [q]
    · rw [if_neg h3]
      exact ⟨.inr ⟨rfl, rfl⟩, Nat.zero_le _⟩
theorem shortL_of {l : List Txt} (h : ∀ x ∈ l, x.length ≤ 1000000) : shortL l = true := by
  unfold shortL
  rw [List.all_eq_true]
  exact fun x hx => decide_eq_true (h x hx)
theorem fits_lfsJ {b : Nat} {a : AVal} (h : Fits (.slice (.agg [.int .i64, .slice .str 1 16, .bool]) 3 b) a) : ∃ ls : List Lf, a = .slice (lfv ls) 3 .ro ∧ ls.length * b ≤ 140737488351232 ∧ ∀ x ∈ ls, x.2.1.length ≤ 140737488351232 / 16 := by
  obtain ⟨es, rfl, h1, h2⟩ := h
  obtain ⟨ls, rfl, hx⟩ := map_of (f := lfV) (P := fun l => l.2.1.length ≤ 140737488351232 / 16) fun e he => by
    obtain ⟨l, h3, h4⟩ := fits_lf (h2 e he)
    exact ⟨l, h3, h4⟩
  exact ⟨ls, rfl, by simpa using h1, hx⟩
/-! ### The law -/
theorem bytes_law (xs : List AVal) (h : FitsL [.agg [.slice .str 1 16, .slice (.int .i64) 1 8, .slice (.agg [.int .i64, .slice .str 1 16, .bool]) 3 40], .int .i64, .str] xs) :
    ACall Try.prog 8 xs Sto.empty fun v _ => v = .bool true := by
  obtain ⟨a1, t1, rfl, f1, a2, t2, rfl, f2, a3, t3, rfl, f3, rfl⟩ := h
  obtain ⟨cs, rfl, c1, u1, rfl, k1, c2, u2, rfl, k2, c3, u3, rfl, k3, rfl⟩ := f1
  obtain ⟨l1, rfl, b1⟩ := fits_strv k1
  obtain ⟨l2, rfl, b2, _⟩ := fits_iv k2
  obtain ⟨ls, rfl, b3, b4⟩ := fits_lfsJ k3
  obtain ⟨no, rfl, _, _⟩ := f2
  obtain ⟨s, rfl, _⟩ := f3
  obtain ⟨r, hr1, hr2⟩ : ∃ r : Root, r.1 = l1 ∧ r.2 = l2 := ⟨(l1, l2), rfl, rfl⟩
  rw [← hr1, ← hr2]
  rw [← hr1] at b1
  rw [← hr2] at b2
  refine lawT_i r ls no s _ (.of [awakeE, smallE, rootBytesE, rootBytesRE, parseRootE, sameRootE, leafBytesE, leafBytesRE, parseLeafE, sameE] rfl ⟨awake_ok, small_ok, rootB_ok', rootBR_ok, parseRoot_ok, sameRoot_ok, leafB_ok, leafBR_ok, parseLeaf_ok, same_ok, trivial⟩) ?_
  have hG : rootG (.agg [.slice (strv r.1) 1 .ro, .slice (iv r.2) 1 .ro]) = true := rootG_mk (r := r) (by omega) (by omega)
  have hL : (lfv ls).length = ls.length := lfv_length ls
  have hLG : (lfv ls).all lfG = true := by
    rw [List.all_eq_true]
    intro e he
    obtain ⟨x, hx, rfl⟩ := List.mem_map.1 he
    exact lfG_mk (by have := b4 x hx; omega)
  refine gb_by (tt2 hG (tt2 (lfv_is _) (tt2 (lenOk_mk (by omega)) hLG))) ?_
  simp only [hold_eq, map_strOf_strv, map_intOf_iv, map_lfOf]
  refine brV_by' (fun hs => ?_) (fun _ => trivial)
  have hs : smallB (r.1, r.2) ls = true := by simpa using hs
  obtain ⟨s1, s2, s3, s4⟩ := smallB_iff.1 hs
  obtain ⟨t1, t2⟩ := textsB_iff.1 s1
  have s2 : r.2.length ≤ 40 := s2
  have t1 : r.1.length ≤ 30 := t1
  have t2 : ∀ x ∈ r.1, x.length ≤ 700 := t2
  refine brV_by (fun _ => trivial) (fun h2000 => ?_)
  have h2000 : s.length ≤ 2000 := by have := of_decide_eq_false h2000; omega
  have hE : (encT r.1).length ≤ 30000 := Nat.le_trans (encT_small r.1 700 t2) (by omega)
  have hM : rootM2 (.agg [.slice (strv r.1) 1 .ro, .slice (iv r.2) 1 .ro]) = true := rootM2_at (rootOf_at r.1 r.2 1 1 .ro .ro) hG (by omega) (by omega) (by omega)
  have hH : rootH (.agg [.slice (strv r.1) 1 .ro, .slice (iv r.2) 1 .ro]) = true := rootH_mk (r := r) (by omega) (by omega) (shortL_of fun x hx => by have := t2 x hx; omega)
  have er : ((r.1, r.2) : Root) = r := rfl
  -- what is read of any bytes
  have finE : vc Try.prog cLawT lawTE_C (endK Try.prog Try.f8.results.toList fun v _ => v = .bool true) (lawTE_S no s) := by
    refine Eq.mpr (lawTE_r no s _) ?_
    intro y hy
    refine gb_by (lenB_mk (by omega)) ?_
    intro z hz
    rw [map_strOf_strv] at hz
    obtain ⟨p1, p2⟩ := parseLeaf_spec no s
    rw [← hy] at p1 p2
    have hz : z = leafN y.1 := hz
    have hle := encT_len y.1.2.1
    have hlg : lfG (lfV y.1) = true := lfG_mk (by omega)
    have c1 : lfM2 (lfV y.1) = true := by
      unfold lfM2
      rw [lfOf_V, hlg]
      exact tt2 rfl (tt2 (lenB_mk (by omega)) (lenB_mk (by omega)))
    have c2 : lfH (lfV y.1) = true := by
      unfold lfH
      rw [hlg, lfOf_V, hold_eq]
      exact shortL_of fun x hx => by have := mem_encT _ x hx; omega
    simp only [hold_eq]
    refine gb_by (tt2 c1 c2) ?_
    rcases p1 with ⟨g1, g2, g3⟩ | ⟨g1, g2⟩
    · have z1 : z.1 = s := by rw [hz, g2]
      have z2 : z.2 = 0 := by rw [hz, g2]
      rw [z1, z2, g1, g3]
      simp only [beq_self_eq_true, brV_tt]
      exact brV_by' (fun h => by cases h) (fun _ => trivial)
    · have e0 : (strv y.1.2.1).length = 0 := by rw [g2]; rfl
      rw [g1, e0]
      refine brV_by (fun h => by cases h) (fun _ => ?_)
      rfl
  have finD : vc Try.prog cLawT lawTD_C (endK Try.prog Try.f8.results.toList fun v _ => v = .bool true) (lawTD_S no s) := by
    refine Eq.mpr (lawTD_r no s _) ?_
    intro y hy
    refine gb_by (lenB_mk (by omega)) ?_
    intro z hz
    rw [map_strOf_strv, map_intOf_iv] at hz
    obtain ⟨p1, p2, p3⟩ := parseRoot_spec s
    rw [← hy] at p1 p2 p3
    have hz : z = rootN y.1 := hz
    have hle := encT_len y.1.1
    have cg : rootG (rootV y.1) = true := rootG_mk (by omega) (by omega)
    have c1 : rootM2 (rootV y.1) = true := rootM2_at (v := rootV y.1) (l := y.1.1) (b := y.1.2) (rootOf_V y.1) cg (by omega) (by omega) (by omega)
    have c2 : rootH (rootV y.1) = true := rootH_mk (by omega) (by omega) (shortL_of fun x hx => by have := mem_encT _ x hx; omega)
    simp only [hold_eq]
    refine gb_by (tt2 c1 c2) ?_
    rcases p1 with ⟨g1, g2⟩ | ⟨g1, g2⟩
    · have z1 : z.1 = s := by rw [hz, g2]
      have z2 : z.2 = 0 := by rw [hz, g2]
      rw [z1, z2, g1]
      refine brV_by (fun _ => brV_by' (fun _ => brV_by' (fun _ => brV_by (fun h => by cases h) (fun _ => toCut finE)) (fun h => by simp at h)) (fun h => by cases h)) (fun h => by cases h)
    · have e0 : (iv y.1.2).length = 0 := by rw [g2]; rfl
      rw [g1, e0]
      refine brV_by (fun h => by cases h) (fun _ => brV_by (fun _ => brV_by' (fun _ => brV_by (fun h => by cases h) (fun _ => toCut finE)) (fun h => by cases h)) (fun h => by cases h))
  -- the leaves
  have finB : vc Try.prog cLawT lawTB_C (endK Try.prog Try.f8.results.toList fun v _ => v = .bool true) (lawTB_S r ls no s) := by
    refine Eq.mpr (lawTB_r r ls no s _) ?_
    show loopV _ _ _ (lawTL_S r ls no s 0)
    refine loopV_intro (α := Nat) (fun i => lawTL_S r ls no s i) (fun i => i ≤ ls.length) (fun i => ls.length - i) ?_ 0 (Nat.zero_le _)
    intro i hi L hLn
    refine Eq.mpr (lawTL_r r ls no s i L _) ?_
    simp only [hold_eq]
    refine brV_by (fun h => ?_) (fun h => ?_)
    · have hlt : i < ls.length := by have := of_decide_eq_true h; omega
      rw [elemAt_lfv ls i hlt]
      obtain ⟨x, hx⟩ : ∃ x, x = ls[i] := ⟨_, rfl⟩
      have hxm : x ∈ ls := by rw [hx]; exact List.getElem_mem hlt
      obtain ⟨x1, x2⟩ := textsB_iff.1 (s4 x hxm)
      have hEx : (encT x.2.1).length ≤ 30000 := Nat.le_trans (encT_small x.2.1 700 x2) (by omega)
      have hlg : lfG (lfV x) = true := lfG_mk (by omega)
      have c1 : lfM2 (lfV x) = true := by
        unfold lfM2
        rw [lfOf_V, hlg]
        exact tt2 rfl (tt2 (lenB_mk (by omega)) (lenB_mk (by omega)))
      have c2 : lfH (lfV x) = true := by
        unfold lfH
        rw [hlg, lfOf_V, hold_eq]
        exact shortL_of fun y hy => by have := x2 y hy; omega
      rw [← hx]
      have e0 : (AVal.intOf (List.getD (lfC x) 0 .undef), (AVal.elems (List.getD (lfC x) 1 .undef)).map AVal.strOf, AVal.boolOf (List.getD (lfC x) 2 .undef)) = x := by
        show (x.1, (strv x.2.1).map AVal.strOf, x.2.2) = x
        rw [map_strOf_strv]
      rw [e0]
      refine gb_by (dt (by omega)) (gb_by rfl ?_)
      intro y hy
      refine gb_by c1 (gb_by (dt (by omega)) (gb_by rfl ?_))
      intro z hz
      obtain rfl : z = y := by rw [hz, hy]
      refine gb_by (tt2 c1 c2) ?_
      obtain ⟨q1, q2⟩ := leaf_ok_iff x
      rw [← hz] at q1 q2
      -- behind the comparison
      have step : ∀ K : Exit → St → Prop, vc Try.prog cLawT lawTI_C (thenK (fun s => L (St.norm [] [1, 2, 3, 13] [3] s)) K) (lawTI_S r ls no s i) := fun K => by
        refine Eq.mpr (lawTI_r r ls no s i _) (thenNJ ?_)
        rw [i64_succ hlt (by omega)]
        exact hLn (i + 1) hlt (by omega)
      have hcl : z.1.length ≤ 100000 := by
        rw [hz]
        unfold leafN
        split
        · show (encT x.2.1).length ≤ _; omega
        · exact Nat.zero_le _
      have hwi : IntKind.i64.wrap ((i : Int) + 1) = ((i + 1 : Nat) : Int) := i64_succ hlt (by omega)
      have htk : (((lfv ls).drop (i : Int).toNat).take (((i + 1 : Nat) : Int).toNat - (i : Int).toNat)) = [lfV x] := by
        rw [Int.toNat_natCast, Int.toNat_natCast, show i + 1 - i = 1 by omega, hx]
        have hd : (lfv ls).drop i = lfV ls[i] :: (lfv ls).drop (i + 1) := by
          rw [List.drop_eq_getElem_cons (by rw [hL]; exact hlt)]
          simp [lfv]
        rw [hd]; rfl
      refine brV_by' (fun _ => brV_by' (fun _ => brV_by (fun h => brV_by (fun h2 => ?_) (fun _ => ?_)) (fun _ => ?_)) (fun h => by simp at h)) (fun h => by simp at h)
      · exfalso
        rcases q2 with q2 | q2
        · rw [q2] at h; cases h
        · rw [q2] at h2; cases h2
      all_goals (
        refine toCut (Eq.mpr (lawTC_r r ls no s z.1 i (z.2 == 0) _) ?_)
        rw [elemAt_lfv ls i hlt, ← hx, List.drop_zero]
        simp only [hold_eq]
        refine gb_by (dt (by omega)) (gb_by rfl ?_)
        intro y hy
        have hy : y = parseLeafN x.1 z.1 := hy
        refine gb_by (lenB_mk (by omega)) (brV_by (fun hk => ?_) (fun _ => inBlock (toCut (step _))))
        have h0 : z.2 = 0 := by simpa using hk
        have hy2 : y = (x, 0) := by rw [hy, hz]; exact leaf_back (q1.1 h0)
        subst hy2
        rw [hwi, htk]
        refine brV_by' (fun _ => gb_by (dt (by omega)) (gb_by (tt2 (show [lfV x].all lfIs = true from lfv_is [x]) (tt2 (lfv_is [x]) (tt2 (lenOk_mk (by decide)) (show [lfV x].all lfG = true by simp [hlg])))) (brV_by (fun h => ?_) (fun _ => inBlock (toCut (step _)))))) (fun h => by cases h)
        rw [map_strOf_strv] at h
        simp at h)
    · refine leaveTo (toCut finD)
  have finA : ∀ b ok, ok = ((rootN r).2 == 0) → b = (rootN r).1 → vc Try.prog cLawT lawTA_C (endK Try.prog Try.f8.results.toList fun v _ => v = .bool true) (lawTA_S r ls no s b ok) := fun b ok hok hb => by
    refine Eq.mpr (lawTA_r r ls no s b ok _) ?_
    have hbl : b.length ≤ 100000 := by
      rw [hb]
      unfold rootN
      split
      · show (twoB (r.1.length : Int) ++ encT r.1 ++ encN r.2).length ≤ _
        rw [List.length_append, List.length_append, twoB_len, encN_len]; omega
      · exact Nat.zero_le _
    intro y hy
    refine gb_by (lenB_mk (by omega)) ?_
    refine brV_by (fun h => ?_) (fun _ => toCut finB)
    have h0 : (rootN r).2 = 0 := by rw [hok] at h; simpa using h
    have hback := root_back ((root_ok_iff r).1.1 h0)
    rw [← hb] at hback
    rw [hback] at hy
    subst hy
    simp only [hold_eq, map_strOf_strv, map_intOf_iv]
    refine brV_by' (fun _ => ?_) (fun h => by cases h)
    refine gb_by (tt2 hG hG) (brV_by (fun h => by simp at h) (fun _ => toCut finB))
  intro y hy
  refine gb_by hM ?_
  intro z hz
  rw [er] at hy hz
  obtain rfl : z = y := by rw [hz, hy]
  obtain ⟨q1, q2⟩ := root_ok_iff r
  rw [← hz] at q2
  refine gb_by (tt2 hM hH) (brV_by' (fun _ => brV_by' (fun _ => brV_by (fun h => brV_by (fun h2 => ?_) (fun _ => ?_)) (fun _ => ?_)) (fun h => by simp at h)) (fun h => by simp at h))
  · exfalso
    rcases q2 with q2 | q2
    · rw [q2] at h; cases h
    · rw [q2] at h2; cases h2
  · exact toCut (finA _ _ (by rw [hz]) (by rw [hz]))
  · exact toCut (finA _ _ (by rw [hz]) (by rw [hz]))
end Go.Proofs.Ytlfnmhfmikomkaa
end
