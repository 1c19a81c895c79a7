/-
  Seat 11 (leaf): the reference's Remove.
-/
import Derived.Test.YtlfnmhfmikomkaaFw
set_option linter.unusedVariables false
set_option linter.unusedSimpArgs false
set_option maxRecDepth 20000
set_option maxHeartbeats 4000000
namespace Go.Proofs.Ytlfnmhfmikomkaa
open Go.AL

theorem removeR_c (r : Root) (l : Lf) (s : Txt) (h1 : r.1.length ≤ 1000000) (h2 : r.2.length ≤ 1000000) (h3 : l.2.1.length ≤ 1000000) (hs1 : shortL r.1 = true) (hs2 : shortL l.2.1 = true) :
    ACall Try.prog 20 [rootV r, lfV l, .str s] Sto.empty fun v _ => Wk v (chV (remN r l s)) := by
  have hn1 : (strv r.1).length = r.1.length := strv_length r.1
  have hn2 : (iv r.2).length = r.2.length := iv_length r.2
  have hn3 : (strv l.2.1).length = l.2.1.length := strv_length _
  refine removeR_i r l s _ (.of [rootRE, leafRE, findRE, hasE, cutE, atRE] rfl ⟨rootR_ok, leafR_ok, findR_ok, has_ok, cut_ok, atR_ok, trivial⟩) ?_
  simp only [hold_eq, map_strOf_strv, map_intOf_iv, fold_root, fold_lf]
  have hR : rootH (rootV r) = true := rootH_mk (by omega) (by omega) hs1
  have hLf : lfH (lfV l) = true := lfH_mk (by omega) hs2
  have hbad : ownB r l s = false → Wk (.tuple [.agg [.slice [] 0 .nil, .slice [] 0 .nil], .slice [] 0 .nil, .int .i64 100]) (chV (remN r l s)) := fun ho => by
    have e : remN r l s = errC 100 := by simp only [remN, ho]; rfl
    rw [e]; exact wk_err _
  have hrf := ownB_ref r l s
  refine gb_by hR (brV_by' (fun h => ?_) (fun h => hbad ?_))
  case refine_2 =>
    have h : rootB r = false := by
      have h : (!rootB r) = true := h
      simpa using h
    rw [hrf, h]; rfl
  have hb1 : rootB r = true := by
    have h : (!rootB r) = false := h
    simpa using h
  refine gb_by hLf (brV_by' (fun h => ?_) (fun h => hbad ?_))
  case refine_2 =>
    have h : lfB l = false := by
      have h : (!lfB l) = true := h
      simpa using h
    rw [hrf, h, hb1]; rfl
  have hb2 : lfB l = true := by
    have h : (!lfB l) = false := h
    simpa using h
  intro fy hfy
  refine gb_by hR (brV_by (fun h => hbad ?_) (fun h => ?_))
  · have h : ¬ fy = l.1 := by simpa using h
    have h2 : findN r s = fy := hfy.symm
    rw [hrf, hb1, hb2, h2]
    simpa using h
  have hfe : fy = l.1 := by simpa using h
  have ho : ownB r l s = true := by
    have h2 : findN r s = fy := hfy.symm
    rw [hrf, hb1, hb2, h2, hfe]; simp
  obtain ⟨g1, g2, g3⟩ := lfB_iff.1 hb2
  obtain ⟨q1, q2, q3, q4⟩ := rootB_iff.1 hb1
  intro b hb p hp
  refine gb_by (and_tt (strv_is _) (lenOk_mk (by omega))) (brV_by (fun h => ?_) (fun h => ?_))
  · have hc : l.2.1.contains s = false := by
      have h0 : p < (0 : Int) := of_decide_eq_true h
      rw [← hb]
      cases b with
      | false => rfl
      | true => rw [hp] at h0; simp at h0; omega
    have e : remN r l s = errC 101 := by simp only [remN, ho, hc, if_true]; rfl
    rw [e]; exact wk_err _
  have hc : l.2.1.contains s = true := by
    have h0 : ¬ p < (0 : Int) := of_decide_eq_false h
    rw [← hb]
    cases b with
    | true => rfl
    | false => exact (h0 (by rw [hp]; simp)).elim
  have hmem : s ∈ l.2.1 := by simpa using hc
  have hpe : p = ((posN l.2.1 s : Nat) : Int) := by
    rw [hb, hc] at hp
    rw [hp, ← pos_idx g3 hmem]; rfl
  subst hpe
  have hplt := posN_lt_len g3 hc
  simp only [Int.toNat_natCast]
  have hil := delL_length l.2.1 (posN l.2.1 s) hplt
  have hsl := strv_length (delL l.2.1 (posN l.2.1 s))
  have keep : (0 < (delL l.2.1 (posN l.2.1 s)).length ∨ r.2.length = 1) → Wk (.tuple [rootV r, .slice [.agg [.int .i64 l.1, .slice (strv (delL l.2.1 (posN l.2.1 s))) 1 .ro, .bool false]] 3 .full, .int .i64 0]) (chV (remN r l s)) := fun hk => by
    have e : remN r l s = (r, [(l.1, delL l.2.1 (posN l.2.1 s), false)], 0) := by simp only [remN, ho, hc, hk, if_true]
    rw [e]
    exact wk_ch (Wk.refl _) (by simp [lfOf]) (by simp [lfIs, okW_same])
  refine gb_by (and_tt (strv_is _) (dt (by first | omega | (simp only [true_and, and_true, decide_eq_true_eq, Option.some.injEq, strv_length, iv_length, List.length_take, List.length_drop, List.length_append, List.length_cons, List.length_nil, Int.le_refl] <;> omega)))) (brV_by' (fun h => ?_) (fun h => keep (.inl (by have := of_decide_eq_true h; omega))))
  have hz : (delL l.2.1 (posN l.2.1 s)).length = 0 := by have := of_decide_eq_false h; omega
  refine brV_by (fun h => ?_) (fun h => ?_)
  · exact keep (.inr (by have : ((iv r.2).length : Int) = 1 := by simpa using h
                         omega))
  · have hr1 : r.2.length ≠ 1 := by have : ¬ ((iv r.2).length : Int) = 1 := by simpa using h
                                    omega
    have hnk : ¬ (0 < (delL l.2.1 (posN l.2.1 s)).length ∨ r.2.length = 1) := by omega
    have e : remN r l s = ((delL r.1 (min (atN r.1 s) (r.1.length - 1)), delL r.2 (atN r.1 s)), [(l.1, [], true)], 0) := by
      simp only [remN, ho, hc, hnk, if_true, if_false]
    rw [e]
    have hat : atN r.1 s ≤ r.1.length := atN_le _ _
    refine toCut (Eq.mpr (removeRF_r r l s [.slice [] 0 .nil, .slice [] 0 .nil] _) ?_)
    intro y hy
    simp only [hold_eq, map_strOf_strv] at hy
    have hy2 : y ≤ r.1.length := by omega
    have hw2 : IntKind.i64.wrap ((y : Int) + 1) = ((y + 1 : Nat) : Int) := by rw [wrap_i64 (by omega) (by omega)]; rfl
    simp only [hold_eq, hw2, Int.toNat_natCast, mid0_iv, mid1_iv, map_strOf_strv]
    refine gb_by hR (gb_by (dt (by first | omega | (simp only [true_and, and_true, decide_eq_true_eq, Option.some.injEq, strv_length, iv_length, List.length_take, List.length_drop, List.length_append, List.length_cons, List.length_nil, Int.le_refl] <;> omega))) (gb_by (dt (by first | omega | (simp only [true_and, and_true, decide_eq_true_eq, Option.some.injEq, strv_length, iv_length, List.length_take, List.length_drop, List.length_append, List.length_cons, List.length_nil, Int.le_refl] <;> omega))) (gb_by (dt (by first | omega | (simp only [true_and, and_true, decide_eq_true_eq, Option.some.injEq, strv_length, iv_length, List.length_take, List.length_drop, List.length_append, List.length_cons, List.length_nil, Int.le_refl] <;> omega))) (gb_by (dt (by first | omega | (simp only [true_and, and_true, decide_eq_true_eq, Option.some.injEq, strv_length, iv_length, List.length_take, List.length_drop, List.length_append, List.length_cons, List.length_nil, Int.le_refl] <;> omega))) (brV_by (fun h => ?_) (fun h => ?_))))))
    · have hyl : y = r.1.length := by have : (y : Int) = ((strv r.1).length : Int) := by simpa using h
                                      omega
      have hw3 : IntKind.i64.wrap ((y : Int) - 1) = ((y - 1 : Nat) : Int) := by rw [wrap_i64 (by omega) (by omega)]; omega
      have hm : min y (r.1.length - 1) = y - 1 := by omega
      simp only [hw3, Int.toNat_natCast]
      refine gb_by (and_tt (strv_is _) (dt (by first | omega | (simp only [true_and, and_true, decide_eq_true_eq, Option.some.injEq, strv_length, iv_length, List.length_take, List.length_drop, List.length_append, List.length_cons, List.length_nil, Int.le_refl] <;> omega)))) (gb_by (dt ⟨by decide, fun _ => rfl⟩) ?_)
      rw [← hy, hm]
      refine wk_ch (R := (delL r.1 (y - 1), delL r.2 y)) ?_ (by simp [lfOf]) (by simp [lfIs, okW])
      refine Wk.agg (.cons (.refl _) (.cons ?_ (.refl _)))
      rw [iv_delL]
      exact Wk.ro _ _ _
    · have hyl : ¬ y = r.1.length := by have : ¬ (y : Int) = ((strv r.1).length : Int) := by simpa using h
                                        omega
      have hm : min y (r.1.length - 1) = y := by omega
      refine gb_by (and_tt (strv_is _) (dt (by first | omega | (simp only [true_and, and_true, decide_eq_true_eq, Option.some.injEq, strv_length, iv_length, List.length_take, List.length_drop, List.length_append, List.length_cons, List.length_nil, Int.le_refl] <;> omega)))) (gb_by (dt ⟨by decide, fun _ => rfl⟩) ?_)
      rw [← hy, hm]
      refine wk_ch (R := (delL r.1 y, delL r.2 y)) ?_ (by simp [lfOf]) (by simp [lfIs, okW])
      refine Wk.agg (.cons (.refl _) (.cons ?_ (.refl _)))
      rw [iv_delL]
      exact Wk.ro _ _ _
theorem removeR_ok : EntOk Try.prog removeRE := by
  intro xs σ; simp only [removeRE, chE]; split
  · rename_i v u s
    intro hc
    simp only [Bool.and_eq_true, hold_eq] at hc
    obtain ⟨r1, r2, r3⟩ := rootM_spec hc.1.1
    obtain ⟨l1, l2⟩ := lfM_spec hc.2.1
    exact pcall_of (.cons (wk_root r1) (.cons (wk_lf l1) (.refl _))) (removeR_c (rootOf v) (lfOf u) s r2 r3 l2 hc.1.2 hc.2.2) (by simp only [noOutL, root_noOut, lf_noOut, AVal.noOut, Bool.and_true]) (by simp only [noTokL, root_noTok, lf_noTok, AVal.noTok, Bool.and_true]) (ch_noOut _ _) (ch_noTok _ _)
  · trivial
end Go.Proofs.Ytlfnmhfmikomkaa
