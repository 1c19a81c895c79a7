/-
  Seat 12 (limbo): contracts: Take, Back, Retire.
-/
import Derived.Test.YtakidnohmfebmaaLt
namespace Go.Proofs.Ytakidnohmfebmaa
open Go.AL
set_option linter.unusedSimpArgs false
set_option linter.unusedVariables false
set_option maxHeartbeats 4000000
set_option maxRecDepth 20000

theorem isLim_self (N : Nat) (row : List Key) (m : List (Key × Int)) : isLim (limS N row m) N row m = true := by simp only [isLim, hold_eq, decide_eq_true_eq]
theorem isLim_eq {σ : Sto} {N : Nat} {row : List Key} {m : List (Key × Int)} (h : isLim σ N row m = true) : σ = limS N row m := by simpa only [isLim, hold_eq, decide_eq_true_eq] using h
theorem delAll_take (gone : List Key) (m : List (Key × Int)) (i : Nat) (h : i < gone.length) : delAll (gone.take (i + 1)) m = delM gone[i] (delAll (gone.take i) m) := by
  rw [List.take_succ_eq_append_getElem h]
  simp only [delAll, List.foldl_append, List.foldl_cons, List.foldl_nil]

theorem take_c (N : Nat) (row : List Key) (m : List (Key × Int)) (e : Int) (hl : row.length ≤ 1000000000) :
    ACall Try.prog 11 [.ptr (.out 1) 0, .int .i64 e] (limS N row m) fun r τ =>
      r = .slice (kv (row.filter (below m e))) 4 .ro ∧ τ = limS (N + 2) (row.filter fun k => !below m e k) (delAll (row.filter (below m e)) m) := by
  refine take_i N row m e _ (.of [outE] rfl ⟨out_ok, trivial⟩) ?_
  simp only [valOf_mv, map_keyOf, hold_eq]
  intro gone hgone left hleft
  have hg : gone.length ≤ 1000000000 := by rw [hgone]; exact Nat.le_trans (List.length_filter_le _ _) hl
  rw [← hgone, ← hleft]
  refine gb_by (by have h := isLim_self N row m; simp only [limS] at h; rw [h]; simpa using hl) ?_
  refine loopV_intro (α := Nat) (fun i => takeL_S (N + 2) left (delAll (gone.take i) m) gone i) (fun i => i ≤ gone.length) (fun i => gone.length - i) ?_ 0 (Nat.zero_le _)
  intro i hi L hL
  refine Eq.mpr (takeL_r (N + 2) left _ gone i L _) ?_
  simp only [hold_eq, kv_length]
  refine brV_by (fun h => ?_) (fun h => ?_)
  · have hlt : i < gone.length := by simpa using h
    have hn := hL (i + 1) hlt (by omega)
    rw [elemAt_kv gone i hlt]
    simp only [keyC, List.getD_cons_zero, List.getD_cons_succ, AVal.intOf, AVal.strOf, i64_succ hlt (by omega)]
    rw [delAll_take gone m i hlt, takeL_S, ← limS_map (N + 2) left (delAll (gone.take i) m)] at hn
    simp only [kv_length] at hn
    simp only [fold_key, mapDel_mv]
    exact gb_by (dt (by omega)) (gb_by rfl (gb_by (by rw [keysOk_mv]; rfl) hn))
  · have hge : ¬ i < gone.length := by simpa using h
    refine leaveTo (toCut (Eq.mpr (takeF_r Sto.empty gone _ _) ⟨rfl, ?_⟩))
    rw [List.take_of_length_le (by omega)]
    rfl

theorem take_ok : EntOk Try.prog takeE := by
  intro xs σ; simp only [takeE]; split
  · rename_i e N row es heq
    intro hc
    simp only [Bool.and_eq_true, hold_eq, decide_eq_true_eq] at hc
    rw [isLim_eq hc.1]
    exact take_c _ _ _ e (by simpa using hc.2)
  · trivial

theorem back_c (N : Nat) (row : List Key) (m : List (Key × Int)) (ks : List Key) (hl : row.length ≤ 1000000000) (hk : ks.length ≤ 140737488351232) :
    ACall Try.prog 12 [.ptr (.out 1) 0, .slice (kv ks) 4 .ro] (limS N row m) fun r τ =>
      r = .int .i64 ((row.filter fun k => ks.contains k).length : Int) ∧ τ = limS (N + 2) (row.filter fun k => !ks.contains k) (delAll (row.filter fun k => ks.contains k) m) := by
  refine back_i N row m ks _ (.of [outE] rfl ⟨out_ok, trivial⟩) ?_
  simp only [valOf_mv, map_keyOf, hold_eq]
  intro gone hgone left hleft
  have hg : gone.length ≤ 1000000000 := by rw [hgone]; exact Nat.le_trans (List.length_filter_le _ _) hl
  rw [← hgone, ← hleft]
  refine gb_by (by have h := isLim_self N row m; simp only [limS] at h; rw [h]; simp [okW_same]; omega) ?_
  refine loopV_intro (α := Nat) (fun i => backL_S (N + 2) left (delAll (gone.take i) m) gone i) (fun i => i ≤ gone.length) (fun i => gone.length - i) ?_ 0 (Nat.zero_le _)
  intro i hi L hL
  refine Eq.mpr (backL_r (N + 2) left _ gone i L _) ?_
  simp only [hold_eq, kv_length]
  refine brV_by (fun h => ?_) (fun h => ?_)
  · have hlt : i < gone.length := by simpa using h
    have hn := hL (i + 1) hlt (by omega)
    rw [elemAt_kv gone i hlt]
    simp only [keyC, List.getD_cons_zero, List.getD_cons_succ, AVal.intOf, AVal.strOf, i64_succ hlt (by omega)]
    rw [delAll_take gone m i hlt, backL_S, ← limS_map (N + 2) left (delAll (gone.take i) m)] at hn
    simp only [kv_length] at hn
    simp only [fold_key, mapDel_mv]
    exact gb_by (dt (by omega)) (gb_by rfl (gb_by (by rw [keysOk_mv]; rfl) hn))
  · have hge : ¬ i < gone.length := by simpa using h
    refine leaveTo (toCut (Eq.mpr (backF_r Sto.empty gone _ _) ⟨by simp only [kv_length], ?_⟩))
    rw [List.take_of_length_le (by omega)]
    rfl

theorem back_ok : EntOk Try.prog backE := by
  intro xs σ; simp only [backE]; split
  · rename_i ks s t N row es heq
    intro hc
    simp only [Bool.and_eq_true, hold_eq, decide_eq_true_eq] at hc
    obtain ⟨h1, h2, h3, h4, h5⟩ := hc
    rw [isLim_eq h3]
    exact (back_c _ _ _ (ks.map keyOf) (by simpa using h4) (by simpa using h5)).args (.cons (.refl _) (.cons (wk_kv t h1 h2) (.refl _)))
  · trivial

theorem retN_take (e : Int) (ks : List Key) (x : Nat × List Key × List (Key × Int)) (i : Nat) (h : i < ks.length) : retN e (ks.take (i + 1)) x = retStep e (retN e (ks.take i) x) ks[i] := by
  rw [List.take_succ_eq_append_getElem h]
  simp only [retN, List.foldl_append, List.foldl_cons, List.foldl_nil]
theorem ret_store (M : Nat) (row : List Key) (m m' : List (Key × Int)) (k : Key) : (((limS M row m).set 0 (.map (mv m'))).setOwn M ((kv row).length + 1)).set 1 (.cells [.slice (kv row ++ [keyV k]) 4 (.own M), .map (.out 0)]) = limS M (row ++ [k]) m' := by
  rw [limS_map]
  have := limS_row M row (row ++ [k]) m'
  simpa only [kv_append, List.length_append, List.length_cons, List.length_nil, Nat.zero_add, kv_length, show kv [k] = [keyV k] from rfl] using this
theorem retire_c (N : Nat) (row : List Key) (m : List (Key × Int)) (e : Int) (ks : List Key) (hl : row.length + ks.length ≤ 1000000000) :
    ACall Try.prog 8 [.ptr (.out 1) 0, .int .i64 e, .slice (kv ks) 4 .ro] (limS N row m) fun r τ =>
      r = .tuple [] ∧ τ = limS (retN e ks (N, row, m)).1 (retN e ks (N, row, m)).2.1 (retN e ks (N, row, m)).2.2 := by
  refine retire_i N row m e ks _ (.of [outE] rfl ⟨out_ok, trivial⟩) ?_
  refine loopV_intro (α := Nat × Nat × List Key × List (Key × Int)) (fun x => retireL_S x.2.1 x.2.2.1 x.2.2.2 e ks x.1) (fun x => x.1 ≤ ks.length ∧ x.2 = retN e (ks.take x.1) (N, row, m) ∧ x.2.2.1.length ≤ row.length + x.1) (fun x => ks.length - x.1) ?_ (0, N, row, m) ⟨Nat.zero_le _, rfl, Nat.le_refl _⟩
  rintro ⟨i, M, row', m'⟩ ⟨hi, hx, hr⟩ L hL
  simp only [] at hi hx hr
  refine Eq.mpr (retireL_r M row' m' e ks i L _) ?_
  simp only [hold_eq]
  refine brV_by (fun h => ?_) (fun h => ?_)
  · have hlt : i < ks.length := by simpa using h
    rw [elemAt_kv ks i hlt]
    have hstep := retN_take e ks (N, row, m) i hlt
    rw [← hx] at hstep
    generalize hkey : ks[i] = k at hstep
    simp only [keyC, List.getD_cons_zero, List.getD_cons_succ, AVal.intOf, AVal.strOf, i64_succ hlt (by omega), fold_key, epochVal, mapFind_isSome, map_keyOf, valOf_mv, mapPut_mv]
    refine gb_by (dt ⟨by omega, by simp; omega⟩) (gb_by rfl (gb_by (by rw [keysOk_mv]; rfl) (brV_by (fun hs => ?_) (fun hs => ?_))))
    · intro gone hgone left hleft
      obtain ⟨old, ho⟩ := Option.isSome_iff_exists.1 hs
      simp only [retStep, ho] at hstep
      have hll : left.length ≤ row'.length := by rw [hleft]; exact List.length_filter_le _ _
      have hn := hL (i + 1, M + 2, left ++ [k], putM k (max old e) m') ⟨hlt, by simp only []; rw [hstep, hleft], by simp only [List.length_append, List.length_cons, List.length_nil]; omega⟩ (by simp only []; omega)
      refine gb_by (by have h := isLim_self M row' m'; simp only [limS] at h; rw [h]; simp; omega) ?_
      have hmax : (if old < e then e else old) = max old e := by split <;> omega
      simp only [ho, Option.getD_some, hmax]
      rw [retireL_S, ← ret_store (M + 2) left m' _ k] at hn
      refine gb_by (by rw [keysOk_mv]; rfl) (gb_by ?_ hn)
      simp only [decide_eq_true_eq, true_and, and_true, kv_length]
      exact ⟨by simp [Sto.set], by omega, by omega⟩
    · have ho : epochOf m' k = none := by simpa using hs
      simp only [retStep, ho] at hstep
      have hn := hL (i + 1, M, row' ++ [k], putM k e m') ⟨hlt, by simp only []; rw [hstep], by simp only [List.length_append, List.length_cons, List.length_nil]; omega⟩ (by simp only []; omega)
      rw [retireL_S, ← ret_store M row' m' _ k] at hn
      refine gb_by (by rw [keysOk_mv]; rfl) (gb_by ?_ hn)
      simp only [decide_eq_true_eq, true_and, and_true, kv_length]
      exact ⟨by simp [Sto.set], by omega, by omega⟩
  · have hge : ¬ i < ks.length := by simpa using h
    rw [List.take_of_length_le (by omega)] at hx
    rw [← hx]
    exact leaveK ⟨rfl, rfl⟩

theorem retire_ok : EntOk Try.prog retireE := by
  intro xs σ; simp only [retireE]; split
  · rename_i e ks s t N row es heq
    intro hc
    simp only [Bool.and_eq_true, hold_eq, decide_eq_true_eq] at hc
    obtain ⟨h1, h2, h3, h4⟩ := hc
    rw [isLim_eq h3]
    exact (retire_c _ _ _ e (ks.map keyOf) (by simpa using h4)).args (.cons (.refl _) (.cons (.refl _) (.cons (wk_kv t h1 h2) (.refl _))))
  · trivial
end Go.Proofs.Ytakidnohmfebmaa
