/-
  Seat 12 (limbo): contracts: what is taken out of a row.
-/
import Derived.Test.YtakidnohmfebmaaLs
namespace Go.Proofs.Ytakidnohmfebmaa
open Go.AL
set_option linter.unusedSimpArgs false
set_option linter.unusedVariables false
set_option maxHeartbeats 4000000
set_option maxRecDepth 20000

theorem outS_g (N : Nat) (row : List Key) (m : List (Key × Int)) (a b c : Nat) : (outS N row m a b).setOwn (N + 1) c = outS N row m c b := by
  simp only [outS, limS, Sto.setOwn, Sto.pushOwn, Sto.mk.injEq, true_and]
  funext q; by_cases h : q = N + 1
  · subst h; simp
  · simp [h]
theorem outS_l (N : Nat) (row : List Key) (m : List (Key × Int)) (a b c : Nat) : (outS N row m a b).setOwn (N + 2) c = outS N row m a c := by
  simp only [outS, limS, Sto.setOwn, Sto.pushOwn, Sto.mk.injEq, true_and]
  funext q; by_cases h : q = N + 2
  · subst h; simp
  · simp [h]
theorem outS_og (N : Nat) (row : List Key) (m : List (Key × Int)) (a b : Nat) : (outS N row m a b).own (N + 1) = some a := by simp [outS, limS, Sto.pushOwn]
theorem outS_ol (N : Nat) (row : List Key) (m : List (Key × Int)) (a b : Nat) : (outS N row m a b).own (N + 2) = some b := by simp [outS, limS, Sto.pushOwn]
theorem valOf_mv (m : List (Key × Int)) : valOf (mv m) = m := by
  simp only [valOf, mv, List.map_map]
  conv => rhs; rw [← List.map_id m]
  exact List.map_congr_left fun b _ => rfl
theorem isMv_mv (m : List (Key × Int)) : isMv (mv m) = true := by simp only [isMv, hold_eq, decide_eq_true_eq, valOf_mv]
theorem filter_take {p : Key → Bool} {row : List Key} {i : Nat} (h : i < row.length) : (row.take (i + 1)).filter p = (row.take i).filter p ++ (if p row[i] then [row[i]] else []) := by
  rw [List.take_succ_eq_append_getElem h, List.filter_append]
  congr 1
  by_cases hp : p row[i] = true <;> simp [hp]

theorem out_fin {f : FuncId} {args : List AVal} {σ : Sto} (N : Nat) (row gone left : List Key) (m : List (Key × Int))
    (h : ACall Try.prog f args σ fun r τ => r = .slice (kv gone) 4 (.own (N + 1)) ∧ τ = (outS N row m gone.length left.length).set 1 (.cells [.slice (kv left) 4 (.own (N + 2)), .map (.out 0)])) :
    ACall Try.prog f args σ fun r τ => r = .slice (kv gone) 4 .ro ∧ τ = limS (N + 2) left m := by
  refine ACall.dropOwn ((h.wk (Q' := fun r τ => r = .slice (kv gone) 4 .ro ∧ τ = (outS N row m gone.length left.length).set 1 (.cells [.slice (kv left) 4 (.own (N + 2)), .map (.out 0)])) fun r τ hq => ⟨_, ?_, rfl, hq.2⟩).mono fun r τ hq => ?_)
  · rw [hq.1]; exact Wk.ro _ _ _
  · obtain ⟨rfl, rfl⟩ := hq
    refine ⟨(limS (N + 2) left m).own, fun p k hp => ?_, rfl, ?_⟩
    · simp only [limS] at hp
      split at hp
      · rename_i e; subst e; simp only [Sto.set]; rw [outS_ol]; exact hp
      · cases hp
    · simp only [outS, limS, Sto.set, Sto.pushOwn, Sto.mk.injEq, true_and, and_true]
      funext n; by_cases h1 : n = 1
      · simp [h1]
      · simp [h1]

theorem outR_c (N : Nat) (row : List Key) (m : List (Key × Int)) (k : Key) (p : Key → Bool) (hP : p = (fun x => x == k)) (hl : row.length ≤ 1000000000) : ACall Try.prog 21 [.ptr (.out 1) 0, fR k] (limS N row m) fun r τ =>
    r = .slice (kv (row.filter p)) 4 .ro ∧ τ = limS (N + 2) (row.filter fun x => !p x) m := by
  refine out_fin N row _ _ m (outR_i N row m k _ (.of [ret1E, take1E, back1E] rfl ⟨ret1_ok, take1_ok, back1_ok, trivial⟩) ?_)
  refine loopV_intro (α := Nat × List Key × List Key) (fun x => outRL_S N row m k x.2.1 x.2.2 x.1) (fun x => x.1 ≤ row.length ∧ x.2.1 = (row.take x.1).filter p ∧ x.2.2 = (row.take x.1).filter fun x => !p x) (fun x => row.length - x.1) ?_ (0, [], []) ⟨Nat.zero_le _, rfl, rfl⟩
  rintro ⟨i, g, l⟩ ⟨hi, hg, hl'⟩ L hL
  simp only [] at hi hg hl'
  refine Eq.mpr (outRL_r N row m k g l i L _) ?_
  simp only [hold_eq, kv_length]
  refine brV_by (fun h => ?_) (fun h => ?_)
  · have hlt : i < row.length := by simpa using h
    have hg2 : g.length ≤ 1000000000 := by rw [hg]; exact Nat.le_trans (List.length_filter_le _ _) (by simp; omega)
    have hl2 : l.length ≤ 1000000000 := by rw [hl']; exact Nat.le_trans (List.length_filter_le _ _) (by simp; omega)
    rw [elemAt_kv row i hlt]
    have hx := hP
    replace hx : p row[i] = (fun x => x == k) row[i] := by rw [hx]
    generalize hkey : row[i] = key at hx
    obtain ⟨a, b, c, d⟩ := key
    simp only [keyC, List.getD_cons_zero, List.getD_cons_succ, AVal.intOf, AVal.strOf, i64_succ hlt (by omega)]
    refine gb_by (dt (by omega)) (gb_by rfl (brV_by (fun hp => ?_) (fun hp => ?_)))
    · have hp : p row[i] = true := by rw [hkey, hx]; obtain ⟨k1, k2, k3, k4⟩ := k; simpa using hp
      have hn := hL (i + 1, g ++ [(a, b, c, d)], l) ⟨hlt, by simp only []; rw [filter_take hlt, if_pos hp, ← hg, hkey], by simp only []; rw [filter_take hlt, if_neg (by simp [hp]), ← hl', List.append_nil]⟩ (by simp only []; omega)
      simp only [kv_append, List.length_append, List.length_cons, List.length_nil, outRL_S, kv_length, Nat.zero_add] at hn
      rw [← outS_g N row m g.length] at hn
      refine gb_by ?_ hn
      have := outS_og N row m g.length l.length
      simp only [outS, limS] at this
      simp only [decide_eq_true_eq, true_and, and_true]
      exact ⟨this, by omega, by omega⟩
    · have hp : ¬ p row[i] = true := by rw [hkey, hx]; obtain ⟨k1, k2, k3, k4⟩ := k; simpa using hp
      have hn := hL (i + 1, g, l ++ [(a, b, c, d)]) ⟨hlt, by simp only []; rw [filter_take hlt, if_neg hp, ← hg, List.append_nil], by simp only []; rw [filter_take hlt, if_pos (by simpa using hp), ← hl', hkey]⟩ (by simp only []; omega)
      simp only [kv_append, List.length_append, List.length_cons, List.length_nil, outRL_S, kv_length, Nat.zero_add] at hn
      rw [← outS_l N row m g.length l.length] at hn
      refine gb_by ?_ hn
      have := outS_ol N row m g.length l.length
      simp only [outS, limS] at this
      simp only [decide_eq_true_eq, true_and, and_true]
      exact ⟨this, by omega, by omega⟩
  · have hge : ¬ i < row.length := by simpa using h
    rw [List.take_of_length_le (by omega)] at hg hl'
    refine leaveTo (toCut (Eq.mpr (outF_r N row m g l g.length l.length _) ⟨?_, ?_⟩))
    · rw [hg]
    · rw [← hg, ← hl']; simp only [outS, limS]

theorem outT_c (N : Nat) (row : List Key) (m : List (Key × Int)) (k : Int) (p : Key → Bool) (hP : p = (below m k)) (hl : row.length ≤ 1000000000) : ACall Try.prog 21 [.ptr (.out 1) 0, fT k] (limS N row m) fun r τ =>
    r = .slice (kv (row.filter p)) 4 .ro ∧ τ = limS (N + 2) (row.filter fun x => !p x) m := by
  refine out_fin N row _ _ m (outT_i N row m k _ (.of [ret1E, take1E, back1E] rfl ⟨ret1_ok, take1_ok, back1_ok, trivial⟩) ?_)
  refine loopV_intro (α := Nat × List Key × List Key) (fun x => outTL_S N row m k x.2.1 x.2.2 x.1) (fun x => x.1 ≤ row.length ∧ x.2.1 = (row.take x.1).filter p ∧ x.2.2 = (row.take x.1).filter fun x => !p x) (fun x => row.length - x.1) ?_ (0, [], []) ⟨Nat.zero_le _, rfl, rfl⟩
  rintro ⟨i, g, l⟩ ⟨hi, hg, hl'⟩ L hL
  simp only [] at hi hg hl'
  refine Eq.mpr (outTL_r N row m k g l i L _) ?_
  simp only [hold_eq, kv_length]
  refine brV_by (fun h => ?_) (fun h => ?_)
  · have hlt : i < row.length := by simpa using h
    have hg2 : g.length ≤ 1000000000 := by rw [hg]; exact Nat.le_trans (List.length_filter_le _ _) (by simp; omega)
    have hl2 : l.length ≤ 1000000000 := by rw [hl']; exact Nat.le_trans (List.length_filter_le _ _) (by simp; omega)
    rw [elemAt_kv row i hlt]
    have hx := hP
    replace hx : p row[i] = (below m k) row[i] := by rw [hx]
    generalize hkey : row[i] = key at hx
    obtain ⟨a, b, c, d⟩ := key
    simp only [keyC, List.getD_cons_zero, List.getD_cons_succ, AVal.intOf, AVal.strOf, i64_succ hlt (by omega)]
    refine gb_by (dt (by omega)) (gb_by rfl (gb_by (isMv_mv m) (brV_by (fun hp => ?_) (fun hp => ?_))))
    · have hp : p row[i] = true := by rw [hkey, hx]; simpa [valOf_mv] using hp
      have hn := hL (i + 1, g ++ [(a, b, c, d)], l) ⟨hlt, by simp only []; rw [filter_take hlt, if_pos hp, ← hg, hkey], by simp only []; rw [filter_take hlt, if_neg (by simp [hp]), ← hl', List.append_nil]⟩ (by simp only []; omega)
      simp only [kv_append, List.length_append, List.length_cons, List.length_nil, outTL_S, kv_length, Nat.zero_add] at hn
      rw [← outS_g N row m g.length] at hn
      refine gb_by ?_ hn
      have := outS_og N row m g.length l.length
      simp only [outS, limS] at this
      simp only [decide_eq_true_eq, true_and, and_true]
      exact ⟨this, by omega, by omega⟩
    · have hp : ¬ p row[i] = true := by rw [hkey, hx]; simpa [valOf_mv] using hp
      have hn := hL (i + 1, g, l ++ [(a, b, c, d)]) ⟨hlt, by simp only []; rw [filter_take hlt, if_neg hp, ← hg, List.append_nil], by simp only []; rw [filter_take hlt, if_pos (by simpa using hp), ← hl', hkey]⟩ (by simp only []; omega)
      simp only [kv_append, List.length_append, List.length_cons, List.length_nil, outTL_S, kv_length, Nat.zero_add] at hn
      rw [← outS_l N row m g.length l.length] at hn
      refine gb_by ?_ hn
      have := outS_ol N row m g.length l.length
      simp only [outS, limS] at this
      simp only [decide_eq_true_eq, true_and, and_true]
      exact ⟨this, by omega, by omega⟩
  · have hge : ¬ i < row.length := by simpa using h
    rw [List.take_of_length_le (by omega)] at hg hl'
    refine leaveTo (toCut (Eq.mpr (outF_r N row m g l g.length l.length _) ⟨?_, ?_⟩))
    · rw [hg]
    · rw [← hg, ← hl']; simp only [outS, limS]

theorem outB_c (N : Nat) (row : List Key) (m : List (Key × Int)) (k : List Key) (p : Key → Bool) (hP : p = (fun x => k.contains x)) (hl : row.length ≤ 1000000000) (hk : k.length ≤ 140737488351232) : ACall Try.prog 21 [.ptr (.out 1) 0, fB k] (limS N row m) fun r τ =>
    r = .slice (kv (row.filter p)) 4 .ro ∧ τ = limS (N + 2) (row.filter fun x => !p x) m := by
  refine out_fin N row _ _ m (outB_i N row m k _ (.of [ret1E, take1E, back1E] rfl ⟨ret1_ok, take1_ok, back1_ok, trivial⟩) ?_)
  refine loopV_intro (α := Nat × List Key × List Key) (fun x => outBL_S N row m k x.2.1 x.2.2 x.1) (fun x => x.1 ≤ row.length ∧ x.2.1 = (row.take x.1).filter p ∧ x.2.2 = (row.take x.1).filter fun x => !p x) (fun x => row.length - x.1) ?_ (0, [], []) ⟨Nat.zero_le _, rfl, rfl⟩
  rintro ⟨i, g, l⟩ ⟨hi, hg, hl'⟩ L hL
  simp only [] at hi hg hl'
  refine Eq.mpr (outBL_r N row m k g l i L _) ?_
  simp only [hold_eq, kv_length]
  refine brV_by (fun h => ?_) (fun h => ?_)
  · have hlt : i < row.length := by simpa using h
    have hg2 : g.length ≤ 1000000000 := by rw [hg]; exact Nat.le_trans (List.length_filter_le _ _) (by simp; omega)
    have hl2 : l.length ≤ 1000000000 := by rw [hl']; exact Nat.le_trans (List.length_filter_le _ _) (by simp; omega)
    rw [elemAt_kv row i hlt]
    have hx := hP
    replace hx : p row[i] = (fun x => k.contains x) row[i] := by rw [hx]
    generalize hkey : row[i] = key at hx
    obtain ⟨a, b, c, d⟩ := key
    simp only [keyC, List.getD_cons_zero, List.getD_cons_succ, AVal.intOf, AVal.strOf, i64_succ hlt (by omega)]
    refine gb_by (dt (by omega)) (gb_by rfl (gb_by (by simp [okW_same]; omega) (brV_by (fun hp => ?_) (fun hp => ?_))))
    · have hp : p row[i] = true := by rw [hkey, hx]; simpa using hp
      have hn := hL (i + 1, g ++ [(a, b, c, d)], l) ⟨hlt, by simp only []; rw [filter_take hlt, if_pos hp, ← hg, hkey], by simp only []; rw [filter_take hlt, if_neg (by simp [hp]), ← hl', List.append_nil]⟩ (by simp only []; omega)
      simp only [kv_append, List.length_append, List.length_cons, List.length_nil, outBL_S, kv_length, Nat.zero_add] at hn
      rw [← outS_g N row m g.length] at hn
      refine gb_by ?_ hn
      have := outS_og N row m g.length l.length
      simp only [outS, limS] at this
      simp only [decide_eq_true_eq, true_and, and_true]
      exact ⟨this, by omega, by omega⟩
    · have hp : ¬ p row[i] = true := by rw [hkey, hx]; simpa using hp
      have hn := hL (i + 1, g, l ++ [(a, b, c, d)]) ⟨hlt, by simp only []; rw [filter_take hlt, if_neg hp, ← hg, List.append_nil], by simp only []; rw [filter_take hlt, if_pos (by simpa using hp), ← hl', hkey]⟩ (by simp only []; omega)
      simp only [kv_append, List.length_append, List.length_cons, List.length_nil, outBL_S, kv_length, Nat.zero_add] at hn
      rw [← outS_l N row m g.length l.length] at hn
      refine gb_by ?_ hn
      have := outS_ol N row m g.length l.length
      simp only [outS, limS] at this
      simp only [decide_eq_true_eq, true_and, and_true]
      exact ⟨this, by omega, by omega⟩
  · have hge : ¬ i < row.length := by simpa using h
    rw [List.take_of_length_le (by omega)] at hg hl'
    refine leaveTo (toCut (Eq.mpr (outF_r N row m g l g.length l.length _) ⟨?_, ?_⟩))
    · rw [hg]
    · rw [← hg, ← hl']; simp only [outS, limS]

theorem outP_some {m : List (Key × Int)} {f : AVal} {c : Bool} {p : Key → Bool} (h : outP m f = some (c, p)) :
    (∃ k, f = fR k ∧ p = fun x => x == k) ∨ (∃ e, f = fT e ∧ p = below m e) ∨ (∃ es s t, f = .func (.func 24) [] [.iptr [.slice es s t]] ∧ c = (okW 4 s es && (es.all keyIs && hold (decide (es.length ≤ 140737488351232)))) ∧ p = fun k => (es.map keyOf).contains k) := by
  unfold outP at h
  split at h
  · rename_i g cs
    split at h
    · cases h
      have := Nat.eq_of_beq_eq_true (by assumption : Nat.beq g 22 = true)
      subst this
      exact .inl ⟨(_, _, _, _), rfl, rfl⟩
    · cases h
      have := Nat.eq_of_beq_eq_true (by assumption : Nat.beq g 23 = true)
      subst this
      exact .inr (.inl ⟨_, rfl, rfl⟩)
    · cases h
      have := Nat.eq_of_beq_eq_true (by assumption : Nat.beq g 24 = true)
      subst this
      exact .inr (.inr ⟨_, _, _, rfl, rfl, rfl⟩)
    · cases h
  · cases h
theorem wk_func {fn : Fn} {f xs ys : List AVal} (h : WkL xs ys) : Wk (.func fn f xs) (.func fn f ys) := fun γ w l v hr => by
  cases hr with
  | func h1 h2 => exact .func h1 (h _ _ _ _ h2)
theorem out_ok : EntOk Try.prog outE := by
  intro xs σ; simp only [outE]; split
  · rename_i f N row es heq
    split
    · rename_i c p hp
      intro hc
      simp only [Bool.and_eq_true, hold_eq, decide_eq_true_eq, isLim] at hc
      obtain ⟨h1, h2, h3⟩ := hc
      rw [h2]
      have hl : (row.map keyOf).length ≤ 1000000000 := by simpa using h3
      rcases outP_some hp with ⟨k, rfl, hP⟩ | ⟨e, rfl, hP⟩ | ⟨fs, s, t, rfl, rfl, hP⟩
      · exact outR_c _ _ _ k p hP hl
      · exact outT_c _ _ _ e p hP hl
      · simp only [Bool.and_eq_true, hold_eq, decide_eq_true_eq] at h1
        obtain ⟨g1, g2, g3⟩ := h1
        exact (outB_c _ _ _ (fs.map keyOf) p hP hl (by simpa using g3)).args (.cons (.refl _) (.cons (wk_func (.cons (wk_iptr (.cons (wk_kv t g1 g2) (.refl _)) rfl) (.refl _))) (.refl _)))
    · trivial
  · trivial
end Go.Proofs.Ytakidnohmfebmaa
