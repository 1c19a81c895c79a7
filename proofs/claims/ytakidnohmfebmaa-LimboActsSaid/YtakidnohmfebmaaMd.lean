/-
  Seat 12 (limbo): contracts: the reference's Retire, Back, Take.
-/
import Derived.Test.YtakidnohmfebmaaMs
namespace Go.Proofs.Ytakidnohmfebmaa
open Go.AL
set_option linter.unusedSimpArgs false
set_option linter.unusedVariables false
set_option maxHeartbeats 4000000
set_option maxRecDepth 20000
def it0 : Key × Int := ((0, 0, 0, []), 0)
def retRl (e : Int) (k : Key) (l : List (Key × Int)) : List (Key × Int) :=
  match findI l k with
  | some i => l.eraseIdx i ++ [(k, max (l.getD i it0).2 e)]
  | none => l ++ [(k, e)]
def backRl (k : Key) (l : List (Key × Int)) : List (Key × Int) :=
  match findI l k with
  | some i => l.eraseIdx i
  | none => l
def backRn (k : Key) (l : List (Key × Int)) : Int := if (findI l k).isSome then 1 else 0
theorem findI_lt {l : List (Key × Int)} {k : Key} {i : Nat} (h : findI l k = some i) : i < l.length := by
  unfold findI at h
  rw [List.findIdx?_eq_some_iff_getElem] at h
  exact h.1
theorem isRefB (N : Nat) (l : List (Key × Int)) {b : Bool} (hb : b = true) : (isRef (refS N l) N ((itv l).map itemOf) && b) = true := by
  rw [map_itemOf, isRef_self, hb]; rfl
theorem ref_store (N : Nat) (l : List (Key × Int)) (x : Key × Int) : ((refS N l).setOwn N ((itv l).length + 1)).set 0 (.cells [.slice (itv l ++ [itemV x]) 5 (.own N)]) = refS N (l ++ [x]) := by
  simp only [refS, Sto.set, Sto.setOwn, Sto.mk.injEq, true_and]
  refine ⟨?_, ?_⟩
  · funext n; by_cases h : n = 0
    · simp [h, itv_append, itv]
    · simp [h]
  · funext q; by_cases h : q = N <;> simp [h]
theorem retR_c (N : Nat) (l : List (Key × Int)) (e : Int) (k : Key) (hl : l.length ≤ 100000000) :
    ACall Try.prog 13 [.ptr (.out 0) 0, .int .i64 e, keyV k] (refS N l) fun r τ => r = .tuple [] ∧ ∃ N', τ = refS N' (retRl e k l) := by
  refine retR_i N l e k _ (.of [findRE, dropRE] rfl ⟨findR_ok, dropR_ok, trivial⟩) ?_
  intro y hy
  rw [map_itemOf] at hy
  have hfin : ∀ (M : Nat) (l' : List (Key × Int)) (x : Key × Int), l'.length ≤ 100000000 → retRl e k l = l' ++ [x] →
      ∀ Q : Sto → Prop, (∀ τ, (∃ N', τ = refS N' (retRl e k l)) → Q τ) → Q (((refS M l').setOwn M ((itv l').length + 1)).set 0 (.cells [.slice (itv l' ++ [itemV x]) 5 (.own M)])) := fun M l' x h1 h2 Q hQ => by
    rw [ref_store]
    exact hQ _ ⟨M, by rw [h2]⟩
  refine gb_by (isRefB N l (by simp only [hold_eq, itv_length]; simp; omega)) (brV_by (fun h => ?_) (fun h => ?_))
  · simp only [hold_eq, decide_eq_true_eq] at h
    have hy : y = findN l k := hy
    unfold findN at hy
    cases hf : findI l k with
    | none => rw [hf] at hy; simp only [] at hy; omega
    | some i =>
      rw [hf] at hy
      simp only [] at hy
      subst hy
      have hi := findI_lt hf
      have hle : (l.eraseIdx i).length ≤ l.length := List.length_eraseIdx_le _ _
      have hg : l[i] = l.getD i it0 := by rw [List.getD_eq_getElem?_getD, List.getElem?_eq_getElem hi]; rfl
      simp only [elemAt_itv l i hi, itemC, List.drop_succ_cons, List.drop_zero, List.getD_cons_zero, AVal.intOf, itv_length, hold_eq, Int.toNat_natCast]
      have hr : retRl e k l = l.eraseIdx i ++ [(k, max l[i].2 e)] := by simp only [retRl, hf, hg]
      refine gb_by (dt (by omega)) (gb_by rfl (brV_by (fun h2 => ?_) (fun h2 => ?_)))
      · refine gb_by (dt (by omega)) (gb_by rfl ?_)
        intro l' hl'
        rw [map_itemOf] at hl'
        refine gb_by (isRefB N l (by simp; omega)) (gb_by ?_ ⟨by first | trivial | rfl, ?_⟩)
        · simp only [decide_eq_true_eq, true_and, and_true, if_pos]
          rw [hl']; omega
        · have hmax : max l[i].2 e = l[i].2 := by have : e < l[i].2 := by simpa using h2
                                                  omega
          rw [hmax] at hr
          have := hfin (N + 1) l' (k, l[i].2) (by rw [hl']; omega) (by rw [hr, hl']) (fun τ => ∃ N', τ = refS N' (retRl e k l)) fun τ h => h
          simpa only [refS, itemV, itv_length] using this
      · intro l' hl'
        rw [map_itemOf] at hl'
        refine gb_by (isRefB N l (by simp; omega)) (gb_by ?_ ⟨by first | trivial | rfl, ?_⟩)
        · simp only [decide_eq_true_eq, true_and, and_true, if_pos]
          rw [hl']; omega
        · have hmax : max l[i].2 e = e := by have : ¬ e < l[i].2 := by simpa using h2
                                             omega
          rw [hmax] at hr
          have := hfin (N + 1) l' (k, e) (by rw [hl']; omega) (by rw [hr, hl']) (fun τ => ∃ N', τ = refS N' (retRl e k l)) fun τ h => h
          simpa only [refS, itemV, itv_length] using this
  · simp only [hold_eq, decide_eq_false_iff_not] at h
    have hy : y = findN l k := hy
    unfold findN at hy
    cases hf : findI l k with
    | some i => rw [hf] at hy; simp only [] at hy; omega
    | none =>
      have hr : retRl e k l = l ++ [(k, e)] := by simp only [retRl, hf]
      refine gb_by ?_ ⟨by first | trivial | rfl, ?_⟩
      · simp only [decide_eq_true_eq, true_and, and_true, if_pos, itv_length]
        omega
      · have := hfin N l (k, e) hl hr (fun τ => ∃ N', τ = refS N' (retRl e k l)) fun τ h => h
        simpa only [refS, itemV, itv_length] using this
theorem backR_c (N : Nat) (l : List (Key × Int)) (k : Key) (hl : l.length ≤ 100000000) :
    ACall Try.prog 16 [.ptr (.out 0) 0, keyV k] (refS N l) fun r τ => r = .int .i64 (backRn k l) ∧ ∃ N', τ = refS N' (backRl k l) := by
  refine backR_i N l k _ (.of [findRE, dropRE] rfl ⟨findR_ok, dropR_ok, trivial⟩) ?_
  intro y hy
  rw [map_itemOf] at hy
  refine gb_by (isRefB N l (by simp; omega)) (brV_by (fun h => ?_) (fun h => ?_))
  · simp only [hold_eq, decide_eq_true_eq] at h
    have hy : y = findN l k := hy
    unfold findN at hy
    cases hf : findI l k with
    | some i => rw [hf] at hy; simp only [] at hy; omega
    | none => exact ⟨by simp only [backRn, hf]; rfl, N, by simp only [backRl, hf]; rfl⟩
  · simp only [hold_eq, decide_eq_false_iff_not] at h
    have hy : y = findN l k := hy
    unfold findN at hy
    cases hf : findI l k with
    | none => rw [hf] at hy; simp only [] at hy; omega
    | some i =>
      rw [hf] at hy
      simp only [] at hy
      subst hy
      have hi := findI_lt hf
      intro l' hl'
      rw [map_itemOf] at hl'
      refine gb_by (isRefB N l (by simp; omega)) ⟨by simp only [backRn, hf]; rfl, N + 1, ?_⟩
      simp only [backRl, hf]
      rw [hl', Int.toNat_natCast]
      rfl
def takeS (N : Nat) (l : List (Key × Int)) (a b : Nat) : Sto := ((refS N l).pushOwn a).pushOwn b
theorem takeS_g (N : Nat) (l : List (Key × Int)) (a b c : Nat) : (takeS N l a b).setOwn (N + 1) c = takeS N l c b := by
  simp only [takeS, refS, Sto.setOwn, Sto.pushOwn, Sto.mk.injEq, true_and]
  funext q; by_cases h : q = N + 1
  · subst h; simp
  · simp [h]
theorem takeS_l (N : Nat) (l : List (Key × Int)) (a b c : Nat) : (takeS N l a b).setOwn (N + 2) c = takeS N l a c := by
  simp only [takeS, refS, Sto.setOwn, Sto.pushOwn, Sto.mk.injEq, true_and]
  funext q; by_cases h : q = N + 2
  · subst h; simp
  · simp [h]
theorem takeS_og (N : Nat) (l : List (Key × Int)) (a b : Nat) : (takeS N l a b).own (N + 1) = some a := by simp [takeS, refS, Sto.pushOwn]
theorem takeS_ol (N : Nat) (l : List (Key × Int)) (a b : Nat) : (takeS N l a b).own (N + 2) = some b := by simp [takeS, refS, Sto.pushOwn]
theorem filter_takeI {p : Key × Int → Bool} {l : List (Key × Int)} {i : Nat} (h : i < l.length) : (l.take (i + 1)).filter p = (l.take i).filter p ++ (if p l[i] then [l[i]] else []) := by
  rw [List.take_succ_eq_append_getElem h, List.filter_append]
  congr 1
  by_cases hp : p l[i] = true <;> simp [hp]
theorem takeR_fin {f : FuncId} {args : List AVal} {σ : Sto} (N : Nat) (l left : List (Key × Int)) (gone : List Key)
    (h : ACall Try.prog f args σ fun r τ => r = .slice (kv gone) 4 (.own (N + 1)) ∧ τ = (takeS N l gone.length left.length).set 0 (.cells [.slice (itv left) 5 (.own (N + 2))])) :
    ACall Try.prog f args σ fun r τ => r = .slice (kv gone) 4 .ro ∧ τ = refS (N + 2) left := by
  refine ACall.dropOwn ((h.wk (Q' := fun r τ => r = .slice (kv gone) 4 .ro ∧ τ = (takeS N l gone.length left.length).set 0 (.cells [.slice (itv left) 5 (.own (N + 2))])) fun r τ hq => ⟨_, ?_, rfl, hq.2⟩).mono fun r τ hq => ?_)
  · rw [hq.1]; exact Wk.ro _ _ _
  · obtain ⟨rfl, rfl⟩ := hq
    refine ⟨(refS (N + 2) left).own, fun p k hp => ?_, rfl, ?_⟩
    · simp only [refS] at hp
      split at hp
      · rename_i e; subst e; simp only [Sto.set]; rw [takeS_ol]; exact hp
      · cases hp
    · simp only [takeS, refS, Sto.set, Sto.pushOwn, Sto.mk.injEq, true_and, and_true]
      funext n; by_cases h1 : n = 0
      · simp [h1]
      · simp [h1]
theorem takeR_c (N : Nat) (l : List (Key × Int)) (e : Int) (hl : l.length ≤ 100000000) :
    ACall Try.prog 15 [.ptr (.out 0) 0, .int .i64 e] (refS N l) fun r τ => r = .slice (kv ((l.filter fun x => decide (x.2 < e)).map (·.1))) 4 .ro ∧ ∃ N', τ = refS N' (l.filter fun x => !decide (x.2 < e)) := by
  refine (takeR_fin N l (l.filter fun x => !decide (x.2 < e)) ((l.filter fun x => decide (x.2 < e)).map (·.1)) ?_).mono fun r τ h => ⟨h.1, _, h.2⟩
  refine takeR_i N l e _ (.of_none rfl) ?_
  refine loopV_intro (α := Nat × List Key × List (Key × Int)) (fun x => takeRL_S N l e x.2.1 x.2.2 x.1) (fun x => x.1 ≤ l.length ∧ x.2.1 = ((l.take x.1).filter fun x => decide (x.2 < e)).map (·.1) ∧ x.2.2 = (l.take x.1).filter fun x => !decide (x.2 < e)) (fun x => l.length - x.1) ?_ (0, [], []) ⟨Nat.zero_le _, rfl, rfl⟩
  rintro ⟨i, g, r⟩ ⟨hi, hg, hr⟩ L hL
  simp only [] at hi hg hr
  refine Eq.mpr (takeRL_r N l e g r i L _) ?_
  simp only [hold_eq, itv_length, kv_length]
  refine brV_by (fun h => ?_) (fun h => ?_)
  · have hlt : i < l.length := by simpa using h
    have hg2 : g.length ≤ l.length := by rw [hg, List.length_map]; exact Nat.le_trans (List.length_filter_le _ _) (by simp; omega)
    have hr2 : r.length ≤ l.length := by rw [hr]; exact Nat.le_trans (List.length_filter_le _ _) (by simp; omega)
    rw [elemAt_itv l i hlt]
    generalize hkey : l[i] = x
    obtain ⟨⟨a, b, c, d⟩, y⟩ := x
    simp only [itemC, List.drop_zero, List.drop_succ_cons, List.getD_cons_zero, List.getD_cons_succ, AVal.intOf, AVal.strOf, i64_succ hlt (by omega), kv_length]
    refine gb_by (dt (by omega)) (gb_by rfl (brV_by (fun hp => ?_) (fun hp => ?_)))
    · have hp : y < e := by simpa using hp
      have hn := hL (i + 1, g ++ [(a, b, c, d)], r) ⟨hlt, by simp only []; rw [filter_takeI hlt, hkey, if_pos (by simpa using hp), List.map_append, ← hg]; rfl, by simp only []; rw [filter_takeI hlt, hkey, if_neg (by simpa using hp), ← hr, List.append_nil]⟩ (by simp only []; omega)
      simp only [kv_append, List.length_append, List.length_cons, List.length_nil, takeRL_S, kv_length, itv_length, Nat.zero_add] at hn
      have hs := takeS_g N l g.length r.length (g.length + 1)
      simp only [takeS] at hs
      rw [← hs] at hn
      refine gb_by (dt (by omega)) (gb_by rfl (gb_by ?_ hn))
      have := takeS_og N l g.length r.length
      simp only [takeS, refS] at this
      simp only [decide_eq_true_eq, true_and, and_true]
      exact ⟨this, by omega, by omega⟩
    · have hp : ¬ y < e := by simpa using hp
      have hn := hL (i + 1, g, r ++ [((a, b, c, d), y)]) ⟨hlt, by simp only []; rw [filter_takeI hlt, hkey, if_neg (by simpa using hp), List.append_nil, ← hg], by simp only []; rw [filter_takeI hlt, hkey, if_pos (by simpa using hp), ← hr]⟩ (by simp only []; omega)
      simp only [itv_append, List.length_append, List.length_cons, List.length_nil, takeRL_S, kv_length, itv_length, Nat.zero_add] at hn
      have hs := takeS_l N l g.length r.length (r.length + 1)
      simp only [takeS] at hs
      rw [← hs] at hn
      refine gb_by (dt (by omega)) (gb_by rfl (gb_by ?_ hn))
      have := takeS_ol N l g.length r.length
      simp only [takeS, refS] at this
      simp only [decide_eq_true_eq, true_and, and_true]
      exact ⟨this, by omega, by omega⟩
  · have hge : ¬ i < l.length := by simpa using h
    rw [List.take_of_length_le (by omega)] at hg hr
    refine leaveTo (toCut (Eq.mpr (takeRF_r N l g r g.length r.length _) ⟨?_, ?_⟩))
    · rw [hg]
    · rw [← hg, ← hr]; simp only [takeS, refS]
end Go.Proofs.Ytakidnohmfebmaa
