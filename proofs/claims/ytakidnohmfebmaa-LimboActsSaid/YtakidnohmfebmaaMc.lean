/-
  Seat 12 (limbo): contracts: the reference's Find, drop.
-/
import Derived.Test.YtakidnohmfebmaaMr
namespace Go.Proofs.Ytakidnohmfebmaa
open Go.AL
set_option linter.unusedSimpArgs false
set_option linter.unusedVariables false
set_option maxHeartbeats 4000000
set_option maxRecDepth 20000
theorem itv_take (l : List (Key × Int)) (n : Nat) : (itv l).take n = itv (l.take n) := by simp [itv]
theorem itv_drop (l : List (Key × Int)) (n : Nat) : (itv l).drop n = itv (l.drop n) := by simp [itv]
theorem findI_at {l : List (Key × Int)} {k : Key} {i : Nat} (h : i < l.length) (hp : ∀ x ∈ l.take i, x.1 ≠ k) (he : l[i].1 = k) : findI l k = some i := by
  unfold findI
  rw [List.findIdx?_eq_some_iff_getElem]
  refine ⟨h, by simpa using he, fun j hj => ?_⟩
  have := hp l[j] (List.mem_take_iff_getElem.2 ⟨j, by omega, rfl⟩)
  simpa using this
theorem findI_none {l : List (Key × Int)} {k : Key} (hp : ∀ x ∈ l, x.1 ≠ k) : findI l k = none := by
  unfold findI
  rw [List.findIdx?_eq_none_iff]
  intro x hx
  simpa using hp x hx
theorem find_c (N : Nat) (l : List (Key × Int)) (k : Key) (hl : l.length ≤ 1000000000) :
    ACall Try.prog 17 [.ptr (.out 0) 0, keyV k] (refS N l) fun r τ => r = .int .i64 (findN l k) ∧ τ = refS N l := by
  refine findR_i N l k _ (.of_none rfl) ?_
  refine loopV_intro (α := Nat) (fun i => findRL_S N l k i) (fun i => i ≤ l.length ∧ ∀ x ∈ l.take i, x.1 ≠ k) (fun i => l.length - i) ?_ 0 ⟨Nat.zero_le _, fun x hx => by simp at hx⟩
  rintro i ⟨hi, hpre⟩ L hL
  refine Eq.mpr (findRL_r N l k i L _) ?_
  simp only [hold_eq, itv_length]
  refine brV_by (fun h => ?_) (fun h => ?_)
  · have hlt : i < l.length := by simpa using h
    rw [elemAt_itv l i hlt]
    simp only [itemC, List.drop_zero, List.getD_cons_zero, List.getD_cons_succ, AVal.intOf, AVal.strOf, i64_succ hlt (by omega), itv_length, key_beq]
    refine gb_by (dt (by omega)) (gb_by rfl (brV_by (fun h => ?_) (fun h => ?_)))
    · have e : l[i].1 = k := by simpa using h
      refine ⟨?_, rfl⟩
      show AVal.int .i64 (i : Int) = _
      unfold findN
      rw [findI_at hlt hpre e]
    · have e : l[i].1 ≠ k := by simpa using h
      have := hL (i + 1) ⟨hlt, fun x hx => ?_⟩ (by omega)
      · simpa only [findRL_S, keyC, itv_length, refS] using this
      · rw [List.take_succ_eq_append_getElem hlt] at hx
        rcases List.mem_append.1 hx with h1 | h1
        · exact hpre x h1
        · simp at h1; subst h1; exact e
  · have hge : ¬ i < l.length := by simpa using h
    rw [List.take_of_length_le (by omega)] at hpre
    refine ⟨?_, rfl⟩
    show AVal.int .i64 (-1) = _
    unfold findN
    rw [findI_none hpre]
theorem drop_c (N : Nat) (l : List (Key × Int)) (i : Nat) (hi : i < l.length) (hl : l.length ≤ 1000000000) :
    ACall Try.prog 26 [.ptr (.out 0) 0, .int .i64 (i : Int)] (refS N l) fun r τ => r = .tuple [] ∧ τ = refS (N + 1) (l.eraseIdx i) := by
  refine ACall.dropOwn ?_
  refine dropR_i N l i _ (.of_none rfl) ?_
  simp only [Int.toNat_natCast, Nat.sub_zero, List.drop_zero, itv_take, itv_length]
  have hw := wrap_i64 (n := (i : Int) + 1) (by omega) (by omega)
  refine gb_by (dt (by omega)) (gb_by (by simp; omega) (toCut (Eq.mpr (dropRF_r N l (l.take i) i (l.take i).length _) ?_)))
  have e1 : Int.toNat ((i : Int) + 1) = i + 1 := by omega
  simp only [hw, e1, Int.toNat_natCast, itv_length, itv_drop, itv_take]
  have e2 : (l.drop (i + 1)).take (l.length - (i + 1)) = l.drop (i + 1) := List.take_of_length_le (by simp)
  have e3 : l.take i ++ l.drop (i + 1) = l.eraseIdx i := (List.eraseIdx_eq_take_drop_succ l i).symm
  have e4 : (l.take i).length + (l.drop (i + 1)).length = (l.eraseIdx i).length := by rw [← e3, List.length_append]
  rw [e2]
  have hle : (l.eraseIdx i).length ≤ l.length := List.length_eraseIdx_le _ _
  refine gb_by (dt (by omega)) (gb_by ?_ ?_)
  · simp only [Sto.pushOwn, decide_eq_true_eq, true_and, and_true, if_pos]
    rw [e4]
    exact ⟨by omega, by omega⟩
  · refine ⟨(refS (N + 1) (l.eraseIdx i)).own, fun p k hp => ?_, trivial, ?_⟩
    · simp only [refS] at hp
      split at hp
      · rename_i e; subst e
        simp only [Sto.set, Sto.setOwn, if_pos, itv_length, e4]
        first | exact hp | simpa using hp
      · cases hp
    · rw [← itv_append, e3]
      simp only [refS, Sto.set, Sto.pushOwn, Sto.setOwn, Sto.mk.injEq, true_and, and_true]
      funext n; by_cases h1 : n = 0
      · simp [h1]
      · simp [h1]
theorem isRef_self (N : Nat) (l : List (Key × Int)) : isRef (refS N l) N l = true := by simp only [isRef, hold_eq, decide_eq_true_eq]
theorem isRef_eq {σ : Sto} {N : Nat} {l : List (Key × Int)} (h : isRef σ N l = true) : σ = refS N l := by simpa only [isRef, hold_eq, decide_eq_true_eq] using h
@[simp] theorem map_itemOf (l : List (Key × Int)) : (itv l).map itemOf = l := by
  simp only [itv, List.map_map]
  conv => rhs; rw [← List.map_id l]
  exact List.map_congr_left fun b _ => rfl
theorem findR_ok : EntOk Try.prog findRE := by
  intro xs σ; simp only [findRE]; split
  · rename_i a b c d N row heq
    intro hc
    simp only [Bool.and_eq_true, hold_eq, decide_eq_true_eq] at hc
    obtain ⟨h1, h2⟩ := hc
    have e := isRef_eq h1
    unfold FCall
    have := find_c N (row.map itemOf) (a, b, c, d) (by simpa using h2)
    rw [← e] at this
    exact this
  · trivial
theorem dropR_ok : EntOk Try.prog dropRE := by
  intro xs σ; simp only [dropRE]; split
  · rename_i i N row heq
    intro hc
    simp only [Bool.and_eq_true, hold_eq, decide_eq_true_eq] at hc
    obtain ⟨h1, h2, h3, h4⟩ := hc
    have e := isRef_eq h1
    unfold FCall
    obtain ⟨n, rfl⟩ : ∃ n : Nat, i = n := ⟨i.toNat, by omega⟩
    have := drop_c N (row.map itemOf) n (by simp; omega) (by simpa using h4)
    rw [← e] at this
    exact this
  · trivial
end Go.Proofs.Ytakidnohmfebmaa
