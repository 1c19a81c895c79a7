/-
  Seat 10 (chunk): contracts: the least number that is free.
-/
import Derived.Test.YtjdjecaclbdhhaaCf
namespace Go.Proofs.Ytjdjecaclbdhhaa
open Go.AL
set_option linter.unusedSimpArgs false
set_option linter.unusedVariables false
set_option maxHeartbeats 2000000
set_option maxRecDepth 20000

def sto1 (n : Int) : Sto := Sto.push Sto.empty (.cells [.int .i64 n])
theorem isN1_of {σ : Sto} {k : Nat} {n : Int} (h : isN1 σ k n = true) : k = 0 ∧ σ = sto1 n := by
  simp only [isN1, Bool.and_eq_true, hold_eq, decide_eq_true_eq, Nat.beq_eq] at h
  exact h
theorem n1Of_mk (n : Int) : n1Of (sto1 n) 0 = n := rfl
theorem isN1_mk (n : Int) : isN1 (sto1 n) 0 n = true := by
  simp [isN1, hold_eq, sto1]
theorem fresh1_ok : EntOk Try.prog fresh1E := by
  intro xs σ; simp only [fresh1E]; split
  · rename_i v k
    intro hc
    simp only [Bool.and_eq_true] at hc
    obtain ⟨h1, h2⟩ := hc
    generalize n1Of σ k = n at h2 ⊢
    obtain ⟨rfl, rfl⟩ := isN1_of h2
    refine ACall.args (args := [ckV (ckOf v), .ptr (.out 0) 0]) ?_ (.cons (wk_ck h1) (.refl _))
    exact fresh1_i (ckOf v) n _ (.of_none rfl) ⟨rfl, rfl⟩
  · trivial
theorem nosC_get (l : List Ck) (i : Nat) (h : i < l.length) : (nosC l)[i]'(by simpa [nosC] using h) = l[i].1 := by simp [nosC]
theorem indexF_c (l : List Ck) (x : Int) (hl : l.length ≤ 1000000) : ACall Try.prog 55 [.slice (ckv l) 4 .ro, .func (.func 50) [] [.ptr (.out 0) 0]] (sto1 x) fun r τ => r = .int .i64 (if (nosC l).contains x then ((nosC l).idxOf x : Int) else -1) ∧ τ = sto1 x := by
  refine indexF_i l x _ (.of [fresh1E] rfl ⟨fresh1_ok, trivial⟩) ?_
  have hn : (ckv l).length = l.length := ckv_length l
  have hnl : (nosC l).length = l.length := by simp [nosC]
  refine loopV_intro (α := Nat) (fun i => indexFL_S l x (ckv l).length i) (fun i => i ≤ l.length ∧ ∀ y ∈ (nosC l).take i, y ≠ x) (fun i => l.length - i) ?_ 0 ⟨Nat.zero_le _, fun x hx => by simp at hx⟩
  rintro i ⟨hi, hpre⟩ L hL
  refine Eq.mpr (indexFL_r l x _ i L _) ?_
  have e0 : n1Of (Sto.push Sto.empty (.cells [.int .i64 x])) 0 = x := rfl
  have e9 : isN1 (Sto.push Sto.empty (.cells [.int .i64 x])) 0 x = true := isN1_mk x
  simp only [hold_eq, e0, e9]
  refine brV_by (fun h => ?_) (fun h => ?_)
  · have hlt : i < l.length := by have := of_decide_eq_true h; omega
    rw [i64_succ hlt (by omega), elemAt_ckv l i hlt]
    refine gb_by (dt (by omega)) (gb_by rfl (gb_by (and_tt (iv_isI64 _) rfl) (brV_by (fun h => ?_) (fun h => ?_))))
    · have e : l[i].1 = x := by
        have h : (l[i].1 == x) = true := h
        simpa using h
      have hc : (nosC l).contains x = true := by
        rw [List.contains_iff_mem, ← e, ← nosC_get l i hlt]; exact List.getElem_mem _
      have hx : (nosC l).idxOf x = i := by
        unfold List.idxOf
        rw [List.findIdx_eq (by omega)]
        refine ⟨by rw [nosC_get l i hlt]; simp [e], fun j hj => ?_⟩
        have := hpre (nosC l)[j] (List.mem_take_iff_getElem.2 ⟨j, by omega, rfl⟩)
        simpa using this
      refine ⟨?_, rfl⟩
      rw [if_pos hc, hx]
      rfl
    · have e : l[i].1 ≠ x := by
        have h : (l[i].1 == x) = false := h
        simpa using h
      refine hL (i + 1) ⟨hlt, fun y hy => ?_⟩ (by omega)
      rw [List.take_succ_eq_append_getElem (by omega)] at hy
      rcases List.mem_append.1 hy with h1 | h1
      · exact hpre y h1
      · rw [List.mem_singleton, nosC_get l i hlt] at h1
        rw [h1]; exact e
  · have hge : ¬ i < l.length := by have := of_decide_eq_false h; omega
    rw [List.take_of_length_le (by omega)] at hpre
    have hc : ¬ (nosC l).contains x = true := by
      intro hc
      exact hpre x (by simpa using hc) rfl
    refine ⟨?_, rfl⟩
    rw [if_neg hc]
    rfl
theorem indexF_ok : EntOk Try.prog indexFE := by
  intro xs σ; simp only [indexFE]; split
  · rename_i es s t g k
    intro hc
    simp only [Bool.and_eq_true] at hc
    obtain ⟨hg, h1, h2, h3, h4⟩ := hc
    generalize n1Of σ k = n at h4 ⊢
    obtain ⟨rfl, rfl⟩ := isN1_of h4
    have hg : g = 50 := Nat.eq_of_beq_eq_true hg
    subst hg
    have h3 : (es.map ckOf).length ≤ 1000000 := by simpa using lenM_of h3
    exact ACall.args (indexF_c (es.map ckOf) n h3) (.cons (wk_cks t h1 h2) (.refl _))
  · trivial
theorem containsF_c (l : List Ck) (x : Int) (hl : l.length ≤ 1000000) : ACall Try.prog 49 [.slice (ckv l) 4 .ro, .func (.func 50) [] [.ptr (.out 0) 0]] (sto1 x) fun r τ => r = .bool (hold ((nosC l).contains x)) ∧ τ = sto1 x := by
  refine containsF_i l x _ (.of [indexFE] rfl ⟨indexF_ok, trivial⟩) ?_
  have hn : (ckv l).length = l.length := ckv_length l
  intro y hy i hi
  have e0 : n1Of (Sto.push Sto.empty (.cells [.int .i64 x])) 0 = x := rfl
  have e9 : isN1 (Sto.push Sto.empty (.cells [.int .i64 x])) 0 x = true := isN1_mk x
  rw [e0, map_ckOf] at hy hi
  rw [e0, e9]
  refine gb_by (and_tt (ckv_is l) (and_tt (lenM_mk (by omega)) rfl)) ⟨?_, rfl⟩
  rw [hold_eq, hold_eq, hi, hy]
  cases (nosC l).contains x
  · rfl
  · have : (0 : Int) ≤ ((nosC l).idxOf x : Int) := by omega
    simp [this]
theorem containsF_ok : EntOk Try.prog containsFE := by
  intro xs σ; simp only [containsFE]; split
  · rename_i es s t g k
    intro hc
    simp only [Bool.and_eq_true] at hc
    obtain ⟨hg, h1, h2, h3, h4⟩ := hc
    generalize n1Of σ k = n at h4 ⊢
    obtain ⟨rfl, rfl⟩ := isN1_of h4
    have hg : g = 50 := Nat.eq_of_beq_eq_true hg
    subst hg
    have h3 : (es.map ckOf).length ≤ 1000000 := by simpa using lenM_of h3
    exact ACall.args (containsF_c (es.map ckOf) n h3) (.cons (wk_cks t h1 h2) (.refl _))
  · trivial
theorem sto1_set (a b : Int) : Sto.set (Sto.push Sto.empty (.cells [.int .i64 a])) 0 (.cells [.int .i64 b]) = sto1 b := push_set0 _ _
theorem fresh_c (l : List Ck) (hl : l.length ≤ 1000000) : ACall Try.prog 32 [.slice (ckv l) 4 .ro] Sto.empty fun r _ => Wk r (.int .i64 (freeN (nosC l) : Int)) := by
  refine fresh_i l _ (.of [containsFE] rfl ⟨containsF_ok, trivial⟩) ?_
  have hn : (ckv l).length = l.length := ckv_length l
  have hnl : (nosC l).length = l.length := by simp [nosC]
  have hf := freeN_spec (nosC l)
  have hfl := freeN_le (nosC l)
  rw [sto1_set]
  show loopV _ _ _ (freshL_S l 1)
  refine loopV_intro (α := Nat) (fun n => freshL_S l n) (fun n => 1 ≤ n ∧ n ≤ freeN (nosC l)) (fun n => freeN (nosC l) - n) ?_ 1 ⟨Nat.le_refl _, hf.1⟩
  rintro n ⟨h1, h2⟩ L hL
  refine Eq.mpr (freshL_r l n L _) ?_
  have e0 : n1Of (Sto.push Sto.empty (.cells [.int .i64 (n : Int)])) 0 = (n : Int) := rfl
  have e9 : isN1 (Sto.push Sto.empty (.cells [.int .i64 (n : Int)])) 0 (n : Int) = true := isN1_mk (n : Int)
  simp only [hold_eq, e0, e9, map_ckOf]
  refine gb_by (and_tt (ckv_is l) (and_tt (lenM_mk (by omega)) rfl)) (brV_by (fun h => ?_) (fun h => ?_))
  · have hm : (n : Int) ∈ nosC l := by simpa using h
    have hlt : n < freeN (nosC l) := by
      rcases Nat.lt_or_ge n (freeN (nosC l)) with h3 | h3
      · exact h3
      · obtain rfl : n = freeN (nosC l) := by omega
        exact (hf.2.1 hm).elim
    rw [i64_succ hlt (by omega), sto1_set]
    exact hL (n + 1) ⟨by omega, hlt⟩ (by omega)
  · have hm : ¬ (n : Int) ∈ nosC l := by simpa using h
    have he : n = freeN (nosC l) := by
      rcases Nat.lt_or_ge n (freeN (nosC l)) with h3 | h3
      · exact (hm (hf.2.2 n h1 h3)).elim
      · omega
    refine leaveTo (toCut (Eq.mpr (freshZ_r n _) ?_))
    rw [he]; exact Wk.refl _
theorem fresh_ok : EntOk Try.prog freshE := by
  intro xs σ; simp only [freshE]; split
  · rename_i es s t
    intro hc
    simp only [Bool.and_eq_true] at hc
    obtain ⟨h1, h2, h3⟩ := hc
    exact pcall_of (.cons (wk_cks t h1 h2) (.refl _)) (fresh_c _ (by simpa using lenM_of h3)) (by simp only [noOutL, AVal.noOut, ckv_noOut, Bool.and_true]) (by simp only [noTokL, AVal.noTok, ckv_noTok, Bool.and_true, Tag.below]) rfl rfl
  · trivial
end Go.Proofs.Ytjdjecaclbdhhaa
