/-
  Seat 11 (leaf): the law LeafFinds, over abstract values.
-/
import Derived.Test.YtlfnmhfmikomkaaFC
import Derived.Test.YtlfnmhfmikomkaaFj
import Derived.Test.YtlfnmhfmikomkaaGb
import Derived.Test.YtlfnmhfmikomkaaFk
set_option linter.unusedVariables false
set_option linter.unusedSimpArgs false
set_option maxRecDepth 20000
set_option maxHeartbeats 4000000
namespace Go.Proofs.Ytlfnmhfmikomkaa
open Go.AL

theorem fits_lfs {b : Nat} {a : AVal} (h : Fits (.slice (.agg [.int .i64, .slice .str 1 16, .bool]) 3 b) a) : ∃ ls : List Lf, a = .slice (lfv ls) 3 .ro ∧ ls.length * b ≤ 140737488351232 ∧ ∀ x ∈ ls, x.2.1.length ≤ 140737488351232 / 16 := by
  obtain ⟨es, rfl, h1, h2⟩ := h
  obtain ⟨ls, rfl, hx⟩ := map_of (f := lfV) (P := fun l => l.2.1.length ≤ 140737488351232 / 16) fun e he => by
    obtain ⟨l, h3, h4⟩ := fits_lf (h2 e he)
    exact ⟨l, h3, h4⟩
  exact ⟨ls, rfl, by simpa using h1, hx⟩
theorem finds_law (xs : List AVal) (h : FitsL [.agg [.slice .str 1 16, .slice (.int .i64) 1 8, .slice (.agg [.int .i64, .slice .str 1 16, .bool]) 3 40], .str, .str] xs) :
    ACall Try.prog 6 xs Sto.empty fun v _ => v = .bool true := by
  obtain ⟨a1, t1, rfl, f1, a2, t2, rfl, f2, a3, t3, rfl, f3, rfl⟩ := h
  obtain ⟨cs, rfl, c1, u1, rfl, k1, c2, u2, rfl, k2, c3, u3, rfl, k3, rfl⟩ := f1
  obtain ⟨l1, rfl, b1⟩ := fits_strv k1
  obtain ⟨l2, rfl, b2, _⟩ := fits_iv k2
  obtain ⟨ls, rfl, b3, b4⟩ := fits_lfs k3
  obtain ⟨a, rfl, _⟩ := f2
  obtain ⟨b, rfl, _⟩ := f3
  obtain ⟨r, hr⟩ : ∃ r : Root, r = (l1, l2) := ⟨_, rfl⟩
  have e1 : l1 = r.1 := by rw [hr]
  have e2 : l2 = r.2 := by rw [hr]
  rw [e1] at b1 ⊢
  rw [e2] at b2 ⊢
  clear e1 e2 hr k1 k2 k3
  refine finds_i r ls a b _ (.of [awakeE, smallE, rangeE, rangeRE, rightE, rightRE, findE, findRE] rfl ⟨awake_ok, small_ok, range_ok, rangeR_ok, right_ok, rightR_ok, find_ok, findR_ok, trivial⟩) ?_
  have hn1 : (strv r.1).length = r.1.length := strv_length _
  have hn2 : (iv r.2).length = r.2.length := iv_length _
  have hn3 : (lfv ls).length = ls.length := lfv_length _
  have hlg : List.all (lfv ls) lfG = true := by
    rw [List.all_eq_true]
    intro x hx
    obtain ⟨l, hl, rfl⟩ := List.mem_map.1 hx
    exact lfG_mk (by have := b4 l hl; omega)
  have hG : rootG (rootV r) = true := rootG_mk (by omega) (by omega)
  have hlen : lenOk (lfv ls).length = true := lenOk_mk (by omega)
  simp only [hold_eq, map_strOf_strv, map_intOf_iv, fold_root, map_lfOf]
  refine gb_by (and_tt hG (and_tt (lfv_is _) (and_tt hlen hlg))) (brV_by' (fun h => ?_) (fun _ => trivial))
  have hsm : smallB r ls = true := by
    have h : (!smallB r ls) = false := h
    simpa using h
  obtain ⟨t1, t2, _, t4⟩ := smallB_iff.1 hsm
  rw [textsB_iff] at t1
  have hs1 : shortL r.1 = true := by
    simp only [shortL, List.all_eq_true, decide_eq_true_eq]
    intro x hx
    have := t1.2 x hx
    omega
  have hlh : List.all (lfv ls) lfH = true := by
    rw [List.all_eq_true]
    intro x hx
    obtain ⟨l, hl, rfl⟩ := List.mem_map.1 hx
    have t := textsB_iff.1 (t4 l hl)
    refine lfH_mk (by have := b4 l hl; omega) ?_
    simp only [shortL, List.all_eq_true, decide_eq_true_eq]
    intro x hx
    have := t.2 x hx
    omega
  have hH : rootH (rootV r) = true := rootH_mk (by omega) (by omega) hs1
  have hM : rootM (rootV r) = true := rootM_mk (by omega) (by omega)
  refine brV_by' (fun h => ?_) (fun _ => trivial)
  have ha : a.length ≤ 700 := by have := of_decide_eq_false h; omega
  refine brV_by (fun _ => trivial) (fun _ => ?_)
  intro y hy
  refine gb_by hM ?_
  intro y1 hy1
  refine gb_by (and_tt hM (and_tt hs1 (dt (by omega)))) ?_
  have hyy : y1 = y := by rw [hy, hy1]
  subst hyy
  have hyl : y1.length ≤ 41 := by
    have hy1 : y1 = rangeN r a b := hy1
    rw [hy1, rangeN]
    split
    · rw [List.length_take, List.length_drop]; omega
    · exact Nat.zero_le _
  clear hy hy1
  have hyv : (iv y1).length = y1.length := iv_length _
  refine brV_by (fun h => by simp at h) (fun _ => ?_)
  refine loopV_intro (α := Nat) (fun i => findsL_S r ls a y1 y1 i) (fun i => i ≤ y1.length) (fun i => y1.length - i) ?_ 0 (Nat.zero_le _)
  rintro i hi L hL
  refine Eq.mpr (findsL_r r ls a y1 y1 i L _) ?_
  simp only [hold_eq]
  refine brV_by (fun h => ?_) (fun h => ?_)
  · have hlt : i < y1.length := by have := of_decide_eq_true h; omega
    rw [i64_succ hlt (by omega), elemAt_iv y1 i hlt]
    refine gb_by (dt (by omega)) (gb_by rfl (gb_by (dt (by omega)) (gb_by rfl (brV_by (fun h => ?_) (fun h => ?_)))))
    · have h : (y1[i] != y1[i]) = true := h
      simp at h
    · exact hL (i + 1) hlt (by omega)
  · refine leaveTo (toCut (Eq.mpr (findsF_r r ls a _) ?_))
    simp only [hold_eq, map_strOf_strv, map_intOf_iv, fold_root, map_lfOf, beq_self_eq_true, brV_tt]
    refine gb_by (and_tt hG (and_tt (lfv_is _) (and_tt hlen hlg))) (gb_by (and_tt hH (and_tt (lfv_is _) (and_tt hlen hlh))) ?_)
    intro z hz
    refine gb_by hG ?_
    intro z1 hz1
    refine gb_by hH ?_
    have : z1 = z := by rw [hz, hz1]
    subst this
    simp
end Go.Proofs.Ytlfnmhfmikomkaa
