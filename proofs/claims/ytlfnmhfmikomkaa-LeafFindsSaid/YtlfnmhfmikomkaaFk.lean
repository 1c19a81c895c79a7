/-
  Seat 11 (leaf): the law LeafChanges, over abstract values.
-/
import Derived.Test.YtlfnmhfmikomkaaFz
set_option linter.unusedVariables false
set_option linter.unusedSimpArgs false
set_option maxRecDepth 20000
set_option maxHeartbeats 4000000
namespace Go.Proofs.Ytlfnmhfmikomkaa
open Go.AL

theorem insL_le {α : Type} (l : List α) (i : Nat) (x : α) : (insL l i x).length ≤ l.length + 1 := by simp [insL]; omega
theorem delL_le {α : Type} (l : List α) (i : Nat) : (delL l i).length ≤ l.length := by simp [delL]; omega
/-- How great what comes of a change can be. -/
def ChLe (n : Nat) (x : Ch) : Prop := x.1.1.length ≤ n ∧ x.1.2.length ≤ n ∧ x.2.1.length ≤ 2 ∧ ∀ l ∈ x.2.1, l.2.1.length ≤ n
theorem chLe_err (n : Nat) (e : Int) : ChLe n (errC e) := ⟨Nat.zero_le _, Nat.zero_le _, Nat.zero_le _, fun l hl => by cases hl⟩
theorem insN_le {r : Root} {l : Lf} (s : Txt) {n : Nat} (h1 : r.1.length ≤ n) (h2 : r.2.length ≤ n) (h3 : l.2.1.length ≤ n) : ChLe (n + 1) (insN r l s) := by
  unfold insN
  split
  · split
    · exact chLe_err _ _
    · split
      · exact chLe_err _ _
      · have hb := insL_le l.2.1 (posN l.2.1 s) s
        simp only []
        split
        · refine ⟨by show r.1.length ≤ n + 1; omega, by show r.2.length ≤ n + 1; omega, by simp, fun x hx => ?_⟩
          simp only [List.mem_singleton] at hx
          subst hx
          show (insL l.2.1 (posN l.2.1 s) s).length ≤ n + 1
          omega
        · refine ⟨?_, ?_, by simp, fun x hx => ?_⟩
          · have := insL_le r.1 (atN r.1 s) ((insL l.2.1 (posN l.2.1 s) s).getD 3 [])
            show (insL r.1 (atN r.1 s) ((insL l.2.1 (posN l.2.1 s) s).getD 3 [])).length ≤ n + 1
            omega
          · have := insL_le r.2 (atN r.1 s + 1) (freeN r.2 : Int)
            show (insL r.2 (atN r.1 s + 1) (freeN r.2 : Int)).length ≤ n + 1
            omega
          · simp only [List.mem_cons, List.not_mem_nil, or_false] at hx
            rcases hx with rfl | rfl
            · show ((insL l.2.1 (posN l.2.1 s) s).take 3).length ≤ n + 1
              rw [List.length_take]; omega
            · show ((insL l.2.1 (posN l.2.1 s) s).drop 3).length ≤ n + 1
              rw [List.length_drop]; omega
  · exact chLe_err _ _
theorem remN_le {r : Root} {l : Lf} (s : Txt) {n : Nat} (h1 : r.1.length ≤ n) (h2 : r.2.length ≤ n) (h3 : l.2.1.length ≤ n) : ChLe (n + 1) (remN r l s) := by
  unfold remN
  split
  · split
    · have hb := delL_le l.2.1 (posN l.2.1 s)
      simp only []
      split
      · refine ⟨by show r.1.length ≤ n + 1; omega, by show r.2.length ≤ n + 1; omega, by simp, fun x hx => ?_⟩
        simp only [List.mem_singleton] at hx
        subst hx
        show (delL l.2.1 (posN l.2.1 s)).length ≤ n + 1
        omega
      · refine ⟨?_, ?_, by simp, fun x hx => ?_⟩
        · have := delL_le r.1 (min (atN r.1 s) (r.1.length - 1))
          show (delL r.1 (min (atN r.1 s) (r.1.length - 1))).length ≤ n + 1
          omega
        · have := delL_le r.2 (atN r.1 s)
          show (delL r.2 (atN r.1 s)).length ≤ n + 1
          omega
        · simp only [List.mem_singleton] at hx
          subst hx
          exact Nat.zero_le _
    · exact chLe_err _ _
  · exact chLe_err _ _

theorem ch_root {n : Nat} {x : Ch} (h : ChLe n x) (hn : n ≤ 1000000) : rootG (rootV x.1) = true := rootG_mk (by have := h.1; omega) (by have := h.2.1; omega)
theorem ch_lfs {n : Nat} {x : Ch} (h : ChLe n x) (hn : n ≤ 1000000) : (lfv x.2.1).all lfG = true := by
  rw [List.all_eq_true]
  intro a ha
  obtain ⟨l, hl, rfl⟩ := List.mem_map.1 ha
  exact lfG_mk (by have := h.2.2.2 l hl; omega)

theorem fits_strv {b : Nat} {a : AVal} (h : Fits (.slice .str 1 b) a) : ∃ l : List Txt, a = .slice (strv l) 1 .ro ∧ l.length * b ≤ 140737488351232 := by
  obtain ⟨es, rfl, h1, h2⟩ := h
  obtain ⟨ls, rfl, hx⟩ := map_of (f := AVal.str) (P := fun s => s.length ≤ 140737488351232) fun e he => by
    obtain ⟨s, h3, h4⟩ := h2 e he
    exact ⟨s, h3, h4⟩
  exact ⟨ls, rfl, by simpa using h1⟩
theorem fits_root {a : AVal} (h : Fits (.agg [.slice .str 1 16, .slice (.int .i64) 1 8]) a) : ∃ r : Root, a = rootV r ∧ r.1.length ≤ 140737488351232 / 16 ∧ r.2.length ≤ 140737488351232 / 8 := by
  obtain ⟨cs, rfl, a1, t1, rfl, h1, a2, t2, rfl, h2, rfl⟩ := h
  obtain ⟨l1, rfl, b1⟩ := fits_strv h1
  obtain ⟨l2, rfl, b2, _⟩ := fits_iv h2
  exact ⟨(l1, l2), rfl, by show l1.length ≤ _; omega, by show l2.length ≤ _; omega⟩
theorem fits_lf {a : AVal} (h : Fits (.agg [.int .i64, .slice .str 1 16, .bool]) a) : ∃ l : Lf, a = lfV l ∧ l.2.1.length ≤ 140737488351232 / 16 := by
  obtain ⟨cs, rfl, a1, t1, rfl, h1, a2, t2, rfl, h2, a3, t3, rfl, h3, rfl⟩ := h
  obtain ⟨n, rfl, _, _⟩ := h1
  obtain ⟨l2, rfl, b2⟩ := fits_strv h2
  obtain ⟨b, rfl⟩ := h3
  exact ⟨(n, l2, b), rfl, by show l2.length ≤ _; omega⟩

theorem changes_law (xs : List AVal) (h : FitsL [.agg [.slice .str 1 16, .slice (.int .i64) 1 8], .agg [.int .i64, .slice .str 1 16, .bool], .str] xs) :
    ACall Try.prog 4 xs Sto.empty fun v _ => v = .bool true := by
  obtain ⟨a1, t1, rfl, f1, a2, t2, rfl, f2, a3, t3, rfl, f3, rfl⟩ := h
  obtain ⟨r, rfl, hr1, hr2⟩ := fits_root f1
  obtain ⟨l, rfl, hl1⟩ := fits_lf f2
  obtain ⟨s, rfl, _⟩ := f3
  refine changes_i r l s _ (.of [awakeE, smallE, insertE, removeE, insertRE, removeRE, sameRootE, sameE] rfl ⟨awake_ok, small_ok, insert_ok, remove_ok, insertR_ok, removeR_ok, sameRoot_ok, same_ok, trivial⟩) ?_
  have hn1 : (strv r.1).length = r.1.length := strv_length _
  have hn2 : (iv r.2).length = r.2.length := iv_length _
  have hn3 : (strv l.2.1).length = l.2.1.length := strv_length _
  simp only [hold_eq, map_strOf_strv, map_intOf_iv, fold_root, fold_lf, map_lfOf, beq_self_eq_true, Bool.not_true, brV_ft]
  have hlf : List.all [lfV l] lfIs = true := by simp
  have hlg : List.all [lfV l] lfG = true := by simp [lfG_mk (l := l) (by omega)]
  refine gb_by (and_tt (rootG_mk (by omega) (by omega)) (and_tt hlf (and_tt (lenOk_mk (by omega)) hlg))) (brV_by' (fun h => ?_) (fun _ => trivial))
  have hsm : smallB r [l] = true := by
    have h : (!smallB r [l]) = false := h
    simpa using h
  obtain ⟨t1, t2, _, t4⟩ := smallB_iff.1 hsm
  have t4 := t4 l (by simp)
  rw [textsB_iff] at t1 t4
  have hs1 : shortL r.1 = true := by
    simp only [shortL, List.all_eq_true, decide_eq_true_eq]
    intro x hx
    have := t1.2 x hx
    omega
  have hs2 : shortL l.2.1 = true := by
    simp only [shortL, List.all_eq_true, decide_eq_true_eq]
    intro x hx
    have := t4.2 x hx
    omega
  refine brV_by (fun _ => trivial) (fun _ => ?_)
  refine gb_by (by simp only [true_and, and_true, decide_eq_true_eq]; omega) (gb_by (by simp only [true_and, and_true, decide_eq_true_eq]; omega) (gb_by (by simp only [true_and, and_true, decide_eq_true_eq]; omega) ?_))
  have hM : (rootM (rootV r) && lfM (lfV l)) = true := and_tt (rootM_mk (by omega) (by omega)) (lfM_mk (by omega))
  have hMR : (rootM (rootV r) && shortL r.1 && (lfM (lfV l) && shortL l.2.1)) = true := and_tt (and_tt (rootM_mk (by omega) (by omega)) hs1) (and_tt (lfM_mk (by omega)) hs2)
  have i1 : ChLe 41 (insN r l s) := insN_le s (by omega) (by omega) (by omega)
  have i2 : ChLe 41 (remN r l s) := remN_le s (by omega) (by omega) (by omega)
  intro y0 e0
  refine gb_by hM ?_
  intro y1 e1
  refine gb_by hM ?_
  intro y2 e2
  refine gb_by hMR ?_
  intro y3 e3
  refine gb_by hMR ?_
  have e0 : y0 = insN r l s := e0
  have e1 : y1 = remN r l s := e1
  have e2 : y2 = insN r l s := e2
  have e3 : y3 = remN r l s := e3
  obtain rfl : y2 = y0 := by rw [e0, e2]
  obtain rfl : y3 = y1 := by rw [e1, e3]
  rw [← e0] at i1
  rw [← e1] at i2
  clear e0 e1 e2 e3
  have k1 := ch_root i1 (by omega)
  have k2 := ch_root i2 (by omega)
  have m1 := ch_lfs i1 (by omega)
  have m2 := ch_lfs i2 (by omega)
  simp only [beq_self_eq_true, brV_tt, lfv_is, Bool.true_and, lfv_length]
  refine gb_by (and_tt (rootG_mk (by omega) (by omega)) (rootG_mk (by omega) (by omega))) (gb_by (and_tt hlf (and_tt hlf (and_tt (lenOk_mk (by omega)) hlg))) ?_)
  refine gb_by (and_tt k1 k1) (gb_by (and_tt (lenOk_mk (by have := i1.2.2.1; omega)) m1) (gb_by (and_tt k2 k2) (gb_by (and_tt (lenOk_mk (by have := i2.2.2.1; omega)) m2) ?_)))
  trivial
end Go.Proofs.Ytlfnmhfmikomkaa
