/-
  Seat 11 (leaf): copies, a row of one's own, Insert, Remove.
-/
import Derived.Test.YtlfnmhfmikomkaaFg
import Derived.Test.YtlfnmhfmikomkaaFd
import Derived.Test.YtlfnmhfmikomkaaFu
set_option linter.unusedVariables false
set_option linter.unusedSimpArgs false
namespace Go.Proofs.Ytlfnmhfmikomkaa
open Go.AL

theorem cloneS_c (l : List Txt) (hl : l.length ≤ 1000000) : ACall Try.prog 39 [.slice (strv l) 1 .ro] Sto.empty fun r _ => Wk r (.slice (strv l) 1 .ro) := by
  have hn : (strv l).length = l.length := strv_length l
  refine cloneS_i l _ (.of_none rfl) ?_
  simp only [hold_eq, true_and]
  intro b hb _
  refine brV_by (fun h => ?_) (fun h => ?_)
  · have hb1 : b = true := by simpa using h
    have : strv l = [] := List.isEmpty_iff.1 (hb hb1)
    rw [this]
    exact Wk.nil _ _ _
  · exact gb_by (by simp only [true_or, true_and, and_true, decide_eq_true_eq, Nat.zero_add]; omega) (by rw [List.nil_append]; exact Wk.ro _ _ _)
theorem cloneIS_c (l : List Int) (hl : l.length ≤ 1000000) : ACall Try.prog 42 [.slice (iv l) 1 .ro] Sto.empty fun r _ => Wk r (.slice (iv l) 1 .ro) := by
  have hn : (iv l).length = l.length := iv_length l
  refine cloneIS_i l _ (.of_none rfl) ?_
  simp only [hold_eq, true_and]
  intro b hb _
  refine brV_by (fun h => ?_) (fun h => ?_)
  · have hb1 : b = true := by simpa using h
    have : iv l = [] := List.isEmpty_iff.1 (hb hb1)
    rw [this]
    exact Wk.nil _ _ _
  · exact gb_by (by simp only [true_or, true_and, and_true, decide_eq_true_eq, Nat.zero_add]; omega) (by rw [List.nil_append]; exact Wk.ro _ _ _)
theorem cloneS_ok : EntOk Try.prog cloneSE := by
  intro xs σ; simp only [cloneSE]; split
  · rename_i es s t
    intro hc
    simp only [Bool.and_eq_true, hold_eq, decide_eq_true_eq] at hc
    obtain ⟨h1, h2, h3⟩ := hc
    have e := strv_of h2
    have ho : noOutL 0 es = true := by rw [e]; exact strv_noOut 0 _
    have ht : noTokL 0 es = true := by rw [e]; exact strv_noTok 0 _
    have := cloneS_c (es.map AVal.strOf) (by simpa using h3)
    rw [← e] at this
    exact pcall_of (.cons (by have := wk_strv t h1 h2; rwa [← e] at this) (.refl _)) this (by simp only [noOutL, AVal.noOut, ho, Bool.and_true]) (by simp only [noTokL, AVal.noTok, ht, Tag.below, Bool.and_true]) (by simp only [AVal.noOut, ho]) (by simp only [AVal.noTok, ht, Tag.below, Bool.and_true])
  · trivial
theorem cloneIS_ok : EntOk Try.prog cloneISE := by
  intro xs σ; simp only [cloneISE]; split
  · rename_i es s t
    intro hc
    simp only [Bool.and_eq_true, hold_eq, decide_eq_true_eq] at hc
    obtain ⟨h1, h2, h3⟩ := hc
    have e := iv_of h2
    have ho : noOutL 0 es = true := by rw [e]; exact iv_noOut 0 _
    have ht : noTokL 0 es = true := by rw [e]; exact iv_noTok 0 _
    have := cloneIS_c (es.map AVal.intOf) (by simpa using h3)
    rw [← e] at this
    exact pcall_of (.cons (by have := wk_iv t h1 h2; rwa [← e] at this) (.refl _)) this (by simp only [noOutL, AVal.noOut, ho, Bool.and_true]) (by simp only [noTokL, AVal.noTok, ht, Tag.below, Bool.and_true]) (by simp only [AVal.noOut, ho]) (by simp only [AVal.noTok, ht, Tag.below, Bool.and_true])
  · trivial

/-! ### A root and a leaf of one's own -/
theorem rootM_spec {v : AVal} (h : rootM v = true) : rootIs v = true ∧ (rootOf v).1.length ≤ 1000000 ∧ (rootOf v).2.length ≤ 1000000 := by
  simpa [rootM] using h
theorem lfM_spec {v : AVal} (h : lfM v = true) : lfIs v = true ∧ (lfOf v).2.1.length ≤ 1000000 := by
  simpa [lfM] using h
theorem rootM_mk {r : Root} (h1 : r.1.length ≤ 1000000) (h2 : r.2.length ≤ 1000000) : rootM (rootV r) = true := by simp [rootM, h1, h2]
theorem lfM_mk {l : Lf} (h1 : l.2.1.length ≤ 1000000) : lfM (lfV l) = true := by simp [lfM, h1]
theorem isR_spec {σ : Sto} (h : isR σ = true) : ∃ c, σ = Sto.push Sto.empty (.cells c) := by
  classical
  simpa [isR] using h
theorem isR_mk (c : List AVal) : isR (Sto.push Sto.empty (.cells c)) = true := by
  unfold isR
  exact @decide_eq_true _ (Classical.propDecidable _) ⟨c, rfl⟩
noncomputable def ownA (r : Root) (l : Lf) : AVal := .tuple [.agg [.mrow 3 (strv r.1).length, .mrow 5 (iv r.2).length], .agg [.int .i64 l.1, .mrow 7 (strv l.2.1).length, .bool false], .int .i64 0]
noncomputable def ownS (r : Root) (l : Lf) (σ : Sto) : Sto := Sto.set (Sto.set (Sto.pushRow (Sto.pushRow (Sto.pushRow (Sto.push (Sto.push σ (.cells nilRC)) (.cells nilLC)) (strv r.1) 1) (iv r.2) 1) (strv l.2.1) 1)
          1 (.cells [.mrow 3 (strv r.1).length, .mrow 5 (iv r.2).length])) 2 (.cells [.int .i64 l.1, .mrow 7 (strv l.2.1).length, .bool false])
noncomputable def ownN (σ : Sto) : Sto := Sto.set (Sto.set (Sto.push (Sto.push σ (.cells nilRC)) (.cells nilLC)) 1 (.cells nilRC)) 2 (.cells nilLC)
noncomputable def ownZ : AVal := .tuple [.agg [.slice [] 0 .nil, .slice [] 0 .nil], .agg [.int .i64 0, .slice [] 0 .nil, .bool false], .int .i64 100]
theorem own_c (c : List AVal) (r : Root) (l : Lf) (s : Txt) (h1 : r.1.length ≤ 1000000) (h2 : r.2.length ≤ 1000000) (h3 : l.2.1.length ≤ 1000000) (Q : AVal → Sto → Prop)
    (hA : ownB r l s = true → Q (ownA r l) (ownS r l (Sto.push Sto.empty (.cells c)))) (hB : ownB r l s = false → Q ownZ (ownN (Sto.push Sto.empty (.cells c)))) :
    ACall Try.prog 34 [rootV r, lfV l, .str s] (Sto.push Sto.empty (.cells c)) Q := by
  refine own_i c r l s _ (.of [leafE, findE, cloneE, cloneIE] rfl ⟨leaf_ok, find_ok, clone_ok, cloneI_ok, trivial⟩) ?_
  simp only [hold_eq, map_strOf_strv, map_intOf_iv, fold_root, fold_lf]
  refine gb_by (lfG_mk (by omega)) (brV_by' (fun h => ?_) (fun h => ?_))
  · have hl : lfB l = true := by simpa using h
    intro y hy
    refine gb_by (rootG_mk (by omega) (by omega)) (brV_by' (fun h => ?_) (fun h => ?_))
    · have hf : y = l.1 := by simpa using h
      refine brV_by (fun h => ?_) (fun h => ?_)
      · have h0 : l.1 = 0 := by simpa using h
        refine hB ?_
        cases ho : ownB r l s with
        | false => rfl
        | true => exact ((ownB_iff.1 ho).2.2 h0).elim
      · have h0 : l.1 ≠ 0 := by simpa using h
        have ho : ownB r l s = true := ownB_iff.2 ⟨hl, by rw [← hy, hf], h0⟩
        have hg := (lfB_iff.1 hl).1
        refine gb_by (by simpa using h1) (gb_by (by simpa using h2) (gb_by (by simpa using h3) ?_))
        rw [hg]
        exact hA ho
    · have hf : ¬ y = l.1 := by simpa using h
      refine hB ?_
      cases ho : ownB r l s with
      | false => rfl
      | true => exact (hf (by rw [hy]; exact (ownB_iff.1 ho).2.1)).elim
  · have hl : lfB l = false := by simpa using h
    refine hB ?_
    cases ho : ownB r l s with
    | false => rfl
    | true => rw [(ownB_iff.1 ho).1] at hl; cases hl
theorem own_ok : EntOk Try.prog ownE := by
  intro xs σ; simp only [ownE]; split
  · rename_i v u s
    simp only [AnsOk, ansOk, hold_eq]
    constructor
    · intro ho hc
      simp only [Bool.and_eq_true] at hc
      obtain ⟨h1, h2, h3⟩ := hc
      obtain ⟨c, rfl⟩ := isR_spec h3
      obtain ⟨r1, r2, r3⟩ := rootM_spec h1
      obtain ⟨l1, l2⟩ := lfM_spec h2
      exact ACall.args (own_c c (rootOf v) (lfOf u) s r2 r3 l2 _ (fun _ => ⟨rfl, rfl⟩) (fun h => by rw [ho] at h; cases h)) (.cons (wk_root r1) (.cons (wk_lf l1) (.refl _)))
    · intro ho hc
      simp only [Bool.and_eq_true] at hc
      obtain ⟨h1, h2, h3⟩ := hc
      obtain ⟨c, rfl⟩ := isR_spec h3
      obtain ⟨r1, r2, r3⟩ := rootM_spec h1
      obtain ⟨l1, l2⟩ := lfM_spec h2
      exact ACall.args (own_c c (rootOf v) (lfOf u) s r2 r3 l2 _ (fun h => by rw [ho] at h; cases h) (fun _ => ⟨rfl, rfl⟩)) (.cons (wk_root r1) (.cons (wk_lf l1) (.refl _)))
  · trivial
theorem insOr_ok : EntOk Try.prog insOrE := by
  intro xs σ
  simp only [insOrE, noE]
  split
  · rename_i a h
    split at h
    · cases h; intro hc; cases hc
    · cases h
  · exact ins_ok xs σ
theorem delOr_ok : EntOk Try.prog delOrE := by
  intro xs σ
  simp only [delOrE, noE]
  split
  · rename_i a h
    split at h
    · cases h; intro hc; cases hc
    · cases h
  · exact del_ok xs σ
end Go.Proofs.Ytlfnmhfmikomkaa
