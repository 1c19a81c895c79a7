/-
  Seat 11 (leaf): the contract of Empty; what the laws' loops share.
-/
import Derived.Test.YtlfnmhfmikomkaaId
import Derived.Test.YtlfnmhfmikomkaaIm
import Derived.Test.YtlfnmhfmikomkaaFz
set_option linter.unusedVariables false
set_option linter.unusedSimpArgs false
set_option maxRecDepth 20000
set_option maxHeartbeats 4000000
namespace Go.Proofs.Ytlfnmhfmikomkaa
open Go.AL

theorem empty_c : ACall Try.prog 10 [] Sto.empty fun v _ => Wk v (.tuple [.agg [.slice (strv []) 1 .ro, .slice (iv [1]) 1 .ro], .agg [.int .i64 1, .slice (strv []) 1 .ro, .bool false]]) := by
  refine empty_i _ (.of_none rfl) ?_
  exact Wk.tuple (.cons (Wk.agg (.cons (Wk.nil _ _ _) (.cons (Wk.ro _ _ _) (.refl _)))) (.cons (Wk.agg (.cons (.refl _) (.cons (Wk.nil _ _ _) (.refl _)))) (.refl _)))
theorem empty_ok : EntOk Try.prog emptyE := by
  intro xs σ; simp only [emptyE]; split
  · intro _
    exact pcall_of (.refl _) empty_c rfl rfl rfl rfl
  · trivial
theorem noRef_mi (k : Nat) (m : List (Int × Lf)) : AObj.noRef k (.map (mi lfV m)) = true := by
  simp only [AObj.noRef, mi, List.all_map, List.all_eq_true]
  intro x _
  simp [lfV, AVal.noRef, noRefL]
theorem mapVal_gf {r : Root} {m : List (Int × Lf)} (h : Idx r (gf m)) {n : Int} (hn : n ∈ r.2) (z : AVal) : mapVal (.int .i64 n) z (mi lfV m) = lfV (gf m n) := by
  rw [mapVal_mi, h.getI hn]
theorem putAll_take (m : List (Int × Lf)) (ls : List Lf) (k : Nat) (hk : k < ls.length) : putAll m (ls.take (k + 1)) = putI ls[k].1 ls[k] (putAll m (ls.take k)) := by
  unfold putAll
  rw [List.take_add_one, List.foldl_append, List.getElem?_eq_getElem hk]
  rfl
/-- What holds of an index in the laws' loops: few leaves, short entries. -/
structure SI (n : Nat) (P : Txt → Prop) (r : Root) (m : List (Int × Lf)) : Prop where
  idx : Idx r (gf m)
  full : Full r (gf m)
  few : r.2.length ≤ n
  ent : ∀ x, Idx.has r (gf m) x → P x
theorem SI.few1 {n : Nat} {P : Txt → Prop} {r : Root} {m : List (Int × Lf)} (h : SI n P r m) : r.1.length ≤ n := by
  have := (rootB_iff.1 h.idx.root).1
  have := h.few
  omega
theorem SI.cut {n : Nat} {P : Txt → Prop} {r : Root} {m : List (Int × Lf)} (h : SI n P r m) {n' : Nat} (hn : n ≤ n') : SI n' P r m := ⟨h.idx, h.full, by have := h.few; omega, h.ent⟩
theorem SI.empty {n : Nat} (hn : 1 ≤ n) {P : Txt → Prop} : SI n P ([], [1]) [(1, (1, [], false))] := by
  have hI : Idx ([], [1]) (gf [(1, (1, [], false))]) := idx_empty rfl
  refine ⟨hI, fun h => (h rfl).elim, hn, fun x hx => ?_⟩
  obtain ⟨i, hi, hx⟩ := hx
  obtain rfl : i = 0 := by simpa using hi
  exact absurd hx List.not_mem_nil
theorem keys_mi (m : List (Int × Lf)) : keysOk Try.prog 3 (mi lfV m) = true := keysOk_mi rfl _ _
theorem lfG_mk' {l : Lf} (h : l.2.1.length ≤ 4) : lfM (lfV l) = true := lfM_mk (by omega)
theorem insN_len2 (r : Root) (l : Lf) (s : Txt) : (insN r l s).2.1.length ≤ 2 := by
  unfold insN
  split
  · split
    · simp [errC]
    · split
      · simp [errC]
      · simp only []
        split <;> simp
  · simp [errC]

theorem strv_one (o : List Txt) (x : Txt) : strv o ++ [.str x] = strv (o ++ [x]) := by simp [strv]
end Go.Proofs.Ytlfnmhfmikomkaa
