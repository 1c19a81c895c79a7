/-
  Seat 12 (limbo): plain laws of rows and maps.
-/
import Derived.Test.YtakidnohmfebmaaLe
namespace Go.Proofs.Ytakidnohmfebmaa
open Go.AL
set_option linter.unusedSimpArgs false
set_option linter.unusedVariables false

abbrev keysM (m : List (Key × Int)) : List Key := m.map (·.1)
theorem epochOf_nil (x : Key) : epochOf [] x = none := rfl
theorem epochOf_cons (y : Key × Int) (m : List (Key × Int)) (x : Key) : epochOf (y :: m) x = if y.1 = x then some y.2 else epochOf m x := by
  simp only [epochOf, List.find?_cons]
  by_cases h : y.1 = x
  · simp [h]
  · have : (y.1 == x) = false := by simp only [beq_eq_false_iff_ne]; exact h
    simp [this, h]
theorem epochOf_isSome (m : List (Key × Int)) (x : Key) : (epochOf m x).isSome = true ↔ x ∈ keysM m := by
  induction m with
  | nil => simp [epochOf_nil]
  | cons y m ih =>
    rw [epochOf_cons]
    by_cases h : y.1 = x
    · simp [h]
    · rw [if_neg h, ih]
      simp only [keysM, List.map_cons, List.mem_cons]
      exact ⟨.inr, fun h' => h'.elim (fun e => (h e.symm).elim) id⟩
theorem epochOf_none {m : List (Key × Int)} {x : Key} (h : x ∉ keysM m) : epochOf m x = none := by
  cases he : epochOf m x with
  | none => rfl
  | some e => exact (h ((epochOf_isSome m x).1 (by rw [he]; rfl))).elim
theorem epochOf_putM (k : Key) (e : Int) (m : List (Key × Int)) (x : Key) : epochOf (putM k e m) x = if k = x then some e else epochOf m x := by
  induction m with
  | nil => rw [putM, epochOf_cons, epochOf_nil]
  | cons y m ih =>
    rw [putM]
    by_cases h : y.1 = k
    · rw [if_pos h, epochOf_cons, epochOf_cons]
      by_cases hx : k = x
      · simp [hx]
      · rw [if_neg hx, if_neg hx, if_neg (by rw [h]; exact hx)]
    · rw [if_neg h, epochOf_cons, epochOf_cons, ih]
      by_cases hx : k = x
      · subst hx; simp [h]
      · simp [hx]
theorem keysM_putM (k : Key) (e : Int) (m : List (Key × Int)) : keysM (putM k e m) = if k ∈ keysM m then keysM m else keysM m ++ [k] := by
  induction m with
  | nil => rfl
  | cons y m ih =>
    rw [putM]
    by_cases h : y.1 = k
    · subst h
      rw [if_pos rfl, if_pos (by simp [keysM])]
      simp [keysM]
    · rw [if_neg h]
      simp only [keysM, List.map_cons, List.mem_cons] at ih ⊢
      rw [ih]
      have h' : ¬ k = y.1 := fun e => h e.symm
      by_cases hm : k ∈ m.map (·.1)
      · rw [if_pos hm, if_pos (.inr hm)]
      · rw [if_neg hm, if_neg (by rintro (h1 | h1); exact h' h1; exact hm h1)]
        rfl
theorem keysM_delM (k : Key) : ∀ (m : List (Key × Int)), (keysM (delM k m)).Sublist (keysM m)
  | [] => .slnil
  | y :: m => by
    rw [delM]
    by_cases h : y.1 = k
    · rw [if_pos h]; exact List.sublist_cons_self _ _
    · rw [if_neg h]; exact (keysM_delM k m).cons_cons _
theorem epochOf_delM {k : Key} {m : List (Key × Int)} (hn : (keysM m).Nodup) (x : Key) : epochOf (delM k m) x = if k = x then none else epochOf m x := by
  induction m with
  | nil => simp [delM, epochOf_nil]
  | cons y m ih =>
    simp only [keysM, List.map_cons, List.nodup_cons] at hn
    rw [delM]
    by_cases h : y.1 = k
    · rw [if_pos h]
      by_cases hx : k = x
      · rw [if_pos hx]; exact epochOf_none (by rw [← hx, ← h]; exact hn.1)
      · rw [if_neg hx, epochOf_cons, if_neg (by rw [h]; exact hx)]
    · rw [if_neg h, epochOf_cons, ih hn.2, epochOf_cons]
      by_cases hx : k = x
      · subst hx; simp [h]
      · simp [hx]
theorem delAll_nodup : ∀ (ks : List Key) {m : List (Key × Int)}, (keysM m).Nodup → (keysM (delAll ks m)).Nodup
  | [], _, h => h
  | k :: ks, m, h => delAll_nodup ks (h.sublist (keysM_delM k m))
theorem epochOf_delAll : ∀ (ks : List Key) {m : List (Key × Int)}, (keysM m).Nodup → ∀ x, epochOf (delAll ks m) x = if x ∈ ks then none else epochOf m x
  | [], _, _, x => by simp [delAll]
  | k :: ks, m, h, x => by
    show epochOf (delAll ks (delM k m)) x = _
    rw [epochOf_delAll ks (h.sublist (keysM_delM k m)), epochOf_delM h]
    by_cases h1 : x ∈ ks
    · simp [h1]
    · by_cases h2 : k = x
      · simp [h2]
      · have : ¬ x = k := fun e => h2 e.symm
        simp [h1, h2, this]

/-- A limbo in order. -/
structure LInv (row : List Key) (m : List (Key × Int)) : Prop where
  rowN : row.Nodup
  keysN : (keysM m).Nodup
  same : ∀ x, x ∈ row ↔ x ∈ keysM m

theorem LInv.nil : LInv [] [] := ⟨.nil, .nil, fun x => by simp⟩
theorem LInv.ofSome {row : List Key} {m : List (Key × Int)} (h : LInv row m) (x : Key) : x ∈ row ↔ (epochOf m x).isSome = true := by rw [h.same, epochOf_isSome]
theorem LInv.put {row : List Key} {m : List (Key × Int)} (h : LInv row m) {k : Key} {e : Int} (hk : epochOf m k = none) : LInv (row ++ [k]) (putM k e m) := by
  have hm : k ∉ keysM m := fun hc => by rw [← epochOf_isSome, hk] at hc; cases hc
  have hr : k ∉ row := fun hc => hm ((h.same k).1 hc)
  refine ⟨?_, ?_, fun x => ?_⟩
  · rw [List.nodup_append]; exact ⟨h.rowN, by simp, fun a ha b hb => by simp at hb; subst hb; rintro rfl; exact hr ha⟩
  · rw [keysM_putM, if_neg hm, List.nodup_append]; exact ⟨h.keysN, by simp, fun a ha b hb => by simp at hb; subst hb; rintro rfl; exact hm ha⟩
  · rw [keysM_putM, if_neg hm, List.mem_append, List.mem_append, h.same]
theorem LInv.re {row : List Key} {m : List (Key × Int)} (h : LInv row m) {k : Key} {e old : Int} (hk : epochOf m k = some old) : LInv (row.filter (fun y => !(y == k)) ++ [k]) (putM k e m) := by
  have hm : k ∈ keysM m := by rw [← epochOf_isSome, hk]; rfl
  refine ⟨?_, ?_, fun x => ?_⟩
  · rw [List.nodup_append]; exact ⟨h.rowN.filter _, by simp, fun a ha b hb => by simp at hb; subst hb; rintro rfl; simp at ha⟩
  · rw [keysM_putM, if_pos hm]; exact h.keysN
  · rw [keysM_putM, if_pos hm, List.mem_append, List.mem_filter, ← h.same]
    by_cases hx : x = k
    · subst hx; simp [(h.same x).2 hm]
    · simp [hx]
theorem LInv.step {x : Nat × List Key × List (Key × Int)} (h : LInv x.2.1 x.2.2) (e : Int) (k : Key) : LInv (retStep e x k).2.1 (retStep e x k).2.2 ∧ (retStep e x k).2.1.length ≤ x.2.1.length + 1 := by
  unfold retStep
  split
  · rename_i old ho
    refine ⟨h.re ho, ?_⟩
    have := List.length_filter_le (fun y => !(y == k)) x.2.1
    simp only [List.length_append, List.length_cons, List.length_nil]; omega
  · rename_i ho
    exact ⟨h.put ho, by simp⟩
theorem LInv.retN (e : Int) : ∀ (ks : List Key) {x : Nat × List Key × List (Key × Int)}, LInv x.2.1 x.2.2 → LInv (retN e ks x).2.1 (retN e ks x).2.2 ∧ (retN e ks x).2.1.length ≤ x.2.1.length + ks.length
  | [], _, h => ⟨h, Nat.le_refl _⟩
  | k :: ks, x, h => by
    have h1 := h.step e k
    have h2 := LInv.retN e ks h1.1
    refine ⟨h2.1, ?_⟩
    have := h2.2
    simp only [Go.Proofs.Ytakidnohmfebmaa.retN, List.foldl_cons, List.length_cons] at this ⊢
    omega
theorem LInv.out {row : List Key} {m : List (Key × Int)} (h : LInv row m) (p : Key → Bool) : LInv (row.filter fun k => !p k) (delAll (row.filter p) m) := by
  refine ⟨h.rowN.filter _, delAll_nodup _ h.keysN, fun x => ?_⟩
  rw [← epochOf_isSome, epochOf_delAll _ h.keysN, List.mem_filter, h.ofSome]
  by_cases hx : (epochOf m x).isSome = true
  · have : x ∈ row := (h.ofSome x).2 hx
    cases hp : p x <;> simp [this, hp, hx]
  · have hn : ¬ x ∈ row.filter p := fun hc => hx ((h.ofSome x).1 (List.mem_filter.1 hc).1)
    rw [if_neg hn]; simp [hx]
theorem filter_split {α : Type} (p : α → Bool) : ∀ l : List α, (l.filter p).length + (l.filter fun x => !p x).length = l.length
  | [] => rfl
  | a :: l => by
    have := filter_split p l
    cases h : p a <;> simp [h] <;> omega
end Go.Proofs.Ytakidnohmfebmaa
