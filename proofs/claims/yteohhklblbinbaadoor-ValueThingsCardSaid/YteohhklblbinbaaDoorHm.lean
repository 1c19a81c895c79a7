/-
  Maps whose keys are ints, as lists of typed entries.
-/
import Derived.Test.YteohhklblbinbaaDoorH
import Derived.Test.YteohhklblbinbaaDoorB0
namespace Go.AL
set_option linter.unusedSimpArgs false
set_option linter.unusedVariables false

section
variable {β : Type}
def mi (f : β → AVal) (m : List (Int × β)) : List (AVal × AVal) := m.map fun x => (.int .i64 x.1, f x.2)
def getI (m : List (Int × β)) (k : Int) : Option β := (m.find? fun x => x.1 == k).map (·.2)
def putI (k : Int) (v : β) : List (Int × β) → List (Int × β)
  | [] => [(k, v)]
  | x :: r => if x.1 = k then (k, v) :: r else x :: putI k v r
def delI (k : Int) : List (Int × β) → List (Int × β)
  | [] => []
  | x :: r => if x.1 = k then r else x :: delI k r
@[simp] theorem mi_length (f : β → AVal) (m : List (Int × β)) : (mi f m).length = m.length := by simp [mi]
theorem getI_nil (k : Int) : getI ([] : List (Int × β)) k = none := rfl
theorem getI_cons (x : Int × β) (m : List (Int × β)) (k : Int) : getI (x :: m) k = if x.1 = k then some x.2 else getI m k := by
  simp only [getI, List.find?_cons]
  by_cases h : x.1 = k
  · simp [h]
  · have : (x.1 == k) = false := by simp only [beq_eq_false_iff_ne]; exact h
    simp [this, h]
theorem getI_putI (k : Int) (v : β) (m : List (Int × β)) (j : Int) : getI (putI k v m) j = if k = j then some v else getI m j := by
  induction m with
  | nil => rw [putI, getI_cons, getI_nil]
  | cons y m ih =>
    rw [putI]
    by_cases h : y.1 = k
    · rw [if_pos h, getI_cons, getI_cons]
      by_cases hx : k = j
      · simp [hx]
      · rw [if_neg hx, if_neg hx, if_neg (by rw [h]; exact hx)]
    · rw [if_neg h, getI_cons, getI_cons, ih]
      by_cases hx : k = j
      · subst hx; simp [h]
      · simp [hx]
theorem keys_putI (k : Int) (v : β) (m : List (Int × β)) : (putI k v m).map (·.1) = if k ∈ m.map (·.1) then m.map (·.1) else m.map (·.1) ++ [k] := by
  induction m with
  | nil => rfl
  | cons y m ih =>
    rw [putI]
    by_cases h : y.1 = k
    · subst h; rw [if_pos rfl, if_pos (by simp)]; simp
    · rw [if_neg h]
      simp only [List.map_cons, List.mem_cons]
      rw [ih]
      have h' : ¬ k = y.1 := fun e => h e.symm
      by_cases hm : k ∈ m.map (·.1)
      · rw [if_pos hm, if_pos (.inr hm)]
      · rw [if_neg hm, if_neg (by rintro (h1 | h1); exact h' h1; exact hm h1)]; rfl
theorem getI_mem {m : List (Int × β)} {k : Int} {v : β} (h : getI m k = some v) : (k, v) ∈ m := by
  induction m with
  | nil => cases h
  | cons y m ih =>
    rw [getI_cons] at h
    split at h
    · rename_i e; cases h; subst e; simp
    · exact List.mem_cons_of_mem _ (ih h)
theorem getI_isSome (m : List (Int × β)) (k : Int) : (getI m k).isSome = true ↔ k ∈ m.map (·.1) := by
  induction m with
  | nil => simp [getI_nil]
  | cons y m ih =>
    rw [getI_cons]
    by_cases h : y.1 = k
    · simp [h]
    · rw [if_neg h, ih]
      simp only [List.map_cons, List.mem_cons]
      exact ⟨.inr, fun h' => h'.elim (fun e => (h e.symm).elim) id⟩
theorem eqK_int (a b : Int) : eqK (.int .i64 a) (.int .i64 b) = decide (a = b) := by
  simp only [eqK, eqC]
  rw [Bool.eq_iff_iff]; simp
theorem mapFind_mi (f : β → AVal) (k : Int) : ∀ (m : List (Int × β)) (i : Nat), match mapFind (.int .i64 k) (mi f m) i with
    | none => getI m k = none
    | some x => ∃ v, getI m k = some v ∧ x.2 = f v := by
  intro m
  induction m with
  | nil => intro i; rfl
  | cons x m ih =>
    intro i
    simp only [mi, List.map_cons, mapFind, eqK_int]
    by_cases h : k = x.1
    · simp only [h, decide_true]
      exact ⟨x.2, by rw [getI_cons]; simp, rfl⟩
    · simp only [decide_eq_false h]
      have := ih (i + 1)
      rw [getI_cons, if_neg (fun e => h e.symm)]
      simp only [mi] at this
      exact this
theorem mapVal_mi (f : β → AVal) (k : Int) (z : AVal) (m : List (Int × β)) : mapVal (.int .i64 k) z (mi f m) = match getI m k with | some v => f v | none => z := by
  have := mapFind_mi f k m 0
  unfold mapVal
  cases hm : mapFind (.int .i64 k) (mi f m) 0 with
  | none => rw [hm] at this; rw [this]
  | some x => rw [hm] at this; obtain ⟨e, h1, h2⟩ := this; rw [h1]; exact h2
theorem mapFindS_mi (f : β → AVal) (k : Int) (m : List (Int × β)) : (mapFind (.int .i64 k) (mi f m) 0).isSome = (getI m k).isSome := by
  have := mapFind_mi f k m 0
  cases hm : mapFind (.int .i64 k) (mi f m) 0 with
  | none => rw [hm] at this; rw [this]; rfl
  | some x => rw [hm] at this; obtain ⟨e, h1, h2⟩ := this; rw [h1]; rfl
theorem mapPut_go (f : β → AVal) (k : Int) (v : β) : ∀ (m : List (Int × β)) (i : Nat), (match mapFind (.int .i64 k) (mi f m) i with | some x => (mi f m).set (x.1 - i) (.int .i64 k, f v) | none => mi f m ++ [(.int .i64 k, f v)]) = mi f (putI k v m)
  | [], i => rfl
  | x :: m, i => by
    simp only [mi, List.map_cons, mapFind, eqK_int, putI]
    by_cases h : k = x.1
    · simp [h]
    · simp only [decide_eq_false h]
      rw [if_neg (fun e => h e.symm)]
      have ih := mapPut_go f k v m (i + 1)
      have hs := mapFind_spec (.int .i64 k) (mi f m) (i + 1)
      simp only [mi, List.map_cons] at ih hs ⊢
      cases hm : mapFind (.int .i64 k) (m.map fun x => (AVal.int .i64 x.1, f x.2)) (i + 1) with
      | none => rw [hm] at ih; simp only [List.cons_append]; rw [← ih]
      | some y =>
        rw [hm] at ih hs
        obtain ⟨j, z, h1, h2, _⟩ := hs
        simp only [] at ih ⊢
        rw [← ih, show y.1 - i = (y.1 - (i + 1)) + 1 by omega]
        rfl
theorem mapPut_mi (f : β → AVal) (k : Int) (v : β) (m : List (Int × β)) : mapPut (.int .i64 k) (f v) (mi f m) = mi f (putI k v m) := mapPut_go f k v m 0
theorem mapDel_go (f : β → AVal) (k : Int) : ∀ (m : List (Int × β)) (i : Nat), (match mapFind (.int .i64 k) (mi f m) i with | some x => (mi f m).eraseIdx (x.1 - i) | none => mi f m) = mi f (delI k m)
  | [], i => rfl
  | x :: m, i => by
    simp only [mi, List.map_cons, mapFind, eqK_int, delI]
    by_cases h : k = x.1
    · simp [h]
    · simp only [decide_eq_false h]
      rw [if_neg (fun e => h e.symm)]
      have ih := mapDel_go f k m (i + 1)
      have hs := mapFind_spec (.int .i64 k) (mi f m) (i + 1)
      simp only [mi, List.map_cons] at ih hs ⊢
      cases hm : mapFind (.int .i64 k) (m.map fun x => (AVal.int .i64 x.1, f x.2)) (i + 1) with
      | none => rw [hm] at ih; simp only []; rw [← ih]
      | some y =>
        rw [hm] at ih hs
        obtain ⟨j, z, h1, h2, _⟩ := hs
        simp only [] at ih ⊢
        rw [← ih, show y.1 - i = (y.1 - (i + 1)) + 1 by omega]
        rfl
theorem mapDel_mi (f : β → AVal) (k : Int) (m : List (Int × β)) : mapDel (.int .i64 k) (mi f m) = mi f (delI k m) := mapDel_go f k m 0
theorem keysOk_mi {P : Program} {T : TypeId} (hT : leafOf P T = some (.int .i64)) (f : β → AVal) (m : List (Int × β)) : keysOk P T (mi f m) = true := by
  simp only [keysOk, mi, List.all_map, List.all_eq_true]
  intro x _
  simp only [Function.comp, kOk, hT, Leaf.fits]
  rfl
end
/-- Truth values. -/
def mb (m : List (Int × Bool)) : List (AVal × AVal) := mi AVal.bool m
theorem push_set (σ : Sto) (x y : AObj) : (σ.push x).set σ.nobj y = σ.push y := by
  simp only [Sto.push, Sto.set, Sto.mk.injEq, true_and, and_true]
  funext n; by_cases h : n = σ.nobj <;> simp [h]
theorem push_set0 (x y : AObj) : (Sto.push Sto.empty x).set 0 y = Sto.push Sto.empty y := push_set Sto.empty x y
end Go.AL
