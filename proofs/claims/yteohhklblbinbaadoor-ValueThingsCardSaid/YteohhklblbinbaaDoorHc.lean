/-
  Cells that are laid over others: what they read as then.
-/
import Derived.Test.YteohhklblbinbaaDoorHm
import Derived.Test.YteohhklblbinbaaDoorA16
namespace Go.AL
set_option linter.unusedSimpArgs false
set_option linter.unusedVariables false

theorem setRange_length {cs xs : List AVal} {off : Nat} (h : off + xs.length ≤ cs.length) : (setRange cs off xs).length = cs.length := by
  simp [setRange]; omega
theorem setRange_get {cs xs : List AVal} {off : Nat} (h : off + xs.length ≤ cs.length) (k : Nat) : (setRange cs off xs)[k]? = if k < off then cs[k]? else if k < off + xs.length then xs[k - off]? else cs[k]? := by
  unfold setRange
  have hl : (cs.take off).length = off := by simp; omega
  by_cases h1 : k < off
  · rw [if_pos h1, List.append_assoc, List.getElem?_append_left (by omega), List.getElem?_take, if_pos h1]
  · rw [if_neg h1, List.append_assoc, List.getElem?_append_right (by omega), hl]
    by_cases h2 : k < off + xs.length
    · rw [if_pos h2, List.getElem?_append_left (by omega)]
    · rw [if_neg h2, List.getElem?_append_right (by omega), List.getElem?_drop]
      congr 1; omega
theorem pre_of {C P : List AVal} (h : ∀ k, k < P.length → C[k]? = P[k]?) : ∃ tl, C = P ++ tl := by
  refine ⟨C.drop P.length, ?_⟩
  apply List.ext_getElem?
  intro k
  by_cases hk : k < P.length
  · rw [h k hk, List.getElem?_append_left hk]
  · rw [List.getElem?_append_right (by omega), List.getElem?_drop]
    congr 1; omega
theorem noLocL_take (n : Nat) : ∀ {xs : List AVal}, noLocL xs = true → noLocL (xs.take n) = true := by
  induction n with
  | zero => intros; rfl
  | succ n ih =>
    intro xs h
    cases xs with
    | nil => rfl
    | cons a xs =>
      simp only [noLocL, Bool.and_eq_true, List.take_succ_cons] at h ⊢
      exact ⟨h.1, ih h.2⟩
theorem noLocL_drop (n : Nat) : ∀ {xs : List AVal}, noLocL xs = true → noLocL (xs.drop n) = true := by
  induction n with
  | zero => intro xs h; exact h
  | succ n ih =>
    intro xs h
    cases xs with
    | nil => rfl
    | cons a xs =>
      simp only [noLocL, Bool.and_eq_true, List.drop_succ_cons] at h ⊢
      exact ih h.2
theorem noLocL_undefs (n : Nat) : noLocL (List.replicate n AVal.undef) = true := by
  induction n with
  | zero => rfl
  | succ n ih => simp only [List.replicate_succ, noLocL, ih]; rfl
theorem one_set (x y : AObj) : (Sto.one x).set 0 y = Sto.one y := by
  simp only [Sto.one, Sto.set, Sto.mk.injEq, true_and, and_true]
  funext n; by_cases h : n = 0 <;> simp [h]

theorem noLocL_rep {z : AVal} (h : z.noLoc = true) (n : Nat) : noLocL (List.replicate n z) = true := by
  induction n with
  | zero => rfl
  | succ n ih => simp only [List.replicate_succ, noLocL, ih, h, Bool.and_self]
theorem flat_rep {z : AVal} (h : z.cells = [z]) (n : Nat) : flat (List.replicate n z) = List.replicate n z := by
  induction n with
  | zero => rfl
  | succ n ih =>
    simp only [List.replicate_succ, flat, List.flatMap_cons, h] at ih ⊢
    rw [ih]; rfl
def insL {α : Type} (l : List α) (i : Nat) (x : α) : List α := l.take i ++ x :: l.drop i
def delL {α : Type} (l : List α) (i : Nat) : List α := l.take i ++ l.drop (i + 1)
/-- E, with x laid in at i. -/
def insC (E : List AVal) (i : Nat) (x : AVal) : List AVal := E.take i ++ x :: E.drop i
theorem insC_map {β : Type} (f : β → AVal) (l : List β) (i : Nat) (x : β) : insC (l.map f) i (f x) = (insL l i x).map f := by simp [insC, insL]
theorem insC_length {E : List AVal} {i : Nat} (x : AVal) (h : i ≤ E.length) : (insC E i x).length = E.length + 1 := by simp [insC]; omega
theorem insC_get {E : List AVal} {i : Nat} (x : AVal) (h : i ≤ E.length) (k : Nat) : (insC E i x)[k]? = if k < i then E[k]? else if k = i then some x else E[k - 1]? := by
  unfold insC
  have hl : (E.take i).length = i := by simp; omega
  by_cases h1 : k < i
  · rw [if_pos h1, List.getElem?_append_left (by omega), List.getElem?_take, if_pos h1]
  · rw [if_neg h1, List.getElem?_append_right (by omega), hl]
    by_cases h2 : k = i
    · subst h2; simp
    · rw [if_neg h2]
      obtain ⟨d, hd⟩ : ∃ d, k - i = d + 1 := ⟨k - i - 1, by omega⟩
      rw [hd, List.getElem?_cons_succ, List.getElem?_drop]
      congr 1; omega
/-- In place: what stands from i on moves up by one, x comes there. -/
theorem ins_shift {E J : List AVal} {i : Nat} (x : AVal) (hi : i ≤ E.length) (hJ : 1 ≤ J.length) :
    ∃ tl, setRange (setRange (E ++ J) (i + 1) (((E ++ J).drop i).take (E.length - i))) i [x] = insC E i x ++ tl := by
  have hl1 : (((E ++ J).drop i).take (E.length - i)).length = E.length - i := by simp; omega
  have h1 : i + 1 + (((E ++ J).drop i).take (E.length - i)).length ≤ (E ++ J).length := by rw [hl1]; simp; omega
  refine pre_of fun k hk => ?_
  rw [insC_length x hi] at hk
  rw [setRange_get (by rw [setRange_length h1]; simp; omega), insC_get x hi, setRange_get h1, hl1]
  by_cases k1 : k < i
  · rw [if_pos k1, if_pos k1, if_pos (by omega), List.getElem?_append_left (by omega)]
  · rw [if_neg k1, if_neg k1]
    by_cases k2 : k = i
    · subst k2; rw [if_pos (by simp), if_pos rfl]; simp
    · rw [if_neg (by simp; omega), if_neg k2, if_neg (by omega), if_pos (by omega), List.getElem?_take, if_pos (by omega), List.getElem?_drop, List.getElem?_append_left (by omega)]
      congr 1; omega
theorem ins_end {E J : List AVal} (x : AVal) (hJ : 1 ≤ J.length) : ∃ tl, setRange (E ++ J) E.length [x] = insC E E.length x ++ tl := by
  refine pre_of fun k hk => ?_
  rw [insC_length x (Nat.le_refl _)] at hk
  rw [setRange_get (by simp; omega), insC_get x (Nat.le_refl _)]
  by_cases k1 : k < E.length
  · rw [if_pos k1, if_pos k1, List.getElem?_append_left k1]
  · rw [if_neg k1, if_neg k1, if_pos (by simp; omega), if_pos (by omega)]
    have : k - E.length = 0 := by omega
    rw [this]; rfl
theorem ins_endG {E J U : List AVal} (x : AVal) : ∃ tl, (E ++ J).take E.length ++ [x] ++ U = insC E E.length x ++ tl := ⟨U, by simp [insC]⟩
theorem ins_mid {E J U : List AVal} {i : Nat} (x z : AVal) (hi : i ≤ E.length) :
    ∃ tl, setRange (setRange ((E ++ J).take i ++ List.replicate (E.length + 1 - i) z ++ U) i [x]) (i + 1) (((E ++ J).drop i).take (E.length - i)) = insC E i x ++ tl := by
  have hl1 : (((E ++ J).drop i).take (E.length - i)).length = E.length - i := by simp; omega
  have hl0 : ((E ++ J).take i ++ List.replicate (E.length + 1 - i) z ++ U).length = E.length + 1 + U.length := by simp; omega
  have h1 : i + [x].length ≤ ((E ++ J).take i ++ List.replicate (E.length + 1 - i) z ++ U).length := by rw [hl0]; simp; omega
  have h2 : i + 1 + (((E ++ J).drop i).take (E.length - i)).length ≤ (setRange ((E ++ J).take i ++ List.replicate (E.length + 1 - i) z ++ U) i [x]).length := by rw [setRange_length h1, hl0, hl1]; omega
  refine pre_of fun k hk => ?_
  rw [insC_length x hi] at hk
  rw [setRange_get h2, insC_get x hi, setRange_get h1, hl1]
  by_cases k1 : k < i
  · rw [if_pos (by omega), if_pos k1, if_pos k1, List.append_assoc, List.getElem?_append_left (by simp; omega), List.getElem?_take, if_pos k1, List.getElem?_append_left (by omega)]
  · by_cases k2 : k = i
    · subst k2
      rw [if_pos (by omega), if_neg k1, if_pos (by simp), if_neg k1, if_pos rfl]; simp
    · rw [if_neg (by omega), if_pos (by omega), if_neg k1, if_neg k2, List.getElem?_take, if_pos (by omega), List.getElem?_drop, List.getElem?_append_left (by omega)]
      congr 1; omega
/-- E, without the one at i. -/
def delC (E : List AVal) (i : Nat) : List AVal := E.take i ++ E.drop (i + 1)
theorem delC_map {β : Type} (f : β → AVal) (l : List β) (i : Nat) : delC (l.map f) i = (delL l i).map f := by simp [delC, delL]
theorem del_cells {E J Z : List AVal} {i : Nat} (hi : i < E.length) (hZ : Z.length = 1) :
    ∃ tl, setRange (setRange (E ++ J) i (((E ++ J).drop (i + 1)).take (E.length - (i + 1)))) (i + (E.length - (i + 1))) Z = delC E i ++ tl := by
  have hl1 : (((E ++ J).drop (i + 1)).take (E.length - (i + 1))).length = E.length - (i + 1) := by simp; omega
  have h1 : i + (((E ++ J).drop (i + 1)).take (E.length - (i + 1))).length ≤ (E ++ J).length := by rw [hl1]; simp; omega
  have h2 : i + (E.length - (i + 1)) + Z.length ≤ (setRange (E ++ J) i (((E ++ J).drop (i + 1)).take (E.length - (i + 1)))).length := by rw [setRange_length h1, hZ]; simp; omega
  have hd : (delC E i).length = E.length - 1 := by simp [delC]; omega
  refine pre_of fun k hk => ?_
  rw [hd] at hk
  rw [setRange_get h2, if_pos (by omega), setRange_get h1, hl1]
  unfold delC
  by_cases k1 : k < i
  · rw [if_pos k1, List.getElem?_append_left (by omega), List.getElem?_append_left (by simp; omega), List.getElem?_take, if_pos k1]
  · rw [if_neg k1, if_pos (by omega), List.getElem?_append_right (by simp; omega), List.getElem?_take, if_pos (by omega), List.getElem?_drop, List.getElem?_append_left (by omega), List.getElem?_drop]
    have : (E.take i).length = i := by simp; omega
    rw [this]
end Go.AL
