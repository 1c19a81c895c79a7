/-
  The texts Ub of this seat, one behind the other.
-/
import Derived.Test.YtcijjgfadkflmaaDoorZ14

section
namespace Go.AL
set_option linter.unusedSimpArgs false
set_option linter.unusedVariables false
theorem rPropsF_len : ∀ f l v r, rPropsF f l = some (v, r) → v.length ≤ f
  | 0, l, v, r, h => by cases h
  | f + 1, l, v, r, h => by
    unfold rPropsF at h
    split at h
    · simp only [Option.some.injEq, Prod.mk.injEq] at h; obtain ⟨rfl, _⟩ := h; simp
    · split at h
      · cases h
      · simp only [Option.map_eq_some_iff, Prod.mk.injEq] at h
        obtain ⟨x, hx, rfl, _⟩ := h
        have := rPropsF_len f _ x.1 x.2 hx
        simpa using this
theorem rNodesF_len : ∀ f l v r, rNodesF f l = some (v, r) → v.length ≤ f
  | 0, l, v, r, h => by cases h
  | f + 1, l, v, r, h => by
    unfold rNodesF at h
    split at h
    · split at h
      · cases h
      · split at h
        · cases h
        · simp only [Option.map_eq_some_iff, Prod.mk.injEq] at h
          obtain ⟨x, hx, rfl, _⟩ := h
          have := rNodesF_len f _ x.1 x.2 hx
          simpa using this
    · simp only [Option.some.injEq, Prod.mk.injEq] at h; obtain ⟨rfl, _⟩ := h; simp
theorem rLinksF_len : ∀ f l v r, rLinksF f l = some (v, r) → v.length ≤ f
  | 0, l, v, r, h => by cases h
  | f + 1, l, v, r, h => by
    unfold rLinksF at h
    split at h
    · split at h
      · cases h
      · simp only [Option.map_eq_some_iff, Prod.mk.injEq] at h
        obtain ⟨x, hx, rfl, _⟩ := h
        have := rLinksF_len f _ x.1 x.2 hx
        simpa using this
    · simp only [Option.some.injEq, Prod.mk.injEq] at h; obtain ⟨rfl, _⟩ := h; simp
theorem rNames_len : ∀ l v r, rNames l = some (v, r) → v.length ≤ l.length
  | [], v, r, h => by cases h; simp
  | w :: l, v, r, h => by
    unfold rNames at h
    split at h
    · simp only [Option.map_eq_some_iff, Prod.mk.injEq] at h
      obtain ⟨x, hx, rfl, _⟩ := h
      have := rNames_len l x.1 x.2 hx
      simpa using this
    · cases h
theorem rProps_len (l : List Txt) (v : List Pr) (r : List Txt) (h : rProps l = some (v, r)) : v.length ≤ l.length := by
  unfold rProps at h
  split at h
  · exact rPropsF_len _ _ _ _ h
  · simp only [Option.some.injEq, Prod.mk.injEq] at h; obtain ⟨rfl, _⟩ := h; simp
theorem rPattern_len (l : List Txt) (v : List Nd × List Lk) (r : List Txt) (h : rPattern l = some (v, r)) : v.1.length ≤ l.length + 1 ∧ v.2.length ≤ l.length + 1 := by
  unfold rPattern at h
  split at h
  · cases h
  · rename_i ns l1 h1
    simp only [Option.map_eq_some_iff, Prod.mk.injEq] at h
    obtain ⟨x, hx, rfl, _⟩ := h
    have a1 := rNodesF_len _ _ _ _ h1
    have a2 := rLinksF_len _ _ x.1 x.2 hx
    have a3 := (rNodesF_suf _ _ _ _ h1).length_le
    exact ⟨a1, by show x.1.length ≤ _; omega⟩
theorem cutLen {α : Type} {F : List Txt → Rd α} (hc : CutR F) {l : List Txt} {a : α} {r : List Txt} (h : F l = some (a, r)) : r.length ≤ l.length := Nat.le_of_lt (hc _ _ _ h).2
def Opr.lens (o : Opr) (n : Nat) : Prop := o.props.length ≤ n ∧ o.keys.length ≤ n ∧ o.nodes.length ≤ n ∧ o.links.length ≤ n
theorem rOp_lens {w : Txt} {l r : List Txt} {o : Opr} (h : rOp w l = some (o, r)) : o.lens (l.length + 1) := by
  unfold rOp at h
  by_cases c0 : w = wVertex
  · rw [if_pos c0] at h
    split at h
    · cases h
    · rename_i a l1 h1
      split at h
      · cases h
      · rename_i b l2 h2
        simp only [Option.map_eq_some_iff, Prod.mk.injEq] at h
        obtain ⟨x, hx, rfl, _⟩ := h
        have := rProps_len _ x.1 x.2 hx; have := cutLen rNumber_cut h1; have := cutLen rName_cut h2
        exact ⟨by show x.1.length ≤ _; omega, Nat.zero_le _, Nat.zero_le _, Nat.zero_le _⟩
  rw [if_neg c0] at h
  by_cases c1 : w = wEdge
  · rw [if_pos c1] at h
    split at h
    · cases h
    · rename_i a l1 h1
      split at h
      · cases h
      · rename_i b l2 h2
        split at h
        · cases h
        · rename_i c l3 h3
          split at h
          · cases h
          · rename_i d l4 h4
            simp only [Option.map_eq_some_iff, Prod.mk.injEq] at h
            obtain ⟨x, hx, rfl, _⟩ := h
            have := rProps_len _ x.1 x.2 hx; have := cutLen rNumber_cut h1; have := cutLen rName_cut h2; have := cutLen rNumber_cut h3; have := cutLen rNumber_cut h4
            exact ⟨by show x.1.length ≤ _; omega, Nat.zero_le _, Nat.zero_le _, Nat.zero_le _⟩
  rw [if_neg c1] at h
  by_cases c2 : w = wSet
  · rw [if_pos c2] at h
    split at h
    · cases h
    · rename_i a l1 h1
      split at h
      · cases h
      · rename_i b l2 h2
        simp only [Option.map_eq_some_iff, Prod.mk.injEq] at h
        obtain ⟨x, hx, rfl, _⟩ := h
        have := rProps_len _ x.1 x.2 hx; have := cutLen rEdge_cut h1; have := cutLen rNumber_cut h2
        exact ⟨by show x.1.length ≤ _; omega, Nat.zero_le _, Nat.zero_le _, Nat.zero_le _⟩
  rw [if_neg c2] at h
  by_cases c3 : w = wUnset
  · rw [if_pos c3] at h
    split at h
    · cases h
    · rename_i a l1 h1
      split at h
      · cases h
      · rename_i b l2 h2
        simp only [Option.map_eq_some_iff, Prod.mk.injEq] at h
        obtain ⟨x, hx, rfl, _⟩ := h
        have := rNames_len _ x.1 x.2 hx; have := cutLen rEdge_cut h1; have := cutLen rNumber_cut h2
        exact ⟨Nat.zero_le _, by show x.1.length ≤ _; omega, Nat.zero_le _, Nat.zero_le _⟩
  rw [if_neg c3] at h
  by_cases c4 : w = wDrop
  · rw [if_pos c4] at h
    split at h
    · cases h
    · simp only [Option.map_eq_some_iff, Prod.mk.injEq] at h
      obtain ⟨x, hx, rfl, _⟩ := h
      exact ⟨Nat.zero_le _, Nat.zero_le _, Nat.zero_le _, Nat.zero_le _⟩
  rw [if_neg c4] at h
  by_cases c5 : w = wGet
  · rw [if_pos c5] at h
    split at h
    · cases h
    · simp only [Option.map_eq_some_iff, Prod.mk.injEq] at h
      obtain ⟨x, hx, rfl, _⟩ := h
      exact ⟨Nat.zero_le _, Nat.zero_le _, Nat.zero_le _, Nat.zero_le _⟩
  rw [if_neg c5] at h
  by_cases c6 : (w = wNext ∨ w = wBack)
  · rw [if_pos c6] at h
    split at h
    · cases h
    · simp only [Option.map_eq_some_iff, Prod.mk.injEq] at h
      obtain ⟨x, hx, rfl, _⟩ := h
      exact ⟨Nat.zero_le _, Nat.zero_le _, Nat.zero_le _, Nat.zero_le _⟩
  rw [if_neg c6] at h
  by_cases c7 : w = wFind
  · rw [if_pos c7] at h
    simp only [Option.map_eq_some_iff, Prod.mk.injEq] at h
    obtain ⟨x, hx, rfl, _⟩ := h
    exact ⟨Nat.zero_le _, Nat.zero_le _, Nat.zero_le _, Nat.zero_le _⟩
  rw [if_neg c7] at h
  by_cases c8 : w = wMatch
  · rw [if_pos c8] at h
    split at h
    · cases h
    · rename_i a l1 h1
      simp only [Option.map_eq_some_iff, Prod.mk.injEq] at h
      obtain ⟨x, hx, rfl, _⟩ := h
      have p := rPattern_len _ x.1 x.2 hx; have := cutLen rNumber_cut h1
      have p1 := p.1; have p2 := p.2
      exact ⟨Nat.zero_le _, Nat.zero_le _, by show x.1.1.length ≤ _; omega, by show x.1.2.length ≤ _; omega⟩
  rw [if_neg c8] at h
  by_cases c9 : w = wPath
  · rw [if_pos c9] at h
    split at h
    · cases h
    · split at h
      · cases h
      · split at h
        · cases h
        · simp only [Option.map_eq_some_iff, Prod.mk.injEq] at h
          obtain ⟨x, hx, rfl, _⟩ := h
          exact ⟨Nat.zero_le _, Nat.zero_le _, Nat.zero_le _, Nat.zero_le _⟩

  rw [if_neg c9] at h
  cases h
end Go.AL
namespace Go.Proofs.YtcijjgfadkflmaaDoor
open Go.AL
theorem askW_lens {l : List Txt} {x : Ak} (h : askW l = some x) : x.op.lens (l.length + 1) := by
  have z : (({} : Opr)).lens (l.length + 1) := ⟨Nat.zero_le _, Nat.zero_le _, Nat.zero_le _, Nat.zero_le _⟩
  cases l with
  | nil => cases h
  | cons w l =>
    rw [askW_cons] at h
    by_cases hv : verbT w = 0
    · rw [if_pos hv] at h
      split at h
      · rename_i o ho
        cases h
        obtain ⟨h1, h2, h3, h4⟩ := rOp_lens ho
        rw [List.length_cons]
        exact ⟨by show o.props.length ≤ _; omega, by show o.keys.length ≤ _; omega, by show o.nodes.length ≤ _; omega, by show o.links.length ≤ _; omega⟩
      · cases h
    · rw [if_neg hv] at h
      by_cases ht : l = []
      · rw [if_pos ht] at h; cases h; exact z
      · rw [if_neg ht] at h; cases h
theorem parse_few (s : Txt) : (parseT s).1.op.few := by
  have z : (({} : Ak)).op.few := ⟨Nat.zero_le _, Nat.zero_le _, Nat.zero_le _, Nat.zero_le _⟩
  unfold parseT
  split
  · exact z
  · cases h : askW (wordsT s).1 with
    | none => exact z
    | some x =>
      obtain ⟨h1, h2, h3, h4⟩ := askW_lens h
      have := (wordsT_len s).1
      exact ⟨by show x.op.props.length ≤ _; omega, by show x.op.keys.length ≤ _; omega, by show x.op.nodes.length ≤ _; omega, by show x.op.links.length ≤ _; omega⟩
end Go.Proofs.YtcijjgfadkflmaaDoor
end
