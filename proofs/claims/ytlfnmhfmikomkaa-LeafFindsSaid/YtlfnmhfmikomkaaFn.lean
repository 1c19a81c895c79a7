/-
  Seat 11 (leaf): what is laid and taken out: plain definitions and laws.
-/
import Derived.Test.YtlfnmhfmikomkaaFm
import Derived.Test.YtlfnmhfmikomkaaHc
namespace Go.AL
set_option linter.unusedSimpArgs false
set_option linter.unusedVariables false

/-! ### The least number that is free -/
theorem pig : ∀ (m : Nat) (l : List Int), (∀ k : Nat, 1 ≤ k → k ≤ m → (k : Int) ∈ l) → m ≤ l.length
  | 0, _, _ => Nat.zero_le _
  | m + 1, l, h => by
    have hm := h (m + 1) (by omega) (Nat.le_refl _)
    have ih := pig m (l.erase ((m + 1 : Nat) : Int)) fun k h1 h2 => by
      rw [List.mem_erase_of_ne (by omega)]
      exact h k h1 (by omega)
    rw [List.length_erase_of_mem hm] at ih
    have : 0 < l.length := List.length_pos_of_mem hm
    omega
def freeF : Nat → List Int → Nat → Nat
  | 0, _, n => n
  | f + 1, l, n => if (n : Int) ∈ l then freeF f l (n + 1) else n
def freeN (l : List Int) : Nat := freeF (l.length + 1) l 1
theorem freeF_spec (l : List Int) : ∀ (f n : Nat), 1 ≤ n → l.length + 2 ≤ f + n → (∀ k : Nat, 1 ≤ k → k < n → (k : Int) ∈ l) → 1 ≤ freeF f l n ∧ (freeF f l n : Int) ∉ l ∧ ∀ k : Nat, 1 ≤ k → k < freeF f l n → (k : Int) ∈ l
  | 0, n, h1, h2, h3 => by
    have := pig (n - 1) l fun k hk hk2 => h3 k hk (by omega)
    omega
  | f + 1, n, h1, h2, h3 => by
    unfold freeF
    by_cases hm : (n : Int) ∈ l
    · rw [if_pos hm]
      exact freeF_spec l f (n + 1) (by omega) (by omega) fun k hk hk2 => by
        rcases Nat.lt_or_ge k n with h4 | h4
        · exact h3 k hk h4
        · obtain rfl : k = n := by omega
          exact hm
    · rw [if_neg hm]
      exact ⟨h1, hm, h3⟩
theorem freeN_spec (l : List Int) : 1 ≤ freeN l ∧ (freeN l : Int) ∉ l ∧ ∀ k : Nat, 1 ≤ k → k < freeN l → (k : Int) ∈ l := freeF_spec l _ 1 (Nat.le_refl _) (by omega) fun k h1 h2 => by omega
theorem freeN_le (l : List Int) : freeN l ≤ l.length + 1 := by
  obtain ⟨h1, h2, h3⟩ := freeN_spec l
  have := pig (freeN l - 1) l fun k hk hk2 => h3 k hk (by omega)
  omega
theorem freeN_uniq {l : List Int} {m : Nat} (h1 : 1 ≤ m) (h2 : (m : Int) ∉ l) (h3 : ∀ k : Nat, 1 ≤ k → k < m → (k : Int) ∈ l) : m = freeN l := by
  obtain ⟨g1, g2, g3⟩ := freeN_spec l
  rcases Nat.lt_trichotomy m (freeN l) with h | h | h
  · exact (h2 (g3 m h1 h)).elim
  · exact h
  · exact (g2 (h3 _ g1 h)).elim

/-! ### Insert, Remove -/
def ownB (r : Root) (l : Lf) (s : Txt) : Bool := decide (lfB l = true ∧ findN r s = l.1 ∧ l.1 ≠ 0)
theorem ownB_iff {r : Root} {l : Lf} {s : Txt} : ownB r l s = true ↔ lfB l = true ∧ findN r s = l.1 ∧ l.1 ≠ 0 := by simp [ownB]
theorem ownB_root {r : Root} {l : Lf} {s : Txt} (h : ownB r l s = true) : rootB r = true := by
  obtain ⟨_, h2, h3⟩ := ownB_iff.1 h
  cases hr : rootB r with
  | true => rfl
  | false => simp only [findN, hr] at h2; exact (h3 h2.symm).elim
/-- What the reference asks first. -/
theorem ownB_ref (r : Root) (l : Lf) (s : Txt) : ownB r l s = (rootB r && (lfB l && (findN r s == l.1))) := by
  rw [Bool.eq_iff_iff, ownB_iff]
  simp only [Bool.and_eq_true, beq_iff_eq]
  constructor
  · intro h
    exact ⟨ownB_root (ownB_iff.2 h), h.1, h.2.1⟩
  · rintro ⟨h1, h2, h3⟩
    refine ⟨h2, h3, ?_⟩
    obtain ⟨g1, g2, g3, g4⟩ := rootB_iff.1 h1
    have hle := atN_le r.1 s
    have hlt : atN r.1 s < r.2.length := by omega
    have : findN r s = r.2[atN r.1 s] := by simp [findN, h1, hlt]
    have := g3 _ (List.getElem_mem hlt)
    omega
abbrev Ch := Root × List Lf × Int
def errC (e : Int) : Ch := (([], []), [], e)
def insN (r : Root) (l : Lf) (s : Txt) : Ch :=
  if ownB r l s then
    if 600 < s.length then errC 82
    else if l.2.1.contains s then errC 31
    else
      let es := insL l.2.1 (posN l.2.1 s) s
      if es.length ≤ 4 then (r, [(l.1, es, false)], 0)
      else
        let no := freeN r.2
        let k := atN r.1 s
        ((insL r.1 k (es.getD 3 []), insL r.2 (k + 1) (no : Int)), [(l.1, es.take 3, false), ((no : Int), es.drop 3, false)], 0)
  else errC 100
def remN (r : Root) (l : Lf) (s : Txt) : Ch :=
  if ownB r l s then
    if l.2.1.contains s then
      let es := delL l.2.1 (posN l.2.1 s)
      if 0 < es.length ∨ r.2.length = 1 then (r, [(l.1, es, false)], 0)
      else
        let k := atN r.1 s
        ((delL r.1 (min k (r.1.length - 1)), delL r.2 k), [(l.1, [], true)], 0)
    else errC 101
  else errC 100
theorem insL_length {α : Type} (l : List α) (i : Nat) (x : α) (h : i ≤ l.length) : (insL l i x).length = l.length + 1 := by simp [insL]; omega
theorem delL_length {α : Type} (l : List α) (i : Nat) (h : i < l.length) : (delL l i).length = l.length - 1 := by simp [delL]; omega
theorem pos_idx {l : List Txt} (h : riseL l = true) {s : Txt} (hs : s ∈ l) : l.idxOf s = posN l s := by
  have hc := contains_pos h s
  rw [List.contains_iff_mem.2 hs] at hc
  have hc := hc.symm
  simp only [Bool.and_eq_true, decide_eq_true_eq, beq_iff_eq] at hc
  obtain ⟨h1, h2⟩ := hc
  unfold List.idxOf
  rw [List.findIdx_eq h1]
  have h3 : l[posN l s] = s := by
    rw [List.getD_eq_getElem?_getD, List.getElem?_eq_getElem h1] at h2
    simpa using h2
  refine ⟨by simp [h3], fun j hj => ?_⟩
  have := (posN_lt h s j (by omega)).2 hj
  have := tlt_ne this
  simpa using this
theorem posN_lt_len {l : List Txt} (h : riseL l = true) {s : Txt} (hs : l.contains s = true) : posN l s < l.length := by
  have hc := contains_pos h s
  rw [hs] at hc
  have hc := hc.symm
  simp only [Bool.and_eq_true, decide_eq_true_eq] at hc
  exact hc.1
def chV (x : Ch) : AVal := .tuple [rootV x.1, .slice (lfv x.2.1) 3 .ro, .int .i64 x.2.2]
theorem ch_noOut (n : Nat) (x : Ch) : (chV x).noOut n = true := by simp [chV, AVal.noOut, noOutL, root_noOut, lfv_noOut]
theorem ch_noTok (n : Nat) (x : Ch) : (chV x).noTok n = true := by simp [chV, AVal.noTok, noTokL, root_noTok, lfv_noTok, Tag.below]
theorem wk_strv_nil (s : Nat) (t : Tag) : Wk (.slice [] s t) (.slice (strv []) 1 .ro) := Wk.nil s 1 t
theorem wk_iv_nil (s : Nat) (t : Tag) : Wk (.slice [] s t) (.slice (iv []) 1 .ro) := Wk.nil s 1 t
theorem wk_lfv_nil (s : Nat) (t : Tag) : Wk (.slice [] s t) (.slice (lfv []) 3 .ro) := Wk.nil s 3 t
end Go.AL
