/-
  Seat 08 (block): blocks and their bytes: plain lists of numbers.
-/
import Derived.Test.YtajnhcncggbanaaKm
namespace Go.Proofs.Ytajnhcncggbanaa
open Go.AL
set_option linter.unusedSimpArgs false
set_option linter.unusedVariables false

abbrev Blk := Nat × List Nat

def fourN (n : Nat) : List Nat := [n / 16777216 % 256, n / 65536 % 256, n / 256 % 256, n % 256]
def wordN (l : List Nat) : Nat := ((l.getD 0 0 * 256 + l.getD 1 0) * 256 + l.getD 2 0) * 256 + l.getD 3 0
def headN (x : Blk) : List Nat := 203 :: x.1 :: (fourN x.2.length ++ x.2)
def packN (x : Blk) : List Nat := headN x ++ fourN (crcN (headN x))
def allN (xs : List Blk) : List Nat := xs.flatMap packN
def sizeN (xs : List Blk) : Nat := (xs.map fun x => 10 + x.2.length).sum

def takeN (l : List Nat) : Blk × Nat × Nat :=
  if l.length = 0 then ((0, []), 0, 20) else
  if l.getD 0 0 ≠ 203 then ((0, []), 0, 80) else
  if l.length < 6 then ((0, []), 0, 20) else
  if 1048576 < wordN (l.drop 2) then ((0, []), 0, 82) else
  if l.length < wordN (l.drop 2) + 10 then ((0, []), 0, 20) else
  if wordN (l.drop (wordN (l.drop 2) + 6)) ≠ crcN (l.take (wordN (l.drop 2) + 6)) then ((0, []), 0, 81) else
  ((l.getD 1 0, (l.drop 6).take (wordN (l.drop 2))), wordN (l.drop 2) + 10, 0)

def scanF : Nat → List Nat → List Blk × Nat
  | 0, _ => ([], 0)
  | f + 1, l =>
    if (takeN l).2.2 ≠ 0 then ([], 0) else
    ((takeN l).1 :: (scanF f (l.drop (takeN l).2.1)).1, (takeN l).2.1 + (scanF f (l.drop (takeN l).2.1)).2)
def scanN (l : List Nat) : List Blk × Nat := scanF l.length l

def Bytes (l : List Nat) : Prop := ∀ x ∈ l, x < 256

theorem fourN_length (n : Nat) : (fourN n).length = 4 := rfl
theorem fourN_bytes (n : Nat) : Bytes (fourN n) := by
  intro x hx
  simp [fourN] at hx
  omega
theorem wordN_four (n : Nat) (h : n < 4294967296) (r : List Nat) : wordN (fourN n ++ r) = n := by
  simp [wordN, fourN]
  omega
theorem four_word (l : List Nat) (h : 4 ≤ l.length) (hb : Bytes l) : fourN (wordN l) = l.take 4 ∧ wordN l < 4294967296 := by
  match l, h with
  | a :: b :: c :: d :: r, _ =>
    have ha := hb a (by simp)
    have hb' := hb b (by simp)
    have hc := hb c (by simp)
    have hd := hb d (by simp)
    simp [fourN, wordN]
    omega

theorem headN_length (x : Blk) : (headN x).length = 6 + x.2.length := by simp [headN, fourN]; omega
theorem packN_length (x : Blk) : (packN x).length = 10 + x.2.length := by simp [packN, headN_length, fourN]; omega
theorem allN_length (xs : List Blk) : (allN xs).length = sizeN xs := by
  induction xs with
  | nil => rfl
  | cons x xs ih =>
    simp only [allN, sizeN, List.flatMap_cons, List.length_append, List.map_cons, List.sum_cons] at ih ⊢
    rw [packN_length, ih]

def BlkOk (x : Blk) : Prop := x.1 < 256 ∧ Bytes x.2 ∧ x.2.length ≤ 1048576

theorem headN_bytes {x : Blk} (h : BlkOk x) : Bytes (headN x) := by
  intro y hy
  simp only [headN, List.mem_cons, List.mem_append] at hy
  rcases hy with rfl | rfl | hy | hy
  · decide
  · exact h.1
  · exact fourN_bytes _ y hy
  · exact h.2.1 y hy
theorem packN_bytes {x : Blk} (h : BlkOk x) : Bytes (packN x) := by
  intro y hy
  rcases List.mem_append.1 hy with hy | hy
  · exact headN_bytes h y hy
  · exact fourN_bytes _ y hy
theorem allN_bytes {xs : List Blk} (h : ∀ x ∈ xs, BlkOk x) : Bytes (allN xs) := by
  intro y hy
  obtain ⟨x, hx, hy⟩ := List.mem_flatMap.1 hy
  exact packN_bytes (h x hx) y hy

/-- What is taken where a block begins. -/
theorem take_pack {x : Blk} (h : BlkOk x) (r : List Nat) : takeN (packN x ++ r) = (x, 10 + x.2.length, 0) := by
  obtain ⟨k, b⟩ := x
  obtain ⟨_, hb, hl⟩ := h
  have hlen : (packN (k, b) ++ r).length = 10 + b.length + r.length := by rw [List.length_append, packN_length]
  have hw : wordN ((packN (k, b) ++ r).drop 2) = b.length := by
    have : (packN (k, b) ++ r).drop 2 = fourN b.length ++ (b ++ fourN (crcN (headN (k, b))) ++ r) := by simp [packN, headN]
    rw [this, wordN_four _ (by simp only [] at hl; omega)]
  have h6 : (packN (k, b) ++ r).take (b.length + 6) = headN (k, b) := by
    have e : (headN (k, b)).length = b.length + 6 := by rw [headN_length]; simp only []; omega
    rw [packN, List.append_assoc, ← e, List.take_left]
  have h7 : (packN (k, b) ++ r).drop (b.length + 6) = fourN (crcN (headN (k, b))) ++ r := by
    have e : (headN (k, b)).length = b.length + 6 := by rw [headN_length]; simp only []; omega
    rw [packN, List.append_assoc, ← e, List.drop_left]
  have hc : crcN (headN (k, b)) < 4294967296 := crcN_lt (headN_bytes (x := (k, b)) ⟨by assumption, hb, hl⟩)
  unfold takeN
  rw [hw, h6, h7, wordN_four _ hc, hlen]
  have g0 : (packN (k, b) ++ r).getD 0 0 = 203 := by simp [packN, headN]
  have g1 : (packN (k, b) ++ r).getD 1 0 = k := by simp [packN, headN]
  have g6 : ((packN (k, b) ++ r).drop 6).take b.length = b := by
    have : (packN (k, b) ++ r).drop 6 = b ++ (fourN (crcN (headN (k, b))) ++ r) := by simp [packN, headN, fourN]
    rw [this, List.take_left]
  simp only [] at hl
  rw [if_neg (by omega), if_neg (by rw [g0]; simp), if_neg (by omega), if_neg (by omega), if_neg (by omega), if_neg (by simp), g1, g6]
  simp
  omega

theorem take_pos {l : List Nat} (h : (takeN l).2.2 = 0) : 10 ≤ (takeN l).2.1 ∧ (takeN l).2.1 ≤ l.length := by
  unfold takeN at h ⊢
  by_cases c0 : l.length = 0
  · rw [if_pos c0] at h; cases h
  rw [if_neg c0] at h ⊢
  by_cases c1 : l.getD 0 0 ≠ 203
  · rw [if_pos c1] at h; cases h
  rw [if_neg c1] at h ⊢
  by_cases c2 : l.length < 6
  · rw [if_pos c2] at h; cases h
  rw [if_neg c2] at h ⊢
  by_cases c3 : 1048576 < wordN (l.drop 2)
  · rw [if_pos c3] at h; cases h
  rw [if_neg c3] at h ⊢
  by_cases c4 : l.length < wordN (l.drop 2) + 10
  · rw [if_pos c4] at h; cases h
  rw [if_neg c4] at h ⊢
  by_cases c5 : wordN (l.drop (wordN (l.drop 2) + 6)) ≠ crcN (l.take (wordN (l.drop 2) + 6))
  · rw [if_pos c5] at h; cases h
  rw [if_neg c5] at h ⊢
  simp only []
  omega

theorem scanF_fuel : ∀ (f g : Nat) (l : List Nat), l.length ≤ f → l.length ≤ g → scanF f l = scanF g l := by
  intro f
  induction f with
  | zero =>
    intro g l hf hg
    have : l = [] := List.eq_nil_of_length_eq_zero (by omega)
    subst this
    cases g with
    | zero => rfl
    | succ g => simp [scanF, takeN]
  | succ f ih =>
    intro g l hf hg
    cases g with
    | zero =>
      have : l = [] := List.eq_nil_of_length_eq_zero (by omega)
      subst this
      simp [scanF, takeN]
    | succ g =>
      simp only [scanF]
      by_cases h : (takeN l).2.2 ≠ 0
      · rw [if_pos h, if_pos h]
      · rw [if_neg h, if_neg h]
        have := take_pos (l := l) (by omega)
        rw [ih g (l.drop (takeN l).2.1) (by rw [List.length_drop]; omega) (by rw [List.length_drop]; omega)]

theorem scanN_step (l : List Nat) : scanN l = if (takeN l).2.2 ≠ 0 then ([], 0) else ((takeN l).1 :: (scanN (l.drop (takeN l).2.1)).1, (takeN l).2.1 + (scanN (l.drop (takeN l).2.1)).2) := by
  by_cases h0 : l.length = 0
  · have : l = [] := List.eq_nil_of_length_eq_zero h0
    subst this
    simp [scanN, scanF, takeN]
  · obtain ⟨f, hf⟩ : ∃ f, l.length = f + 1 := ⟨l.length - 1, by omega⟩
    unfold scanN
    rw [hf]
    simp only [scanF]
    by_cases h : (takeN l).2.2 ≠ 0
    · rw [if_pos h, if_pos h]
    · rw [if_neg h, if_neg h]
      have := take_pos (l := l) (by omega)
      rw [scanF_fuel f _ (l.drop (takeN l).2.1) (by rw [List.length_drop]; omega) (Nat.le_refl _)]

theorem scan_all : ∀ {xs : List Blk}, (∀ x ∈ xs, BlkOk x) → ∀ r, scanN (allN xs ++ r) = (xs ++ (scanN r).1, sizeN xs + (scanN r).2)
  | [], _, r => by simp [allN, sizeN]
  | x :: xs, h, r => by
    have e : allN (x :: xs) ++ r = packN x ++ (allN xs ++ r) := by simp [allN]
    have ht := take_pack (h x (by simp)) (allN xs ++ r)
    rw [scanN_step, e, ht]
    simp only []
    have hd : (packN x ++ (allN xs ++ r)).drop (10 + x.2.length) = allN xs ++ r := by rw [← packN_length, List.drop_left]
    rw [if_neg (by simp), hd, scan_all (fun y hy => h y (by simp [hy])) r]
    simp [sizeN, Nat.add_assoc]

theorem scan_nil : scanN [] = ([], 0) := by rw [scanN_step]; simp [takeN]

theorem take_bytes {l : List Nat} (h : Bytes l) : (takeN l).1.1 < 256 ∧ Bytes (takeN l).1.2 ∧ (takeN l).1.2.length ≤ 1048576 ∧ (takeN l).2.1 ≤ l.length := by
  have z : (0 : Nat) < 256 ∧ Bytes [] ∧ ([] : List Nat).length ≤ 1048576 ∧ 0 ≤ l.length := ⟨by decide, (fun x hx => by cases hx), by decide, Nat.zero_le _⟩
  unfold takeN
  split
  · exact z
  · split
    · exact z
    · split
      · exact z
      · split
        · exact z
        · split
          · exact z
          · split
            · exact z
            · refine ⟨?_, fun x hx => h x (List.mem_of_mem_drop (List.mem_of_mem_take hx)), ?_, by simp only []; omega⟩
              · have : l.getD 1 0 = l[1]'(by omega) := by simp [List.getD, show 1 < l.length by omega]
                simp only [this]
                exact h _ (List.getElem_mem _)
              · simp only [List.length_take]; omega
end Go.Proofs.Ytajnhcncggbanaa
