/-
  Seat 02 (value): numbers and texts of runes are read as themselves, plain.
-/
import Derived.Test.YteohhklblbinbaaDoorVg
namespace Go.AL
set_option linter.unusedSimpArgs false
set_option linter.unusedVariables false
theorem u8_dig (d : Nat) (h : d < 10) : (UInt8.ofNat (48 + d)).toNat = 48 + d := by simp; omega
theorem parse_dig (acc d : Nat) (l : Txt) (hd : d < 10) (h : acc * 10 + d < 18446744073709551616) : Lib.parseUint10 acc (UInt8.ofNat (48 + d) :: l) = Lib.parseUint10 (acc * 10 + d) l := by
  rw [Lib.parseUint10, u8_dig d hd, if_pos (by omega), if_neg (by omega), show 48 + d - 48 = d by omega, if_neg (by omega)]
theorem parse_num (u : Nat) : ∀ (acc : Nat) (l : Txt), acc * 10 ^ Lib.nDigits u + u < 18446744073709551616 → Lib.parseUint10 acc (Lib.decDigits u ++ l) = Lib.parseUint10 (acc * 10 ^ Lib.nDigits u + u) l := by
  induction u using Nat.strongRecOn with
  | _ u ih =>
    intro acc l h
    by_cases hu : u < 10
    · rw [Lib.decDigits, dif_pos hu, Lib.nDigits_small hu] at *
      rw [Nat.pow_one] at *
      exact parse_dig acc u l hu h
    · rw [Lib.nDigits_big hu, Nat.pow_succ, ← Nat.mul_assoc] at *
      rw [Lib.decDigits, dif_neg hu, List.append_assoc]
      generalize hP : acc * 10 ^ Lib.nDigits (u / 10) = P at *
      rw [ih (u / 10) (by omega) acc _ (by rw [hP]; omega), hP]
      have e : (P + u / 10) * 10 + u % 10 = P * 10 + u := by omega
      rw [List.singleton_append, parse_dig _ _ _ (Nat.mod_lt _ (by decide)) (by omega), e]
theorem parse_all (u : Nat) (h : u < 18446744073709551616) : Lib.parseMag (Lib.decDigits u) = .ok u := by
  have hne : Lib.decDigits u ≠ [] := by
    intro e
    have := Lib.decDigits_length u
    rw [e] at this
    have := Lib.nDigits_pos u
    simp at *
    omega
  unfold Lib.parseMag
  rw [if_neg hne]
  have := parse_num u 0 [] (by omega)
  rw [List.append_nil, Nat.zero_mul, Nat.zero_add] at this
  rw [this]; rfl
theorem dec_head (u : Nat) : ∃ c r, Lib.decDigits u = c :: r ∧ 48 ≤ c.toNat ∧ c.toNat ≤ 57 := by
  induction u using Nat.strongRecOn with
  | _ u ih =>
    by_cases hu : u < 10
    · exact ⟨UInt8.ofNat (48 + u), [], by rw [Lib.decDigits, dif_pos hu], by rw [u8_dig u hu]; omega, by rw [u8_dig u hu]; omega⟩
    · obtain ⟨c, r, h1, h2, h3⟩ := ih (u / 10) (by omega)
      exact ⟨c, r ++ [UInt8.ofNat (48 + u % 10)], by rw [Lib.decDigits, dif_neg hu, h1]; rfl, h2, h3⟩
theorem num_itoa (n : Int) (h0 : -9223372036854775808 ≤ n) (h1 : n ≤ 9223372036854775807) : numT (Lib.itoa n) = some n := by
  unfold numT Lib.itoa
  by_cases hn : n < 0
  · rw [if_pos hn, Lib.atoiAll_minus, parse_all _ (by omega)]
    simp only [Lib.signed]
    rw [if_neg (by omega)]
    simp only [Option.some.injEq]
    omega
  · rw [if_neg hn]
    obtain ⟨c, r, e, c1, c2⟩ := dec_head n.toNat
    have := parse_all n.toNat (by omega)
    rw [e] at this ⊢
    rw [Lib.atoiAll_plain c r (by omega) (by omega), this]
    simp only [Lib.signless]
    rw [if_neg (by omega)]
    simp only [Option.some.injEq]
    omega
/-- A whole number's text is read as itself. -/
theorem read_num (n : Int) (h0 : -9223372036854775808 ≤ n) (h1 : n ≤ 9223372036854775807) : readV (printV ⟨1, n, []⟩) = some ⟨1, n, []⟩ := by
  have e : printV ⟨1, n, []⟩ = Lib.itoa n := if_pos ⟨rfl, rfl⟩
  rw [e]
  unfold readV
  rw [num_itoa n h0 h1]
  simp only
  rw [if_pos e]
theorem txt_fix (l : List Int) : txtR (l.map fixR) = txtR l := by
  unfold txtR
  rw [List.flatMap_map]
  have : ∀ r : Int, encA (fixR r) = encA r := fun r => by
    rw [encA_N, encA_N, fix_valid (valid_fix r)]
  simp only [this]
theorem num_quo (t : Txt) : numT (quoT t) = none := by
  unfold numT quoT
  rw [Lib.atoiAll_plain 34 _ (by decide) (by decide)]
  have : Lib.parseMag (34 :: ((runeL t).flatMap quoR ++ [34])) = Lib.parseMag [] := by
    unfold Lib.parseMag
    rw [if_neg (by simp), if_pos rfl, Lib.parseUint10, if_neg (by decide)]
  rw [this]; rfl
/-- A text of runes, as a text, is read as itself. -/
theorem read_text (l : List Int) (h : (txtR l).length ≤ 200) : readV (printV ⟨2, 0, txtR l⟩) = some ⟨2, 0, txtR l⟩ := by
  have e : printV ⟨2, 0, txtR l⟩ = quoT (txtR l) := by
    unfold printV
    rw [if_neg (by simp), if_pos ⟨rfl, rfl, h⟩]
  rw [e]
  unfold readV
  have hk := (unq_key (l := quoT (txtR l)) (t := txtR l) rfl).1
  rw [runeL_txt', txt_fix] at hk
  rw [num_quo, hk]
  simp only [if_true]
  rw [if_pos e]
end Go.AL
