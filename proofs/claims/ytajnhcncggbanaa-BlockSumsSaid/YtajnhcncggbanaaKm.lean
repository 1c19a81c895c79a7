/-
  Seat 08 (block): the check sum, by bits and by halves of bytes: plain arithmetic.
-/
import Derived.Test.YtajnhcncggbanaaG
namespace Go.Proofs.Ytajnhcncggbanaa
open Go.AL
set_option linter.unusedSimpArgs false
set_option linter.unusedVariables false

def crcTab : List Nat := [0, 498536548, 997073096, 651767980, 1994146192, 1802195444, 1303535960, 1342533948, 3988292384, 4027552580, 3604390888, 3412177804, 2607071920, 2262029012, 2685067896, 3183342108]

def bit1 (r : Nat) : Nat := (r / 2) ^^^ (if r % 2 = 1 then 3988292384 else 0)
def bit4 (r : Nat) : Nat := bit1 (bit1 (bit1 (bit1 r)))
def byteN (s x : Nat) : Nat := bit4 (bit4 (s ^^^ x))
def crcN (l : List Nat) : Nat := l.foldl byteN 4294967295 ^^^ 4294967295

theorem xor_div (a b i : Nat) : (a ^^^ b) / 2 ^ i = (a / 2 ^ i) ^^^ (b / 2 ^ i) := by
  rw [← Nat.shiftRight_eq_div_pow, ← Nat.shiftRight_eq_div_pow, ← Nat.shiftRight_eq_div_pow, Nat.shiftRight_xor_distrib]

theorem bit1_xor (a b : Nat) : bit1 (a ^^^ b) = bit1 a ^^^ bit1 b := by
  unfold bit1
  have h1 := xor_div a b 1
  have h2 : (a ^^^ b) % 2 = (a % 2) ^^^ (b % 2) := by have := Nat.xor_mod_two_pow (a := a) (b := b) (n := 1); simpa using this
  simp only [Nat.pow_one] at h1
  rw [h1, h2]
  rcases Nat.mod_two_eq_zero_or_one a with ha | ha <;> rcases Nat.mod_two_eq_zero_or_one b with hb | hb <;> simp only [ha, hb]
  · simp
  · simp [Nat.xor_assoc]
  · simp only [Nat.xor_zero, if_true]
    simp [Nat.xor_assoc, Nat.xor_comm (b / 2)]
  · simp only [Nat.xor_self, if_true]
    rw [if_neg (by decide), Nat.xor_zero, Nat.xor_assoc, Nat.xor_comm 3988292384, Nat.xor_assoc, Nat.xor_self, Nat.xor_zero]

theorem bit4_xor (a b : Nat) : bit4 (a ^^^ b) = bit4 a ^^^ bit4 b := by simp [bit4, bit1_xor]

theorem bit1_even (m : Nat) : bit1 (2 * m) = m := by
  unfold bit1
  rw [if_neg (by omega), Nat.xor_zero]
  omega

theorem bit4_mul (q : Nat) : bit4 (16 * q) = q := by
  unfold bit4
  rw [show 16 * q = 2 * (2 * (2 * (2 * q))) by omega, bit1_even, bit1_even, bit1_even, bit1_even]

theorem xor_split (q j : Nat) (h : j < 16) : (16 * q) ^^^ j = 16 * q + j := by
  apply Nat.eq_of_testBit_eq
  intro i
  have h1 : (16 * q + j).testBit i = if i < 4 then j.testBit i else q.testBit (i - 4) := Nat.testBit_two_pow_mul_add (i := 4) q h i
  have h2 : (16 * q).testBit i = if i < 4 then false else q.testBit (i - 4) := by
    have := Nat.testBit_two_pow_mul_add (i := 4) q (b := 0) (by decide) i
    simpa using this
  rw [Nat.testBit_xor, h1, h2]
  split
  · simp
  · rename_i hi
    have : j.testBit i = false := Nat.testBit_lt_two_pow (Nat.lt_of_lt_of_le h (Nat.pow_le_pow_right (n := 2) (by decide) (show 4 ≤ i by omega)))
    rw [this]; simp

theorem tab_eq : ∀ j, j < 16 → bit4 j = crcTab.getD j 0 := by decide

theorem bit4_eq (r : Nat) : bit4 r = crcTab.getD (r % 16) 0 ^^^ (r / 16) := by
  have h := xor_split (r / 16) (r % 16) (Nat.mod_lt _ (by decide))
  rw [show 16 * (r / 16) + r % 16 = r by omega] at h
  conv => lhs; rw [← h]
  rw [bit4_xor, bit4_mul, tab_eq _ (Nat.mod_lt _ (by decide)), Nat.xor_comm]

/-- A byte, by its halves. -/
def half1 (s x : Nat) : Nat := crcTab.getD ((s ^^^ x) % 16) 0 ^^^ (s / 16)
def half2 (s x : Nat) : Nat := crcTab.getD ((s ^^^ x / 16) % 16) 0 ^^^ (s / 16)

theorem halves (s x : Nat) (hx : x < 256) : half2 (half1 s x) x = byteN s x := by
  have d : ∀ a b : Nat, (a ^^^ b) / 16 = a / 16 ^^^ b / 16 := fun a b => xor_div a b 4
  have h1 : bit4 (s ^^^ x) = half1 s x ^^^ x / 16 := by rw [bit4_eq, d, half1, Nat.xor_assoc]
  rw [byteN, h1, bit4_eq, d, show x / 16 / 16 = 0 by omega, Nat.xor_zero, half2]

theorem bit1_lt {r : Nat} (h : r < 4294967296) : bit1 r < 4294967296 := by
  unfold bit1
  refine Nat.xor_lt_two_pow (n := 32) (by omega) ?_
  split <;> decide

theorem bit4_lt {r : Nat} (h : r < 4294967296) : bit4 r < 4294967296 := bit1_lt (bit1_lt (bit1_lt (bit1_lt h)))
theorem byteN_lt {s x : Nat} (h : s < 4294967296) (hx : x < 256) : byteN s x < 4294967296 :=
  bit4_lt (bit4_lt (Nat.xor_lt_two_pow (n := 32) h (by omega)))

theorem foldB_lt : ∀ (l : List Nat) (s : Nat), s < 4294967296 → (∀ x ∈ l, x < 256) → l.foldl byteN s < 4294967296
  | [], s, h, _ => h
  | x :: l, s, h, hx => foldB_lt l _ (byteN_lt h (hx x (by simp))) (fun y hy => hx y (by simp [hy]))

theorem crcN_lt {l : List Nat} (h : ∀ x ∈ l, x < 256) : crcN l < 4294967296 := Nat.xor_lt_two_pow (n := 32) (foldB_lt l _ (by decide) h) (by decide)

theorem tab_lt (j : Nat) : crcTab.getD j 0 < 4294967296 := by
  by_cases h : j < 16
  · have : ∀ j, j < 16 → crcTab.getD j 0 < 4294967296 := by decide
    exact this j h
  · have : crcTab.getD j 0 = 0 := by simp [crcTab, List.getD, show ¬ j < 16 from h]
    rw [this]; decide

theorem half1_lt {s x : Nat} (h : s < 4294967296) : half1 s x < 4294967296 := Nat.xor_lt_two_pow (n := 32) (tab_lt _) (by omega)
theorem half2_lt {s x : Nat} (h : s < 4294967296) : half2 s x < 4294967296 := Nat.xor_lt_two_pow (n := 32) (tab_lt _) (by omega)
end Go.Proofs.Ytajnhcncggbanaa
