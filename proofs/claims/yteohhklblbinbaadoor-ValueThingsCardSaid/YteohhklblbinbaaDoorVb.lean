/-
  Seat 02 (value): bits of numbers: the sign's bit, eight bits more.
-/
import Derived.Test.YteohhklblbinbaaDoorVm
import Derived.Laws.BitsAllLaws
namespace Go.AL
theorem xor63_lo (x : Nat) (h : x < 2 ^ 63) : x ^^^ 2 ^ 63 = 2 ^ 63 + x := by
  refine Nat.eq_of_testBit_eq fun i => ?_
  rw [Nat.testBit_xor, Nat.testBit_two_pow]
  rcases Nat.lt_trichotomy i 63 with hi | hi | hi
  · rw [Nat.testBit_two_pow_add_gt hi, decide_eq_false (by omega), Bool.xor_false]
  · subst hi
    rw [Nat.testBit_two_pow_add_eq]
    simp
  · have h1 : x < 2 ^ i := Nat.lt_of_lt_of_le h (Nat.pow_le_pow_right (by decide) (by omega))
    have h2 : 2 ^ 63 + x < 2 ^ i := by
      have : 2 ^ 64 ≤ 2 ^ i := Nat.pow_le_pow_right (by decide) hi
      omega
    rw [Nat.testBit_lt_two_pow h1, Nat.testBit_lt_two_pow h2]
    simp; omega
theorem xor63 (x : Nat) (h : x < 18446744073709551616) : x ^^^ 9223372036854775808 = (x + 9223372036854775808) % 18446744073709551616 := by
  have e : (9223372036854775808 : Nat) = 2 ^ 63 := by decide
  by_cases hx : x < 2 ^ 63
  · rw [e, xor63_lo x hx]; omega
  · have hy : x - 2 ^ 63 < 2 ^ 63 := by omega
    have h1 := xor63_lo _ hy
    have h2 : x = (x - 2 ^ 63) ^^^ 2 ^ 63 := by rw [h1]; omega
    have h3 : x ^^^ 2 ^ 63 = x - 2 ^ 63 := by
      conv => lhs; rw [h2]
      rw [Nat.xor_assoc, Nat.xor_self, Nat.xor_zero]
    rw [e, h3]; omega
/-- uint64(n) with the sign's bit turned. -/
theorem sign_num (n : Int) (h0 : -9223372036854775808 ≤ n) (h1 : n ≤ 9223372036854775807) : bits .xor .u64 (IntKind.u64.wrap n) 9223372036854775808 = ((n + 9223372036854775808).toNat : Int) := by
  have e : IntKind.u64.wrap n = ((n % 18446744073709551616).toNat : Nat) := by rw [IntKind.wrap_u64]; omega
  have := u64_xor_nat (n % 18446744073709551616).toNat 9223372036854775808 (by omega) (by decide)
  rw [e]
  refine this.trans ?_
  rw [xor63 _ (by omega)]
  omega
theorem num_sign (u : Nat) (h : u < 18446744073709551616) : IntKind.i64.wrap (bits .xor .u64 (u : Int) 9223372036854775808) = (u : Int) - 9223372036854775808 := by
  have := u64_xor_nat u 9223372036854775808 h (by decide)
  have e : bits .xor .u64 (u : Int) 9223372036854775808 = ((u ^^^ 9223372036854775808 : Nat) : Int) := this
  rw [e, xor63 u h, IntKind.wrap_i64]
  omega
theorem or8 (u x : Nat) (hu : u < 72057594037927936) (hx : x < 256) : bits .or .u64 ((u * 256 : Nat) : Int) (x : Int) = ((u * 256 + x : Nat) : Int) := by
  have := u64_or_nat (u * 256) x (by omega) (by omega)
  rw [this]
  have h := Nat.shiftLeft_add_eq_or_of_lt (show x < 2 ^ 8 by omega) u
  rw [Nat.shiftLeft_eq] at h
  have e : (2 : Nat) ^ 8 = 256 := by decide
  rw [e] at h
  rw [← h]
end Go.AL
