/-
  Seat 04 (word): what the functions answer, as numbers; plain arithmetic.
-/
import Derived.Test.YtickkgdphdkodaaG
import Derived.Laws.BitsAllLaws
namespace Go.Proofs.Ytickkgdphdkodaa
open Go.AL
set_option linter.unusedSimpArgs false
set_option linter.unusedVariables false
set_option linter.unusedSectionVars false

theorem ieq (a b : Int) : (a == b) = decide (a = b) := by by_cases h : a = b <;> simp [h]
theorem ine (a b : Int) : (a != b) = !decide (a = b) := by simp [bne, ieq]

def wLow (n : Int) : Int := bits .andNot .u64 n 13835058055282163712
def wUnlock (n : Int) : Int := bits .andNot .u64 n 9223372036854775808
def wLock (n : Int) : Int := bits .or .u64 n 9223372036854775808
def wIsLock (n : Int) : Int := bits .and .u64 n 9223372036854775808
def wIsAbs (n : Int) : Int := bits .and .u64 n 4611686018427387904
def wAbs (n : Int) : Int := bits .or .u64 n 4611686018427387904
def wUnabs (n : Int) : Int := bits .andNot .u64 n 4611686018427387904
def wSeq (n : Int) : Int := bits .and .u64 n 2147483647
def wShl (n : Int) : Int := IntKind.u64.wrap (IntKind.u64.wrap n * 2147483648)
def wJoin (e s : Int) : Int := bits .or .u64 (wShl e) (IntKind.u64.wrap s)
def wPut (a : Bool) (n : Int) : Int := if a then wAbs n else wUnabs n

def wRight (e s : Int) : Bool := decide (0 ≤ e) && decide (e ≤ 2147483647) && decide (0 ≤ s) && decide (s ≤ 1073741823)

def wPack (e s : Int) (l a : Bool) : Int := if wRight e s then wPut a (if l then wLock (wJoin e s) else wJoin e s) else 0

def wOk (n : Int) : Bool := decide (wSeq (wLow n) ≤ 1073741823)

def wParts (n : Int) : List AVal :=
  [.int .i64 (if wOk n then IntKind.i64.wrap ((wLow n).fdiv 2147483648) else 0), .int .i64 (if wOk n then IntKind.i64.wrap (wSeq (wLow n)) else 0),
    .bool (wOk n && !decide (wIsLock n = 0)), .bool (wOk n && !decide (wIsAbs n = 0))]

def rPack (e s : Int) (l a : Bool) : Int :=
  let w0 := IntKind.u64.wrap (IntKind.u64.wrap (IntKind.u64.wrap e * 2147483648) + IntKind.u64.wrap s)
  let w1 := if a then IntKind.u64.wrap (w0 + 4611686018427387904) else w0
  if l then IntKind.u64.wrap (w1 + 9223372036854775808) else w1

def rLk (n : Int) : Bool := IntKind.u64.wrap (n.tdiv 9223372036854775808) == 1
def rAb (n : Int) : Bool := (IntKind.u64.wrap (n.tdiv 4611686018427387904)).tmod 2 == 1
def rEp (n : Int) : Int := IntKind.u64.wrap ((n.tmod 4611686018427387904).tdiv 2147483648)
def rSq (n : Int) : Int := (n.tmod 4611686018427387904).tmod 2147483648
def rParts (n : Int) : List AVal := [.bool (rLk n), .bool (rAb n), .int .u64 (rEp n), .int .u64 (rSq n)]

def wNext (last e : Int) : Int × Int :=
  if e < 0 ∨ 2147483647 < e then (0, 2) else
  let first := IntKind.u64.wrap (wShl e + 1)
  let next := max first (IntKind.u64.wrap (wLow last + 1))
  if IntKind.u64.wrap (IntKind.u64.wrap (first - 1) + 1073741823) < next then (0, 40) else (next, 0)

def rNext (last e : Int) : Int × Int :=
  if e < 0 ∨ 2147483647 < e then (0, 2) else
  if IntKind.u64.wrap e < rEp last then (0, 40) else
  if rEp last < IntKind.u64.wrap e then (rPack e 1 false false, 0) else
  if 1073741823 ≤ rSq last then (0, 40) else (rPack e (IntKind.i64.wrap (IntKind.i64.wrap (rSq last) + 1)) false false, 0)

theorem and_split (i p q a b : Nat) (ha : a < 2 ^ i) (hb : b < 2 ^ i) : (2 ^ i * p + a) &&& (2 ^ i * q + b) = 2 ^ i * (p &&& q) + (a &&& b) := by
  have hab : a &&& b < 2 ^ i := Nat.and_lt_two_pow _ hb
  apply Nat.eq_of_testBit_eq
  intro j
  rw [Nat.testBit_and, Nat.testBit_two_pow_mul_add _ ha, Nat.testBit_two_pow_mul_add _ hb, Nat.testBit_two_pow_mul_add _ hab]
  split <;> simp [Nat.testBit_and]

theorem or_split (i p q a b : Nat) (ha : a < 2 ^ i) (hb : b < 2 ^ i) : (2 ^ i * p + a) ||| (2 ^ i * q + b) = 2 ^ i * (p ||| q) + (a ||| b) := by
  have hab : a ||| b < 2 ^ i := Nat.or_lt_two_pow ha hb
  apply Nat.eq_of_testBit_eq
  intro j
  rw [Nat.testBit_or, Nat.testBit_two_pow_mul_add _ ha, Nat.testBit_two_pow_mul_add _ hb, Nat.testBit_two_pow_mul_add _ hab]
  split <;> simp [Nat.testBit_or]

theorem and_of (i q n : Nat) : n &&& (2 ^ i * q) = 2 ^ i * (n / 2 ^ i &&& q) := by
  have h := and_split i (n / 2 ^ i) q (n % 2 ^ i) 0 (Nat.mod_lt _ (Nat.two_pow_pos i)) (Nat.two_pow_pos i)
  simpa [Nat.div_add_mod] using h

theorem or_of (i q n : Nat) : n ||| (2 ^ i * q) = 2 ^ i * (n / 2 ^ i ||| q) + n % 2 ^ i := by
  have h := or_split i (n / 2 ^ i) q (n % 2 ^ i) 0 (Nat.mod_lt _ (Nat.two_pow_pos i)) (Nat.two_pow_pos i)
  simpa [Nat.div_add_mod] using h

theorem andm_of (i q n : Nat) : n &&& (2 ^ i * q + (2 ^ i - 1)) = 2 ^ i * (n / 2 ^ i &&& q) + n % 2 ^ i := by
  have h := and_split i (n / 2 ^ i) q (n % 2 ^ i) (2 ^ i - 1) (Nat.mod_lt _ (Nat.two_pow_pos i)) (by have := Nat.two_pow_pos i; omega)
  rw [Nat.and_two_pow_sub_one_eq_mod, Nat.mod_mod] at h
  simpa [Nat.div_add_mod] using h

theorem u64_and' (n : Int) (b : Nat) (h0 : 0 ≤ n) (h1 : n < 18446744073709551616) (hb : b < 18446744073709551616) : bits .and .u64 n (b : Int) = ((n.toNat &&& b : Nat) : Int) := by
  have := u64_and n (b : Int) h0 h1 (by omega) (by omega)
  simpa using this

section
variable (n : Int) (h0 : 0 ≤ n) (h1 : n < 18446744073709551616)
include h0 h1

theorem wLow_eq : wLow n = n % 4611686018427387904 := by
  unfold wLow
  rw [u64_andNot n 13835058055282163712 h0 h1 (by decide) (by decide)]
  have := andm_of 62 0 n.toNat
  simp at this
  simp [this]
  omega

theorem wUnlock_eq : wUnlock n = n % 9223372036854775808 := by
  unfold wUnlock
  rw [u64_andNot n 9223372036854775808 h0 h1 (by decide) (by decide)]
  have := andm_of 63 0 n.toNat
  simp at this
  simp [this]
  omega

theorem bit63 : n.toNat / 9223372036854775808 = 0 ∨ n.toNat / 9223372036854775808 = 1 := by omega
theorem bit62 : n.toNat / 4611686018427387904 = 0 ∨ n.toNat / 4611686018427387904 = 1 ∨ n.toNat / 4611686018427387904 = 2 ∨ n.toNat / 4611686018427387904 = 3 := by omega

theorem wLock_eq : wLock n = n % 9223372036854775808 + 9223372036854775808 := by
  unfold wLock
  rw [u64_or n 9223372036854775808 h0 h1 (by decide) (by decide)]
  have := or_of 63 1 n.toNat
  simp at this
  rcases bit63 n h0 h1 with h | h <;> rw [h] at this <;> simp [this] <;> omega

theorem wIsLock_eq : wIsLock n = if 9223372036854775808 ≤ n then 9223372036854775808 else 0 := by
  unfold wIsLock
  rw [u64_and n 9223372036854775808 h0 h1 (by decide) (by decide)]
  have := and_of 63 1 n.toNat
  simp at this
  rcases bit63 n h0 h1 with h | h <;> rw [h] at this <;> simp [this] <;> omega

theorem wIsAbs_eq : wIsAbs n = n / 4611686018427387904 % 2 * 4611686018427387904 := by
  unfold wIsAbs
  rw [u64_and n 4611686018427387904 h0 h1 (by decide) (by decide)]
  have := and_of 62 1 n.toNat
  simp at this
  rcases bit62 n h0 h1 with h | h | h | h <;> rw [h] at this <;> simp [this] <;> omega

theorem wAbs_eq : wAbs n = n - n / 4611686018427387904 % 2 * 4611686018427387904 + 4611686018427387904 := by
  unfold wAbs
  rw [u64_or n 4611686018427387904 h0 h1 (by decide) (by decide)]
  have := or_of 62 1 n.toNat
  simp at this
  rcases bit62 n h0 h1 with h | h | h | h <;> rw [h] at this <;> simp [this] <;> omega

theorem wUnabs_eq : wUnabs n = n - n / 4611686018427387904 % 2 * 4611686018427387904 := by
  unfold wUnabs
  rw [u64_andNot n 4611686018427387904 h0 h1 (by decide) (by decide)]
  have := andm_of 62 2 n.toNat
  simp at this
  rcases bit62 n h0 h1 with h | h | h | h <;> rw [h] at this <;> simp [this] <;> omega

theorem wSeq_eq : wSeq n = n % 2147483648 := by
  unfold wSeq
  rw [u64_and n 2147483647 h0 h1 (by decide) (by decide)]
  have := andm_of 31 0 n.toNat
  simp at this
  simp [this]
  omega

theorem rLk_eq : rLk n = decide (9223372036854775808 ≤ n) := by
  unfold rLk
  rw [ieq, Int.tdiv_eq_ediv_of_nonneg h0, IntKind.wrap_u64]
  congr 1
  apply propext
  constructor <;> intro <;> omega

theorem rAb_eq : rAb n = decide (n / 4611686018427387904 % 2 = 1) := by
  unfold rAb
  rw [ieq, Int.tdiv_eq_ediv_of_nonneg h0, IntKind.wrap_u64, Int.tmod_eq_emod_of_nonneg (by omega)]
  congr 1
  apply propext
  constructor <;> intro <;> omega

theorem rEp_eq : rEp n = n % 4611686018427387904 / 2147483648 := by
  unfold rEp
  rw [Int.tmod_eq_emod_of_nonneg h0, Int.tdiv_eq_ediv_of_nonneg (by omega), IntKind.wrap_u64]
  omega

theorem rSq_eq : rSq n = n % 2147483648 := by
  unfold rSq
  rw [Int.tmod_eq_emod_of_nonneg h0, Int.tmod_eq_emod_of_nonneg (by omega)]
  omega
end

theorem wRight_iff (e s : Int) : wRight e s = true ↔ 0 ≤ e ∧ e ≤ 2147483647 ∧ 0 ≤ s ∧ s ≤ 1073741823 := by simp [wRight, and_assoc]

theorem wShl_eq (e : Int) (h0 : 0 ≤ e) (h1 : e ≤ 2147483647) : wShl e = e * 2147483648 := by
  unfold wShl
  rw [IntKind.wrap_u64, IntKind.wrap_u64]
  omega

theorem wJoin_eq (e s : Int) (h : wRight e s = true) : wJoin e s = e * 2147483648 + s := by
  obtain ⟨h0, h1, h2, h3⟩ := (wRight_iff e s).1 h
  unfold wJoin
  rw [wShl_eq e h0 h1, IntKind.wrap_u64, show s % 18446744073709551616 = s by omega, u64_or _ _ (by omega) (by omega) h2 (by omega)]
  have := or_split 31 e.toNat 0 0 s.toNat (by decide) (by omega)
  simp at this
  rw [show (e * 2147483648).toNat = 2147483648 * e.toNat by omega, this]
  omega

/-- A right Tid's word. -/
theorem wPack_eq (e s : Int) (l a : Bool) (h : wRight e s = true) : wPack e s l a = e * 2147483648 + s + (if a then 4611686018427387904 else 0) + (if l then 9223372036854775808 else 0) := by
  obtain ⟨h0, h1, h2, h3⟩ := (wRight_iff e s).1 h
  simp only [wPack, h, if_true, wJoin_eq e s h, wPut]
  cases l with
  | true =>
    simp only [if_true]
    rw [wLock_eq _ (by omega) (by omega)]
    cases a with
    | true => simp only [if_true]; rw [wAbs_eq _ (by omega) (by omega)]; omega
    | false => simp only [Bool.false_eq_true, if_false]; rw [wUnabs_eq _ (by omega) (by omega)]; omega
  | false =>
    simp only [Bool.false_eq_true, if_false]
    cases a with
    | true => simp only [if_true]; rw [wAbs_eq _ (by omega) (by omega)]; omega
    | false => simp only [Bool.false_eq_true, if_false]; rw [wUnabs_eq _ (by omega) (by omega)]; omega

theorem rPack_eq (e s : Int) (l a : Bool) (h : wRight e s = true) : rPack e s l a = e * 2147483648 + s + (if a then 4611686018427387904 else 0) + (if l then 9223372036854775808 else 0) := by
  obtain ⟨h0, h1, h2, h3⟩ := (wRight_iff e s).1 h
  simp only [rPack, IntKind.wrap_u64]
  cases l <;> cases a <;> simp <;> omega

theorem wPack_low (e s : Int) (l a : Bool) (h : wRight e s = true) : wLow (wPack e s l a) = e * 2147483648 + s := by
  have := wPack_eq e s l a h
  obtain ⟨h0, h1, h2, h3⟩ := (wRight_iff e s).1 h
  rw [wLow_eq _ (by cases l <;> cases a <;> simp at this <;> omega) (by cases l <;> cases a <;> simp at this <;> omega), this]
  cases l <;> cases a <;> simp <;> omega

theorem wPack_range (e s : Int) (l a : Bool) (h : wRight e s = true) : 0 ≤ wPack e s l a ∧ wPack e s l a < 18446744073709551616 := by
  have := wPack_eq e s l a h
  obtain ⟨h0, h1, h2, h3⟩ := (wRight_iff e s).1 h
  cases l <;> cases a <;> simp at this <;> omega

theorem wPut_eq (is : Bool) (n : Int) (h0 : 0 ≤ n) (h1 : n < 18446744073709551616) : wPut is n = n - n / 4611686018427387904 % 2 * 4611686018427387904 + (if is then 4611686018427387904 else 0) := by
  cases is <;> simp [wPut, wAbs_eq n h0 h1, wUnabs_eq n h0 h1]

end Go.Proofs.Ytickkgdphdkodaa
