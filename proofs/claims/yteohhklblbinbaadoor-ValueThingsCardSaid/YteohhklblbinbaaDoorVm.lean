/-
  Seat 02 (value): what is computed (plain definitions), and its laws.
-/
import Derived.Test.YteohhklblbinbaaDoorQm
namespace Go.AL
set_option linter.unusedSimpArgs false
set_option linter.unusedVariables false

/-- A value of the database. -/
structure Vl where
  k : Int
  n : Int
  s : Txt
  deriving DecidableEq
def Vl.a (v : Vl) : AVal := .agg [.int .i64 v.k, .int .i64 v.n, .str v.s]
def Vl.zero : Vl := ⟨0, 0, []⟩
def Vl.ok (v : Vl) : Prop := v.k = 1 ∧ v.s = [] ∨ v.k = 2 ∧ v.n = 0 ∧ v.s.length ≤ 200
instance (v : Vl) : Decidable v.ok := inferInstanceAs (Decidable (_ ∨ _))
def Vl.fit (v : Vl) : Prop := -9223372036854775808 ≤ v.n ∧ v.n ≤ 9223372036854775807

/-! ### Bytes -/
def byteAt (u j : Nat) : UInt8 := UInt8.ofNat (u / 256 ^ j)
def be8 (u : Nat) : Txt := [byteAt u 7, byteAt u 6, byteAt u 5, byteAt u 4, byteAt u 3, byteAt u 2, byteAt u 1, byteAt u 0]
def num8 (b : Txt) : Nat := b.foldl (fun n x => n * 256 + x.toNat) 0
def escB (c : UInt8) : Txt := if c = 0 then [0, 255] else [c]
def escT (s : Txt) : Txt := s.flatMap escB
def numOf (v : Vl) : Nat := (v.n + 9223372036854775808).toNat
def bytesV (v : Vl) : Txt := if v.k = 1 then 1 :: be8 (numOf v) else 2 :: (escT v.s ++ [0, 0])
/-- A text out of bytes: what is left, what has been read, the place. -/
def txtV : Txt → Txt → Nat → Txt × Nat × Int
  | [], _, _ => ([], 0, 20)
  | [c], a, i => if c = 0 then ([], 0, 20) else if a.length = 200 then ([], 0, 32) else ([], 0, 20)
  | c :: d :: r, a, i =>
    if c = 0 then
      if d = 0 then (a, i + 2, 0) else if d ≠ 255 then ([], 0, 10) else if a.length = 200 then ([], 0, 32) else txtV r (a ++ [0]) (i + 2)
    else if a.length = 200 then ([], 0, 32) else txtV (d :: r) (a ++ [c]) (i + 1)
def takeV (b : Txt) : Vl × Nat × Int :=
  match b with
  | [] => (.zero, 0, 20)
  | c :: r =>
    if c = 2 then (if (txtV r [] 1).2.2 = 0 then ⟨2, 0, (txtV r [] 1).1⟩ else .zero, (txtV r [] 1).2.1, (txtV r [] 1).2.2)
    else if c ≠ 1 then (.zero, 0, 22) else if r.length < 8 then (.zero, 0, 20)
    else (⟨1, (num8 (r.take 8) : Int) - 9223372036854775808, []⟩, 9, 0)

theorem byteAt_nat (u j : Nat) : (byteAt u j).toNat = u / 256 ^ j % 256 := by simp [byteAt]
theorem num8_be8 (u : Nat) (h : u < 18446744073709551616) : num8 (be8 u) = u := by
  simp only [num8, be8, List.foldl_cons, List.foldl_nil, byteAt_nat]
  omega
theorem txtV_esc : ∀ (s a : Txt) (i : Nat) (t : Txt), a.length + s.length ≤ 200 → txtV (escT s ++ ([0, 0] ++ t)) a i = (a ++ s, i + (escT s).length + 2, 0)
  | [], a, i, t, h => by
    show txtV (0 :: 0 :: t) a i = _
    unfold txtV
    simp [escT]
  | c :: s, a, i, t, h => by
    rw [List.length_cons] at h
    by_cases hc : c = 0
    · have e : escT (c :: s) = 0 :: 255 :: escT s := by simp [escT, escB, hc]
      rw [e]
      show txtV (0 :: 255 :: (escT s ++ ([0, 0] ++ t))) a i = _
      rw [txtV, if_pos rfl, if_neg (by decide), if_neg (by decide), if_neg (by omega), txtV_esc s (a ++ [0]) (i + 2) t (by rw [List.length_append]; simp; omega), hc]
      simp [Nat.add_assoc, Nat.add_comm, Nat.add_left_comm]
      try omega
    · have e : escT (c :: s) = c :: escT s := by simp [escT, escB, hc]
      have hne : ∃ d r, escT s ++ ([0, 0] ++ t) = d :: r := by
        cases hx : escT s ++ ([0, 0] ++ t) with
        | nil => have := congrArg List.length hx; simp at this
        | cons d r => exact ⟨d, r, rfl⟩
      obtain ⟨d, r, hx⟩ := hne
      rw [e, List.cons_append, hx, txtV, if_neg hc, if_neg (by omega), ← hx, txtV_esc s (a ++ [c]) (i + 1) t (by rw [List.length_append]; simp; omega)]
      simp [Nat.add_assoc, Nat.add_comm, Nat.add_left_comm]
      try omega
/-- A right value's bytes, whatever stands behind, are taken as it is. -/
theorem take_bytes (v : Vl) (hv : v.ok) (hf : v.fit) (b : Txt) : takeV (bytesV v ++ b) = (v, (bytesV v).length, 0) := by
  obtain ⟨k, n, s⟩ := v
  obtain ⟨h1, h2⟩ := hf
  simp only at h1 h2
  rcases hv with ⟨rfl, rfl⟩ | ⟨rfl, rfl, hs⟩
  · simp only [bytesV, if_true, List.cons_append, takeV, numOf]
    rw [if_neg (by decide), if_neg (by decide), if_neg (by simp [be8])]
    have : (be8 (n + 9223372036854775808).toNat ++ b).take 8 = be8 (n + 9223372036854775808).toNat := by
      rw [List.take_append_of_le_length (by simp [be8])]; simp [be8]
    rw [this, num8_be8 _ (by omega)]
    simp only [List.length_cons]
    refine Prod.ext ?_ (by simp [be8])
    simp only [Vl.mk.injEq, true_and, and_true]
    omega
  · have hk : ¬ (2 : Int) = 1 := by decide
    simp only [bytesV, hk, if_false, List.cons_append, takeV, List.append_assoc]
    simp only at hs
    have := txtV_esc s [] 1 b (by simpa using hs)
    replace this : txtV (escT s ++ 0 :: 0 :: ([] ++ b)) [] 1 = ([] ++ s, 1 + (escT s).length + 2, 0) := this
    rw [if_pos trivial]
    rw [this]
    simp only [List.nil_append, if_true, List.length_cons, List.length_append, List.length_nil]
    refine Prod.ext rfl (Prod.ext ?_ rfl)
    simp only
    omega
theorem bytesV_pos (v : Vl) : 1 ≤ (bytesV v).length := by unfold bytesV; split <;> simp
/-- None is how another's begin. -/
theorem bytes_pre {v w : Vl} (hv : v.ok) (fv : v.fit) (hw : w.ok) (fw : w.fit) {r : Txt} (h : bytesV w = bytesV v ++ r) : v = w := by
  have h1 := take_bytes v hv fv r
  have h2 := take_bytes w hw fw []
  rw [List.append_nil, h, h1] at h2
  exact (Prod.mk.inj h2).1
theorem bytes_inj {v w : Vl} (hv : v.ok) (fv : v.fit) (hw : w.ok) (fw : w.fit) (h : bytesV v = bytesV w) : v = w :=
  bytes_pre hv fv hw fw (r := []) (by rw [List.append_nil, h])
theorem bytes_min {v w : Vl} (hv : v.ok) (fv : v.fit) (hw : w.ok) (fw : w.fit) : ((bytesV v).take (min (bytesV v).length (bytesV w).length) = (bytesV w).take (min (bytesV v).length (bytesV w).length)) ↔ v = w := by
  constructor
  · intro h
    rcases Nat.le_total (bytesV v).length (bytesV w).length with hl | hl
    · rw [Nat.min_eq_left hl, List.take_length] at h
      refine bytes_pre hv fv hw fw (r := (bytesV w).drop (bytesV v).length) ?_
      conv => rhs; rw [h]
      have : ((bytesV w).take (bytesV v).length).length = (bytesV v).length := by rw [← h]
      rw [this]
      exact (List.take_append_drop _ _).symm
    · rw [Nat.min_eq_right hl, List.take_length] at h
      refine (bytes_pre hw fw hv fv (r := (bytesV v).drop (bytesV w).length) ?_).symm
      conv => rhs; rw [← h]
      have : ((bytesV v).take (bytesV w).length).length = (bytesV w).length := by rw [h]
      rw [this]
      exact (List.take_append_drop _ _).symm
  · intro h; rw [h]

/-! ### The order -/
def sgI (a b : Int) : Int := if a < b then -1 else if b < a then 1 else 0
def cmpB : Txt → Txt → Int
  | [], [] => 0
  | [], _ :: _ => -1
  | _ :: _, [] => 1
  | x :: a, y :: b => if x.toNat < y.toNat then -1 else if y.toNat < x.toNat then 1 else cmpB a b
def cmpV (v w : Vl) : Int := if sgI v.k w.k ≠ 0 then sgI v.k w.k else if sgI v.n w.n ≠ 0 then sgI v.n w.n else cmpB v.s w.s
theorem u8_eq {x y : UInt8} (h1 : ¬ x.toNat < y.toNat) (h2 : ¬ y.toNat < x.toNat) : x = y := UInt8.toNat_inj.1 (by omega)
theorem cmpB_self : ∀ a : Txt, cmpB a a = 0
  | [] => rfl
  | x :: a => by rw [cmpB, if_neg (by omega), if_neg (by omega)]; exact cmpB_self a
theorem cmpB_eq : ∀ {a b : Txt}, cmpB a b = 0 → a = b
  | [], [], _ => rfl
  | [], _ :: _, h => by cases h
  | _ :: _, [], h => by cases h
  | x :: a, y :: b, h => by
    rw [cmpB] at h
    split at h
    · cases h
    · split at h
      · cases h
      · rename_i h1 h2
        rw [u8_eq h1 h2, cmpB_eq h]
theorem cmpB_anti : ∀ a b : Txt, cmpB b a = - cmpB a b
  | [], [] => rfl
  | [], _ :: _ => rfl
  | _ :: _, [] => rfl
  | x :: a, y :: b => by
    rw [cmpB, cmpB]
    have := cmpB_anti a b
    repeat' split
    all_goals first | omega | rfl | exact this
theorem cmpB_trans : ∀ a b c : Txt, cmpB a b ≤ 0 → cmpB b c ≤ 0 → cmpB a c ≤ 0
  | [], [], [], _, _ => by decide
  | [], [], _ :: _, _, _ => show (-1 : Int) ≤ 0 by decide
  | [], _ :: _, [], _, h => absurd h (show ¬ (1 : Int) ≤ 0 by decide)
  | [], _ :: _, _ :: _, _, _ => show (-1 : Int) ≤ 0 by decide
  | _ :: _, [], _, h, _ => absurd h (show ¬ (1 : Int) ≤ 0 by decide)
  | _ :: _, _ :: _, [], _, h => absurd h (show ¬ (1 : Int) ≤ 0 by decide)
  | x :: a, y :: b, z :: c, h1, h2 => by
    rw [cmpB] at h1 h2 ⊢
    have := cmpB_trans a b c
    repeat' split
    all_goals first | omega | skip
    all_goals (repeat' split at h1) <;> (repeat' split at h2) <;> first | omega | (exact this h1 h2)
theorem sgI_anti (a b : Int) : sgI b a = - sgI a b := by unfold sgI; repeat' split <;> omega
theorem sgI_zero (a b : Int) : sgI a b = 0 ↔ a = b := by unfold sgI; constructor <;> intro h <;> (repeat' split at *) <;> omega
theorem sgI_cases (a b : Int) : a < b ∧ sgI a b = -1 ∨ a = b ∧ sgI a b = 0 ∨ b < a ∧ sgI a b = 1 := by unfold sgI; repeat' split <;> omega
theorem cmpV_anti (v w : Vl) : cmpV w v = - cmpV v w := by
  unfold cmpV
  rw [sgI_anti v.k w.k, sgI_anti v.n w.n, cmpB_anti v.s w.s]
  repeat' split <;> omega
theorem cmpV_zero (v w : Vl) : cmpV v w = 0 ↔ v = w := by
  obtain ⟨a, b, c⟩ := v
  obtain ⟨a', b', c'⟩ := w
  simp only [cmpV, Vl.mk.injEq]
  have h1 := sgI_cases a a'
  have h2 := sgI_cases b b'
  constructor
  · intro h
    split at h
    · omega
    · split at h
      · omega
      · exact ⟨by omega, by omega, cmpB_eq h⟩
  · rintro ⟨rfl, rfl, rfl⟩
    rw [if_neg (by omega), if_neg (by omega)]; exact cmpB_self _
theorem cmpV_trans (u v w : Vl) (h1 : cmpV u v ≤ 0) (h2 : cmpV v w ≤ 0) : cmpV u w ≤ 0 := by
  unfold cmpV at *
  have a1 := sgI_cases u.k v.k
  have a2 := sgI_cases v.k w.k
  have a3 := sgI_cases u.k w.k
  have b1 := sgI_cases u.n v.n
  have b2 := sgI_cases v.n w.n
  have b3 := sgI_cases u.n w.n
  have c := cmpB_trans u.s v.s w.s
  repeat' split
  all_goals (repeat' split at h1) <;> (repeat' split at h2) <;> first | omega | exact c h1 h2
theorem cmpB_app (p a b : Txt) : cmpB (p ++ a) (p ++ b) = cmpB a b := by
  induction p with
  | nil => rfl
  | cons x p ih => rw [List.cons_append, List.cons_append, cmpB, if_neg (by omega), if_neg (by omega), ih]
def beN (u : Nat) : Nat → Txt
  | 0 => []
  | k + 1 => byteAt u k :: beN u k
theorem cmpB_beN (u w : Nat) : ∀ k : Nat, cmpB (beN u k) (beN w k) = sgI ((u % 256 ^ k : Nat) : Int) ((w % 256 ^ k : Nat) : Int)
  | 0 => by simp [beN, cmpB, sgI, Nat.mod_one]
  | k + 1 => by
    have ih := cmpB_beN u w k
    have hu := Nat.mod_mul (x := u) (a := 256 ^ k) (b := 256)
    have hw := Nat.mod_mul (x := w) (a := 256 ^ k) (b := 256)
    have lu := Nat.mod_lt u (show 0 < 256 ^ k from Nat.pow_pos (by decide))
    have lw := Nat.mod_lt w (show 0 < 256 ^ k from Nat.pow_pos (by decide))
    rw [Nat.pow_succ, hu, hw]
    simp only [beN, cmpB, byteAt_nat]
    rw [ih]
    generalize 256 ^ k = P at *
    generalize u / P % 256 = d at *
    generalize w / P % 256 = e at *
    generalize u % P = r at *
    generalize w % P = q at *
    rcases Nat.lt_trichotomy d e with h | h | h
    · have := Nat.mul_le_mul_left P (show d + 1 ≤ e from h)
      rw [Nat.mul_add, Nat.mul_one] at this
      rw [if_pos h]
      unfold sgI
      rw [if_pos (by omega)]
    · subst h
      rw [if_neg (by omega), if_neg (by omega)]
      unfold sgI
      repeat' split
      all_goals first | rfl | omega
    · have := Nat.mul_le_mul_left P (show e + 1 ≤ d from h)
      rw [Nat.mul_add, Nat.mul_one] at this
      rw [if_neg (by omega), if_pos h]
      unfold sgI
      rw [if_neg (by omega), if_pos (by omega)]
theorem cmpB_be8 (u w : Nat) (hu : u < 18446744073709551616) (hw : w < 18446744073709551616) : cmpB (be8 u) (be8 w) = sgI u w := by
  have := cmpB_beN u w 8
  rw [show (256 : Nat) ^ 8 = 18446744073709551616 by decide, Nat.mod_eq_of_lt hu, Nat.mod_eq_of_lt hw] at this
  exact this
theorem cmpB_esc : ∀ s t : Txt, cmpB (escT s ++ [0, 0]) (escT t ++ [0, 0]) = cmpB s t
  | [], [] => by decide
  | [], c :: t => by
    by_cases hc : c = 0
    · have e : escT (c :: t) = 0 :: 255 :: escT t := by simp [escT, escB, hc]
      rw [e]; simp [escT, cmpB]
    · have e : escT (c :: t) = c :: escT t := by simp [escT, escB, hc]
      have : 0 < c.toNat := Nat.pos_of_ne_zero fun h => hc (UInt8.toNat_inj.1 h)
      rw [e]; simp [escT, cmpB, this]
  | c :: s, [] => by
    by_cases hc : c = 0
    · have e : escT (c :: s) = 0 :: 255 :: escT s := by simp [escT, escB, hc]
      rw [e]; simp [escT, cmpB]
    · have e : escT (c :: s) = c :: escT s := by simp [escT, escB, hc]
      have : 0 < c.toNat := Nat.pos_of_ne_zero fun h => hc (UInt8.toNat_inj.1 h)
      rw [e]; simp [escT, cmpB, this]
  | c :: s, d :: t => by
    have ih := cmpB_esc s t
    have e0 : ∀ s : Txt, escT (0 :: s) = 0 :: 255 :: escT s := fun s => by simp [escT, escB]
    have e1 : ∀ (c : UInt8) (s : Txt), c ≠ 0 → escT (c :: s) = c :: escT s := fun c s hc => by simp [escT, escB, hc]
    have hp : ∀ c : UInt8, c ≠ 0 → 0 < c.toNat := fun c hc => Nat.pos_of_ne_zero fun h => hc (UInt8.toNat_inj.1 h)
    by_cases hc : c = 0
    · subst hc
      by_cases hd : d = 0
      · subst hd
        rw [e0, e0]
        simp only [List.cons_append, cmpB, Nat.lt_irrefl, if_false]
        exact ih
      · rw [e0, e1 d t hd]
        have := hp d hd
        simp [cmpB, this]
    · by_cases hd : d = 0
      · subst hd
        rw [e0, e1 c s hc]
        have := hp c hc
        simp [cmpB, this]
      · rw [e1 c s hc, e1 d t hd]
        simp only [List.cons_append, cmpB]
        rw [ih]
/-- Bytes are in the values' order. -/
theorem cmp_bytes (v w : Vl) (hv : v.ok) (fv : v.fit) (hw : w.ok) (fw : w.fit) : cmpB (bytesV v) (bytesV w) = cmpV v w := by
  obtain ⟨k, n, s⟩ := v
  obtain ⟨k', n', s'⟩ := w
  obtain ⟨f1, f2⟩ := fv
  obtain ⟨f3, f4⟩ := fw
  simp only at f1 f2 f3 f4
  have h21 : ¬ (2 : Int) = 1 := by decide
  rcases hv with ⟨rfl, rfl⟩ | ⟨rfl, rfl, hs⟩ <;> rcases hw with ⟨rfl, rfl⟩ | ⟨rfl, rfl, hs'⟩
  · simp only [bytesV, if_true, numOf]
    rw [cmpB, if_neg (by decide), if_neg (by decide), cmpB_be8 _ _ (by omega) (by omega)]
    simp only [cmpV, sgI]
    repeat' split
    all_goals first | omega | rfl
  · simp only [bytesV, if_true, h21, if_false]
    rfl
  · simp only [bytesV, if_true, h21, if_false]
    rfl
  · simp only [bytesV, h21, if_false]
    rw [cmpB, if_neg (by decide), if_neg (by decide), cmpB_esc]
    rfl
/-- The library's order of texts. -/
theorem escT_len : ∀ s : Txt, (escT s).length ≤ 2 * s.length
  | [] => Nat.le_refl _
  | c :: s => by
    have := escT_len s
    have h2 : (escB c).length ≤ 2 := by unfold escB; split <;> simp
    simp only [escT, List.flatMap_cons, List.length_append, List.length_cons] at *
    omega
theorem bytesV_len (v : Vl) : (bytesV v).length ≤ 2 * v.s.length + 9 := by
  unfold bytesV
  split
  · simp [be8]
  · have := escT_len v.s
    simp only [List.length_cons, List.length_append, List.length_nil]; omega
end Go.AL
