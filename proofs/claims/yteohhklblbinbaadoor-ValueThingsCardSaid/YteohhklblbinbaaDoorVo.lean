/-
  Seat 02 (value): quoted texts, plain: read byte by byte and read rune by rune is the same; a text that is quoted is read as itself.
-/
import Derived.Test.YteohhklblbinbaaDoorVj
namespace Go.AL
theorem unqF_ne {c : UInt8} (h : c ≠ 92) (r : Txt) : unqF (c :: r) = c :: unqF r := by
  cases r with
  | nil => rfl
  | cons d r => rw [unqF, if_neg h]
theorem unqF_len : ∀ l : Txt, (unqF l).length ≤ l.length
  | [] => Nat.le_refl _
  | [c] => Nat.le_refl _
  | c :: d :: r => by
    rw [unqF]
    have h1 := unqF_len r
    have h2 := unqF_len (d :: r)
    split
    · simp only [List.length_cons] at *; omega
    · simp only [List.length_cons] at *; omega
set_option linter.unusedSimpArgs false
set_option linter.unusedVariables false
set_option maxRecDepth 20000

/-- The runes of a quoted rune. -/
def quN (r : Int) : List Int := (if r = 34 ∨ r = 92 then [92] else []) ++ (if r = 10 then [92, 110] else [r])
theorem encA_one {r : Int} (h0 : 0 ≤ r) (h1 : r < 128) : encA r = [UInt8.ofNat r.toNat] := by
  rw [encA_N, fix_valid (valid_mk (by omega)), encN, if_pos (by omega)]
theorem quoR_N (r : Int) : quoR r = txtR (quN r) := by
  have e92 : encA 92 = [92] := rfl
  have e110 : encA 110 = [110] := rfl
  unfold quoR quN txtR
  rw [List.flatMap_append]
  congr 1
  · split <;> rfl
  · split
    · rfl
    · simp
theorem quo_N (l : List Int) : l.flatMap quoR = txtR (l.flatMap quN) := by
  induction l with
  | nil => rfl
  | cons r l ih => rw [List.flatMap_cons, List.flatMap_cons, ih, quoR_N, txtR_append]
theorem fixR_small {r : Int} {k : Int} (hk : 0 ≤ k) (hk2 : k < 55296) : fixR r = k ↔ r = k := by
  unfold fixR
  split
  · exact Iff.rfl
  · rename_i h
    constructor
    · intro h1; omega
    · intro h1; subst h1; exact absurd (valid_mk (by omega)) h
theorem par_quN : ∀ l : List Int, parR false ((l.flatMap quN).map fixR) = some (txtR l)
  | [] => rfl
  | r :: l => by
    have ih := par_quN l
    have ht : txtR (r :: l) = encA r ++ txtR l := rfl
    have f92 : fixR 92 = 92 := rfl
    have f110 : fixR 110 = 110 := rfl
    rw [List.flatMap_cons, List.map_append, ht]
    by_cases h34 : r = 34
    · subst h34
      have e : (quN 34).map fixR = [92, 34] := rfl
      rw [e]
      show parR false (92 :: 34 :: (l.flatMap quN).map fixR) = _
      rw [parR, if_neg (by simp), if_pos ⟨rfl, rfl⟩, parR, if_neg (by simp), if_neg (by simp), if_neg (by simp), ih]
      rfl
    · by_cases h92 : r = 92
      · subst h92
        have e : (quN 92).map fixR = [92, 92] := rfl
        rw [e]
        show parR false (92 :: 92 :: (l.flatMap quN).map fixR) = _
        rw [parR, if_neg (by simp), if_pos ⟨rfl, rfl⟩, parR, if_neg (by simp), if_neg (by simp), if_neg (by simp), ih]
        rfl
      · by_cases h10 : r = 10
        · subst h10
          have e : (quN 10).map fixR = [92, 110] := rfl
          rw [e]
          show parR false (92 :: 110 :: (l.flatMap quN).map fixR) = _
          rw [parR, if_neg (by simp), if_pos ⟨rfl, rfl⟩, parR, if_pos ⟨rfl, rfl⟩, ih]
          rfl
        · have e : quN r = [r] := by unfold quN; rw [if_neg (by omega), if_neg h10]; rfl
          have g34 : ¬ fixR r = 34 := fun h => h34 ((fixR_small (by omega) (by omega)).1 h)
          have g92 : ¬ fixR r = 92 := fun h => h92 ((fixR_small (by omega) (by omega)).1 h)
          rw [e]
          show parR false (fixR r :: (l.flatMap quN).map fixR) = _
          rw [parR, if_neg (by simp), if_neg (by simp [g92]), if_neg (by simp [g34, g92]), ih, encA_fix]
          rfl
theorem encA_no92 {r : Int} (h : r ≠ 92) : ∀ c ∈ encA r, c ≠ 92 := by
  rw [encA_N]
  have h1 : (fixR r).toNat ≠ 92 := by
    have hv := valid_of (valid_fix r)
    intro h2
    exact h ((fixR_small (by omega) (by omega)).1 (show fixR r = 92 by omega))
  have hv := valid_of (valid_fix r)
  have hcb : (fixR r).toNat ≤ 1114111 := by omega
  generalize (fixR r).toNat = c at *
  intro x hx hx92
  subst hx92
  have tn : ∀ n : Nat, (92 : UInt8) = UInt8.ofNat n → n % 256 = 92 := fun n hn => by
    have := congrArg UInt8.toNat hn
    simpa using this.symm
  unfold encN at hx
  split at hx
  · rcases List.mem_singleton.1 hx with h2
    have := tn _ h2; omega
  · split at hx
    · simp only [List.mem_cons, List.not_mem_nil, or_false] at hx
      rcases hx with h2 | h2 <;> (have := tn _ h2; omega)
    · split at hx
      · simp only [List.mem_cons, List.not_mem_nil, or_false] at hx
        rcases hx with h2 | h2 | h2 <;> (have := tn _ h2; omega)
      · simp only [List.mem_cons, List.not_mem_nil, or_false] at hx
        rcases hx with h2 | h2 | h2 | h2 <;> (have := tn _ h2; omega)
theorem unqF_app : ∀ (a t : Txt), (∀ c ∈ a, c ≠ 92) → unqF (a ++ t) = a ++ unqF t
  | [], t, _ => rfl
  | c :: a, t, h => by
    rw [List.cons_append, unqF_ne (h c (List.mem_cons_self ..)), unqF_app a t fun x hx => h x (List.mem_cons_of_mem _ hx), List.cons_append]
theorem unq_quo : ∀ l : List Int, unqF (l.flatMap quoR) = txtR l
  | [] => rfl
  | r :: l => by
    have ih := unq_quo l
    have ht : txtR (r :: l) = encA r ++ txtR l := rfl
    rw [List.flatMap_cons, ht]
    by_cases h34 : r = 34
    · subst h34
      have e : quoR 34 = [92, 34] := rfl
      rw [e]
      show unqF (92 :: 34 :: l.flatMap quoR) = _
      rw [unqF, if_pos rfl, ih]; rfl
    · by_cases h92 : r = 92
      · subst h92
        have e : quoR 92 = [92, 92] := rfl
        rw [e]
        show unqF (92 :: 92 :: l.flatMap quoR) = _
        rw [unqF, if_pos rfl, ih]; rfl
      · by_cases h10 : r = 10
        · subst h10
          have e : quoR 10 = [92, 110] := rfl
          rw [e]
          show unqF (92 :: 110 :: l.flatMap quoR) = _
          rw [unqF, if_pos rfl, ih]; rfl
        · have e : quoR r = encA r := by unfold quoR; rw [if_neg (by omega), if_neg h10]; rfl
          rw [e, unqF_app _ _ (encA_no92 h92), ih]
theorem quoT_txt (t : Txt) : quoT (txtR (runeL t)) = quoT t := by
  unfold quoT
  rw [runeL_txt', runeL_fix]
theorem remT_marks (x : Txt) : remT (34 :: (x ++ [34])) 1 = x := by
  unfold remT
  have : (34 :: (x ++ [34]) : Txt).length - 1 - 1 = x.length := by simp
  rw [this]
  simp
/-- A text in marks is read as what it holds. -/
theorem unq_key {l t : Txt} (h : quoT t = l) : unqT l = (txtR (runeL t), true) ∧ unqL l = some (txtR (runeL t)) := by
  have hl : l = 34 :: ((runeL t).flatMap quoR ++ [34]) := h.symm
  have hr : remT l 1 = (runeL t).flatMap quoR := by rw [hl]; exact remT_marks _
  have h2 : ¬ l.length < 2 := by rw [hl]; simp
  have hq : quoT (txtR (runeL t)) = l := by rw [quoT_txt]; exact h
  have hp : parR false (runeL (remT l 1)) = some (txtR (runeL t)) := by
    rw [hr, quo_N, runeL_txt', par_quN]
  constructor
  · unfold unqT
    rw [if_neg h2, hr, unq_quo, hq]; simp
  · refine Go.Proofs.unqL_eq ?_ hp hq
    have h0 : l.getD 0 0 = 34 := by rw [hl]; rfl
    have h1 : l.getD (l.length - 1) 0 = 34 := by
      rw [hl]
      have : (34 :: ((runeL t).flatMap quoR ++ [34]) : Txt).length - 1 = ((runeL t).flatMap quoR).length + 1 := by simp
      rw [this, List.getD_cons_succ]
      simp [List.getD]
    rw [h0, h1]; simp [h2]
theorem unqL_T (l : Txt) : unqL l = if (unqT l).2 = true then some (unqT l).1 else none := by
  by_cases h : (unqT l).2 = true
  · rw [if_pos h]
    have hq : quoT (unqT l).1 = l := by
      unfold unqT at h ⊢
      split at h
      · cases h
      · rename_i h2
        rw [if_neg h2]
        simpa using h
    have hk := unq_key hq
    have e1 : (unqT l).1 = txtR (runeL (unqT l).1) := congrArg Prod.fst hk.1
    rw [hk.2, ← e1]
  · rw [if_neg h]
    cases hu : unqL l with
    | none => rfl
    | some t =>
      exfalso
      apply h
      have hq : quoT t = l := by
        unfold unqL at hu
        split at hu
        · cases hu
        · split at hu
          · cases hu
          · split at hu
            · rename_i h5
              cases hu
              exact h5
            · cases hu
      rw [(unq_key hq).1]
end Go.AL
