/-
  Seat 01 (letter): texts and runes, plain: a rune's bytes are read as that rune; a text's runes from the front.
-/
import Derived.Test.YteohhklblbinbaaDoorQm
import Derived.Lib.TrimUEq
import Derived.Lib.MapLaws
namespace Go.AL
set_option linter.unusedSimpArgs false
set_option linter.unusedVariables false
set_option maxRecDepth 20000

/-- The rune that is laid down for a number. -/
def fixR (r : Int) : Int := if Utf8.valid r = true then r else 65533
theorem valid_of {r : Int} (h : Utf8.valid r = true) : 0 ≤ r ∧ r < 55296 ∨ 57344 ≤ r ∧ r ≤ 1114111 := by
  simpa [Utf8.valid] using h
theorem valid_mk {r : Int} (h : 0 ≤ r ∧ r < 55296 ∨ 57344 ≤ r ∧ r ≤ 1114111) : Utf8.valid r = true := by
  simpa [Utf8.valid] using h
theorem valid_fix (r : Int) : Utf8.valid (fixR r) = true := by
  unfold fixR; split
  · assumption
  · rfl
theorem fix_valid {r : Int} (h : Utf8.valid r = true) : fixR r = r := if_pos h
theorem fix_fix (r : Int) : fixR (fixR r) = fixR r := fix_valid (valid_fix r)
/-- The bytes of a number. -/
def encN (c : Nat) : Txt :=
  if c < 128 then [UInt8.ofNat c]
  else if c < 2048 then [UInt8.ofNat (192 + c / 64), UInt8.ofNat (128 + c % 64)]
  else if c < 65536 then [UInt8.ofNat (224 + c / 4096), UInt8.ofNat (128 + c / 64 % 64), UInt8.ofNat (128 + c % 64)]
  else [UInt8.ofNat (240 + c / 262144), UInt8.ofNat (128 + c / 4096 % 64), UInt8.ofNat (128 + c / 64 % 64), UInt8.ofNat (128 + c % 64)]
theorem encA_N (r : Int) : encA r = encN (fixR r).toNat := by
  unfold encA Utf8.encode encN fixR
  dsimp only
  have : (if Utf8.valid r = true then r.toNat else Utf8.runeError) = (if Utf8.valid r = true then r else 65533).toNat := by
    split <;> rfl
  rw [this]
  generalize (if Utf8.valid r = true then r else 65533).toNat = c
  split
  · rfl
  · split
    · rfl
    · split <;> rfl
theorem encA_fix (r : Int) : encA (fixR r) = encA r := by rw [encA_N, encA_N, fix_fix]
theorem encN_len (c : Nat) : 1 ≤ (encN c).length ∧ (encN c).length ≤ 4 := by
  unfold encN
  repeat' split
  all_goals simp
theorem encA_len (r : Int) : (encA r).length ≤ 4 := by rw [encA_N]; exact (encN_len _).2
theorem encA_pos (r : Int) : 1 ≤ (encA r).length := by rw [encA_N]; exact (encN_len _).1
theorem getD_c0 (a : UInt8) (l : Txt) : (a :: l).getD 0 0 = a := rfl
theorem getD_c1 (a b : UInt8) (l : Txt) : (a :: b :: l).getD 1 0 = b := rfl
theorem getD_c2 (a b c : UInt8) (l : Txt) : (a :: b :: c :: l).getD 2 0 = c := rfl
theorem getD_c3 (a b c d : UInt8) (l : Txt) : (a :: b :: c :: d :: l).getD 3 0 = d := rfl
theorem decN_enc (c : Nat) (hc : c < 55296 ∨ 57344 ≤ c ∧ c ≤ 1114111) (t : Txt) : Lib.decodeL (encN c ++ t) = (c, (encN c).length) := by
  have tn : ∀ n : Nat, (UInt8.ofNat n).toNat = n % 256 := fun n => by simp
  rw [Lib.decodeL_N]
  unfold encN
  split
  · rename_i h
    simp only [List.cons_append, List.nil_append, getD_c0, tn]
    unfold Lib.decodeN
    rw [if_pos (by omega)]
    show (c % 256, 1) = (c, 1)
    rw [Nat.mod_eq_of_lt (by omega)]
  · split
    · rename_i h1 h2
      have e1 : (192 + c / 64) % 256 = 192 + c / 64 := Nat.mod_eq_of_lt (by omega)
      have e2 : (128 + c % 64) % 256 = 128 + c % 64 := Nat.mod_eq_of_lt (by omega)
      simp only [List.cons_append, List.nil_append, getD_c0, getD_c1, getD_c2, getD_c3, tn, e1, e2, List.length_cons, List.length_nil]
      unfold Lib.decodeN
      rw [if_neg (by omega), if_pos ⟨by omega, by omega, by omega⟩, if_pos (by omega)]
      simp only [Prod.mk.injEq]
      exact ⟨by omega, trivial⟩
    · split
      · rename_i h1 h2 h3
        have e1 : (224 + c / 4096) % 256 = 224 + c / 4096 := Nat.mod_eq_of_lt (by omega)
        have e2 : (128 + c / 64 % 64) % 256 = 128 + c / 64 % 64 := Nat.mod_eq_of_lt (by omega)
        have e3 : (128 + c % 64) % 256 = 128 + c % 64 := Nat.mod_eq_of_lt (by omega)
        simp only [List.cons_append, List.nil_append, getD_c0, getD_c1, getD_c2, getD_c3, tn, e1, e2, e3, List.length_cons, List.length_nil]
        unfold Lib.decodeN
        rw [if_neg (by omega), if_neg (by omega), if_pos ⟨by omega, ⟨by omega, by omega⟩, by omega, by omega⟩, if_pos ⟨by omega, by omega⟩]
        simp only [Prod.mk.injEq]
        exact ⟨by omega, trivial⟩
      · rename_i h1 h2 h3
        have e1 : (240 + c / 262144) % 256 = 240 + c / 262144 := Nat.mod_eq_of_lt (by omega)
        have e2 : (128 + c / 4096 % 64) % 256 = 128 + c / 4096 % 64 := Nat.mod_eq_of_lt (by omega)
        have e3 : (128 + c / 64 % 64) % 256 = 128 + c / 64 % 64 := Nat.mod_eq_of_lt (by omega)
        have e4 : (128 + c % 64) % 256 = 128 + c % 64 := Nat.mod_eq_of_lt (by omega)
        simp only [List.cons_append, List.nil_append, getD_c0, getD_c1, getD_c2, getD_c3, tn, e1, e2, e3, e4, List.length_cons, List.length_nil]
        unfold Lib.decodeN
        rw [if_neg (by omega), if_neg (by omega), if_neg (by omega), if_pos ⟨by omega, ⟨by omega, by omega⟩, ⟨by omega, by omega⟩, by omega, by omega⟩, if_pos ⟨by omega, by omega⟩]
        simp only [Prod.mk.injEq]
        exact ⟨by omega, trivial⟩
/-- A rune's bytes, whatever stands behind, are read as that rune. -/
theorem dec_enc (r : Int) (t : Txt) : Lib.decodeL (encA r ++ t) = ((fixR r).toNat, (encA r).length) := by
  have hv := valid_of (valid_fix r)
  rw [encA_N]
  exact decN_enc _ (by omega) t
theorem decR_L (s : Txt) (p : Nat) : decR s p = ((Lib.decodeL (s.drop p)).1 : Int) := by
  have := Lib.decodeL_drop ⟨s.toArray⟩ p
  show ((Utf8.decode ⟨s.toArray⟩ p).1 : Int) = _
  rw [← this]
theorem decW_L (s : Txt) (p : Nat) : decW s p = (Lib.decodeL (s.drop p)).2 := by
  have := Lib.decodeL_drop ⟨s.toArray⟩ p
  show (Utf8.decode ⟨s.toArray⟩ p).2 = _
  rw [← this]
theorem restR_drop (s : Txt) : ∀ (n p : Nat), s.length ≤ p + n → restR s p = runeL (s.drop p)
  | n, p, h => by
    by_cases hp : p < s.length
    · have h0 : 0 < (s.drop p).length := by rw [List.length_drop]; omega
      rw [runeL_rest, restR_step hp, restR_step h0, decR_L, decR_L, decW_L, decW_L, List.drop_zero, Nat.zero_add]
      congr 1
      have hw : 1 ≤ (Lib.decodeL (s.drop p)).2 := by have := decW_pos hp; rwa [decW_L] at this
      have hb : ∀ m, 1 ≤ m → m ≤ (s.drop p).length → restR s (p + m) = restR (s.drop p) m := by
        intro m h1 h2
        cases n with
        | zero => omega
        | succ n =>
          rw [restR_drop s n (p + m) (by omega), restR_drop (s.drop p) n m (by rw [List.length_drop]; omega), List.drop_drop]
      refine hb _ hw ?_
      have := decW_le hp
      rw [decW_L] at this
      rw [List.length_drop]; omega
    · rw [restR_end (by omega), List.drop_eq_nil_of_le (by omega)]; rfl
termination_by n => n
theorem runeL_nil : runeL [] = [] := rfl
/-- A text's runes from the front. -/
theorem runeL_cons {s : Txt} (h : s ≠ []) : runeL s = ((Lib.decodeL s).1 : Int) :: runeL (s.drop (Lib.decodeL s).2) := by
  have h0 : 0 < s.length := List.length_pos_iff.2 h
  rw [runeL_rest, restR_step h0, decR_L, decW_L, List.drop_zero, Nat.zero_add, restR_drop s s.length _ (by omega)]
theorem runeL_enc (r : Int) (t : Txt) : runeL (encA r ++ t) = fixR r :: runeL t := by
  have hp := encA_pos r
  rw [runeL_cons (by intro h; have := congrArg List.length h; rw [List.length_append, List.length_nil] at this; omega), dec_enc, List.drop_left]
  have := valid_of (valid_fix r)
  congr 1
  show (((fixR r).toNat : Nat) : Int) = fixR r
  omega
theorem runeL_txt : ∀ (l : List Int) (t : Txt), runeL (txtR l ++ t) = l.map fixR ++ runeL t
  | [], t => rfl
  | r :: l, t => by
    have : txtR (r :: l) = encA r ++ txtR l := rfl
    rw [this, List.append_assoc, runeL_enc, runeL_txt l t]; rfl
theorem runeL_txt' (l : List Int) : runeL (txtR l) = l.map fixR := by
  have := runeL_txt l []
  rw [List.append_nil, runeL_nil, List.append_nil] at this
  exact this
theorem txtR_append (a b : List Int) : txtR (a ++ b) = txtR a ++ txtR b := by simp [txtR]
theorem dec_valid (s : Txt) : Utf8.valid ((Lib.decodeL s).1 : Int) = true := by
  refine valid_mk ?_
  rw [Lib.decodeL_N]
  have k0 := (s.getD 0 0).toNat_lt
  rcases Lib.decodeN_shape s.length (s.getD 0 0).toNat (s.getD 1 0).toNat (s.getD 2 0).toNat (s.getD 3 0).toNat with ⟨c, e⟩ | ⟨c1, c2, c3, cv, e⟩ | ⟨c1, c2, c3, c4, cv, cs, e⟩ | ⟨c1, c2, c3, c4, c5, cv, cw, e⟩ | e
  all_goals rw [e]; dsimp only; omega
/-- Every rune of a text is right. -/
theorem runeL_valid : ∀ (n : Nat) (s : Txt), s.length ≤ n → ∀ r ∈ runeL s, Utf8.valid r = true
  | n, s, hn, r, hr => by
    by_cases h : s = []
    · subst h; cases hr
    · rw [runeL_cons h] at hr
      have h0 : 0 < s.length := List.length_pos_iff.2 h
      have hw : 1 ≤ (Lib.decodeL s).2 := by have := decW_pos h0; rwa [decW_L, List.drop_zero] at this
      rcases List.mem_cons.1 hr with rfl | hr
      · exact dec_valid s
      · cases n with
        | zero => omega
        | succ n => exact runeL_valid n _ (by rw [List.length_drop]; omega) r hr
termination_by n => n
theorem runeL_fix (s : Txt) : (runeL s).map fixR = runeL s := by
  conv => rhs; rw [← List.map_id (runeL s)]
  exact List.map_congr_left fun r hr => fix_valid (runeL_valid _ s (Nat.le_refl _) r hr)
theorem txtR_len : ∀ l : List Int, (txtR l).length ≤ 4 * l.length
  | [] => Nat.zero_le _
  | r :: l => by
    have := txtR_len l
    have := encA_len r
    simp only [txtR, List.flatMap_cons, List.length_append, List.length_cons] at *
    omega
theorem txtR_take (l : List Int) (i : Nat) (h : i < l.length) : txtR (l.take (i + 1)) = txtR (l.take i) ++ encA l[i] := by
  rw [List.take_add_one, List.getElem?_eq_getElem h, txtR_append]
  simp [txtR]
end Go.AL
