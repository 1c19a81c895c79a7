/-
  Seat 01 (letter): what is computed (plain definitions), and texts as runes.
-/
import Derived.Test.YteohhklblbinbaaDoorH
import Derived.Test.YteohhklblbinbaaDoorA17
import Derived.Test.YteohhklblbinbaaDoorB0
import Derived.Test.YteohhklblbinbaaDoorHc
namespace Go.AL
set_option linter.unusedSimpArgs false
set_option linter.unusedVariables false

abbrev Txt := List UInt8
def strIs : AVal → Bool
  | .str _ => true
  | _ => false
@[simp] theorem strv_is (l : List Txt) : (strv l).all strIs = true := by simp [strv, strIs]
@[simp] theorem map_strOf_strv (l : List Txt) : (strv l).map AVal.strOf = l := by
  simp only [strv, List.map_map]
  conv => rhs; rw [← List.map_id l]
  exact List.map_congr_left fun b _ => rfl
theorem strv_of {es : List AVal} (h : es.all strIs = true) : es = strv (es.map AVal.strOf) := by
  induction es with
  | nil => rfl
  | cons e es ih =>
    simp only [List.all_cons, Bool.and_eq_true] at h
    have h1 := h.1
    unfold strIs at h1
    split at h1
    · have := ih h.2
      simp only [strv, List.map_cons] at this ⊢
      rw [← this]
      rfl
    · cases h1
theorem wk_strv {s : Nat} {es : List AVal} (t : Tag) (hn : okW 1 s es = true) (h : es.all strIs = true) : Wk (.slice es s t) (.slice (strv (es.map AVal.strOf)) 1 .ro) := by
  rw [← strv_of h]
  exact wkW t hn
theorem strv_noOut (n : Nat) (l : List Txt) : noOutL n (strv l) = true := noOutL_map n (fun _ => rfl) l
theorem strv_noTok (n : Nat) (l : List Txt) : noTokL n (strv l) = true := noTokL_map n (fun _ => rfl) l
theorem strv_noLoc (l : List Txt) : noLocL (strv l) = true := noLocL_map (fun _ => rfl) l
/-- Runes as values. -/
def rv (l : List Int) : List AVal := l.map (AVal.int .i32)
/-- Bools as values. -/
def bvv (l : List Bool) : List AVal := l.map AVal.bool
@[simp] theorem rv_length (l : List Int) : (rv l).length = l.length := by simp [rv]
@[simp] theorem bvv_length (l : List Bool) : (bvv l).length = l.length := by simp [bvv]
def isI32 : AVal → Bool
  | .int .i32 _ => true
  | _ => false
@[simp] theorem rv_is (l : List Int) : (rv l).all isI32 = true := by simp [rv, isI32]
@[simp] theorem map_intOf_rv (l : List Int) : (rv l).map AVal.intOf = l := by
  simp only [rv, List.map_map]
  conv => rhs; rw [← List.map_id l]
  exact List.map_congr_left fun b _ => rfl
theorem rv_of {es : List AVal} (h : es.all isI32 = true) : es = rv (es.map AVal.intOf) := by
  unfold rv
  rw [List.map_map]
  conv => lhs; rw [← List.map_id es]
  refine List.map_congr_left fun e he => ?_
  have := List.all_eq_true.1 h e he
  cases e <;> simp [isI32] at this
  rename_i k n
  cases k <;> simp at this
  rfl
theorem elemAt_rv (l : List Int) (i : Nat) (h : i < l.length) : elemAt (rv l) (i : Int) = [.int .i32 l[i]] := elemAt_map (AVal.int .i32) l i h
theorem elemAt_bvv (l : List Bool) (i : Nat) (h : i < l.length) : elemAt (bvv l) (i : Int) = [.bool l[i]] := elemAt_map AVal.bool l i h
theorem rv_append (a b : List Int) : rv (a ++ b) = rv a ++ rv b := by simp [rv]
theorem bvv_append (a b : List Bool) : bvv (a ++ b) = bvv a ++ bvv b := by simp [bvv]
theorem rv_noOut (n : Nat) (l : List Int) : noOutL n (rv l) = true := noOutL_map n (fun _ => rfl) l
theorem rv_noTok (n : Nat) (l : List Int) : noTokL n (rv l) = true := noTokL_map n (fun _ => rfl) l
theorem wk_rv {es : List AVal} {s : Nat} (t : Tag) (hn : okW 1 s es = true) (h : es.all isI32 = true) : Wk (.slice es s t) (.slice (rv (es.map AVal.intOf)) 1 .ro) := by
  rw [rv, List.map_map]
  refine wkW_map t hn fun e he => ?_
  have := List.all_eq_true.1 h e he
  cases e <;> simp [isI32] at this
  rename_i k n
  cases k <;> simp at this
  exact ⟨.refl _, rfl⟩

/-! ### A text from a place on -/
/-- The runes from a place on. -/
def restR (s : Txt) (p : Nat) : List Int := runeF ⟨s.toArray⟩ s.length p
theorem sizeT (s : Txt) : (ByteArray.mk s.toArray).size = s.length := by simp [ByteArray.size]
theorem runeF_fuel (s : ByteArray) : ∀ (f g i : Nat), s.size ≤ i + f → s.size ≤ i + g → (∀ p, p < s.size → 1 ≤ (Utf8.decode s p).2) → runeF s f i = runeF s g i
  | 0, g, i, h1, h2, hw => by
    cases g with
    | zero => rfl
    | succ g => rw [runeF, runeF, if_neg (by omega)]
  | f + 1, 0, i, h1, h2, hw => by rw [runeF, runeF, if_neg (by omega)]
  | f + 1, g + 1, i, h1, h2, hw => by
    rw [runeF, runeF]
    split
    · rename_i hi
      have := hw i hi
      rw [runeF_fuel s f g _ (by omega) (by omega) hw]
    · rfl
theorem width_pos (s : ByteArray) (pos : Nat) (h : pos < s.size) : 1 ≤ (Utf8.decode s pos).2 := by
  by_cases ha : (s[pos]'h).toNat < 128
  · rw [decode_ascii s pos h ha]
    exact Nat.le_refl _
  · exact (decode_high s pos h (by omega)).2
theorem decode_wid (s : ByteArray) (pos : Nat) (h : pos < s.size) : pos + (Utf8.decode s pos).2 ≤ s.size := by
  unfold Utf8.decode
  dsimp only
  split
  · show pos + 1 ≤ s.size; omega
  · split
    · rename_i h1
      simp only [Bool.and_eq_true, decide_eq_true_eq] at h1
      split
      · show pos + 2 ≤ s.size; omega
      · show pos + 1 ≤ s.size; omega
    · split
      · rename_i h1
        simp only [Bool.and_eq_true, decide_eq_true_eq] at h1
        split
        · show pos + 3 ≤ s.size; omega
        · show pos + 1 ≤ s.size; omega
      · split
        · rename_i h1
          simp only [Bool.and_eq_true, decide_eq_true_eq] at h1
          split
          · show pos + 4 ≤ s.size; omega
          · show pos + 1 ≤ s.size; omega
        · show pos + 1 ≤ s.size; omega
theorem restR_step {s : Txt} {p : Nat} (h : p < s.length) : restR s p = decR s p :: restR s (p + decW s p) := by
  unfold restR decR decW
  have hw : ∀ q, q < (ByteArray.mk s.toArray).size → 1 ≤ (Utf8.decode ⟨s.toArray⟩ q).2 := fun q hq => width_pos _ q hq
  have h1 := hw p (by rw [sizeT]; exact h)
  rw [runeF_fuel ⟨s.toArray⟩ s.length (s.length + 1) p (by rw [sizeT]; omega) (by rw [sizeT]; omega) hw, runeF, if_pos (by rw [sizeT]; exact h)]
theorem restR_end {s : Txt} {p : Nat} (h : s.length ≤ p) : restR s p = [] := by
  unfold restR
  cases s.length with
  | zero => rfl
  | succ n => rw [runeF, if_neg (by rw [sizeT]; omega)]
theorem runeL_rest (s : Txt) : runeL s = restR s 0 := rfl
theorem decW_pos {s : Txt} {p : Nat} (h : p < s.length) : 1 ≤ decW s p := width_pos _ p (by rw [sizeT]; exact h)
theorem decW_le {s : Txt} {p : Nat} (h : p < s.length) : p + decW s p ≤ s.length := by
  have := decode_wid ⟨s.toArray⟩ p (by rw [sizeT]; exact h)
  rw [sizeT] at this
  exact this
theorem restR_len (s : Txt) (p : Nat) : (restR s p).length ≤ s.length := runeF_length _ _ _
theorem runeL_len (s : Txt) : (runeL s).length ≤ s.length := runeF_length _ _ _

/-! ### Names, folds, cuts -/
def letB (r : Int) : Bool := decide (97 ≤ r ∧ r ≤ 122 ∨ 65 ≤ r ∧ r ≤ 90 ∨ r = 95 ∨ 192 ≤ r ∧ r ≤ 591 ∧ r ≠ 215 ∧ r ≠ 247)
def digB (r : Int) : Bool := decide (48 ≤ r ∧ r ≤ 57)
def nameR : List Int → Bool
  | [] => false
  | r :: l => letB r && (l.all fun x => letB x || digB x) && decide (l.length ≤ 31)
def nameT (s : Txt) : Bool := nameR (runeL s)
def fdR (r : Int) : Int := if 65 ≤ r ∧ r ≤ 90 ∨ 192 ≤ r ∧ r ≤ 222 ∧ r ≠ 215 then r + 32 else r
/-- Where the k-th rune begins. -/
def posT (s : Txt) : Nat → Nat → Nat
  | 0, p => p
  | k + 1, p => if p < s.length then posT s k (p + decW s p) else p
def cutT (s : Txt) (n : Int) : Txt := s.take (posT s n.toNat 0)
def cmpR : List Int → List Int → Int
  | [], [] => 0
  | [], _ :: _ => -1
  | _ :: _, [] => 1
  | x :: a, y :: b => if x < y then -1 else if y < x then 1 else cmpR a b
/-! ### Patterns: which first runes fit -/
/-- A row behind one more of the pattern. -/
def rowB (t : List Int) (p : Int) (f : List Bool) (i : Nat) : Bool :=
  if p = 42 then (f.take (i + 1)).any id else decide (0 < i) && ((p == 63 || p == t.getD (i - 1) 0) && f.getD (i - 1) false)
def rowF (t : List Int) (p : Int) (f : List Bool) : List Bool := (List.range (t.length + 1)).map (rowB t p f)
def row0 (t : List Int) : List Bool := (List.range (t.length + 1)).map fun i => decide (i = 0)
def rowsF (t pat : List Int) : List Bool := pat.foldl (fun f p => rowF t p f) (row0 t)
def likeR (t pat : List Int) : Bool := (rowsF t pat).getD t.length false
/-! ### Quotes -/
def quoR (r : Int) : Txt := (if r = 34 ∨ r = 92 then [92] else []) ++ (if r = 10 then [92, 110] else encA r)
def quoT (s : Txt) : Txt := 34 :: ((runeL s).flatMap quoR ++ [34])
/-- Read byte by byte. -/
def unqF : Txt → Txt
  | [] => []
  | [c] => [c]
  | c :: d :: r => if c = 92 then (if d = 110 then 10 else d) :: unqF r else c :: unqF (d :: r)
/-- The bytes from place i up to the last. -/
def remT (s : Txt) (i : Nat) : Txt := (s.drop i).take (s.length - 1 - i)
def unqT (s : Txt) : Txt × Bool :=
  if s.length < 2 then ([], false) else (unqF (remT s 1), quoT (unqF (remT s 1)) == s)
def txtR (l : List Int) : Txt := l.flatMap encA
end Go.AL
