/-
  The texts B0, Qm, Qu of this seat, one behind the other.
-/
import Derived.Test.YtcijjgfadkflmaaDoorZ4
import Derived.Test.YtcijjgfadkflmaaDoorRows
import Derived.KernelRfl
import Derived.Laws.BitsAllLaws
import Derived.Lib.TrimUEq
import Derived.Lib.MapLaws

section
namespace Go.Proofs.YtcijjgfadkflmaaDoor
open Go.AL
theorem hmix : Tryd.prog.follows .mixedOrders = true := by kernel_rfl
theorem hown : ownKnob Tryd.prog.godebug = none := by kernel_rfl
end Go.Proofs.YtcijjgfadkflmaaDoor
end

section
namespace Go.AL
set_option linter.unusedSimpArgs false
set_option linter.unusedVariables false

abbrev Txt := List UInt8
def strIs : AVal → Bool
  | .str _ => true
  | _ => false
@[simp] theorem strv_is (l : List Txt) : (strv l).all strIs = true := by simp [strv, strIs]
@[simp] theorem map_strOf_strv (l : List Txt) : (strv l).map AVal.strOf = l := by
  simp only [strv, List.map_map]
  conv => rhs; rw [← List.map_id l]
  exact List.map_congr_left fun b _ => rfl
theorem strv_of {es : List AVal} (h : es.all strIs = true) : es = strv (es.map AVal.strOf) := by
  induction es with
  | nil => rfl
  | cons e es ih =>
    simp only [List.all_cons, Bool.and_eq_true] at h
    have h1 := h.1
    unfold strIs at h1
    split at h1
    · have := ih h.2
      simp only [strv, List.map_cons] at this ⊢
      rw [← this]
      rfl
    · cases h1
theorem wk_strv {s : Nat} {es : List AVal} (t : Tag) (hn : okW 1 s es = true) (h : es.all strIs = true) : Wk (.slice es s t) (.slice (strv (es.map AVal.strOf)) 1 .ro) := by
  rw [← strv_of h]
  exact wkW t hn
theorem strv_noOut (n : Nat) (l : List Txt) : noOutL n (strv l) = true := noOutL_map n (fun _ => rfl) l
theorem strv_noTok (n : Nat) (l : List Txt) : noTokL n (strv l) = true := noTokL_map n (fun _ => rfl) l
def rv (l : List Int) : List AVal := l.map (AVal.int .i32)
def bvv (l : List Bool) : List AVal := l.map AVal.bool
@[simp] theorem rv_length (l : List Int) : (rv l).length = l.length := by simp [rv]
@[simp] theorem bvv_length (l : List Bool) : (bvv l).length = l.length := by simp [bvv]
def isI32 : AVal → Bool
  | .int .i32 _ => true
  | _ => false
@[simp] theorem rv_is (l : List Int) : (rv l).all isI32 = true := by simp [rv, isI32]
@[simp] theorem map_intOf_rv (l : List Int) : (rv l).map AVal.intOf = l := by
  simp only [rv, List.map_map]
  conv => rhs; rw [← List.map_id l]
  exact List.map_congr_left fun b _ => rfl
/-! ### A text from a place on -/
def restR (s : Txt) (p : Nat) : List Int := runeF ⟨s.toArray⟩ s.length p
theorem sizeT (s : Txt) : (ByteArray.mk s.toArray).size = s.length := by simp [ByteArray.size]
theorem runeF_fuel (s : ByteArray) : ∀ (f g i : Nat), s.size ≤ i + f → s.size ≤ i + g → (∀ p, p < s.size → 1 ≤ (Utf8.decode s p).2) → runeF s f i = runeF s g i
  | 0, g, i, h1, h2, hw => by
    cases g with
    | zero => rfl
    | succ g => rw [runeF, runeF, if_neg (by omega)]
  | f + 1, 0, i, h1, h2, hw => by rw [runeF, runeF, if_neg (by omega)]
  | f + 1, g + 1, i, h1, h2, hw => by
    rw [runeF, runeF]
    split
    · rename_i hi
      have := hw i hi
      rw [runeF_fuel s f g _ (by omega) (by omega) hw]
    · rfl
theorem width_pos (s : ByteArray) (pos : Nat) (h : pos < s.size) : 1 ≤ (Utf8.decode s pos).2 := by
  by_cases ha : (s[pos]'h).toNat < 128
  · rw [decode_ascii s pos h ha]
    exact Nat.le_refl _
  · exact (decode_high s pos h (by omega)).2
theorem decode_wid (s : ByteArray) (pos : Nat) (h : pos < s.size) : pos + (Utf8.decode s pos).2 ≤ s.size := by
  unfold Utf8.decode
  dsimp only
  split
  · show pos + 1 ≤ s.size; omega
  · split
    · rename_i h1
      simp only [Bool.and_eq_true, decide_eq_true_eq] at h1
      split
      · show pos + 2 ≤ s.size; omega
      · show pos + 1 ≤ s.size; omega
    · split
      · rename_i h1
        simp only [Bool.and_eq_true, decide_eq_true_eq] at h1
        split
        · show pos + 3 ≤ s.size; omega
        · show pos + 1 ≤ s.size; omega
      · split
        · rename_i h1
          simp only [Bool.and_eq_true, decide_eq_true_eq] at h1
          split
          · show pos + 4 ≤ s.size; omega
          · show pos + 1 ≤ s.size; omega
        · show pos + 1 ≤ s.size; omega
theorem restR_step {s : Txt} {p : Nat} (h : p < s.length) : restR s p = decR s p :: restR s (p + decW s p) := by
  unfold restR decR decW
  have hw : ∀ q, q < (ByteArray.mk s.toArray).size → 1 ≤ (Utf8.decode ⟨s.toArray⟩ q).2 := fun q hq => width_pos _ q hq
  have h1 := hw p (by rw [sizeT]; exact h)
  rw [runeF_fuel ⟨s.toArray⟩ s.length (s.length + 1) p (by rw [sizeT]; omega) (by rw [sizeT]; omega) hw, runeF, if_pos (by rw [sizeT]; exact h)]
theorem restR_end {s : Txt} {p : Nat} (h : s.length ≤ p) : restR s p = [] := by
  unfold restR
  cases s.length with
  | zero => rfl
  | succ n => rw [runeF, if_neg (by rw [sizeT]; omega)]
theorem runeL_rest (s : Txt) : runeL s = restR s 0 := rfl
theorem decW_pos {s : Txt} {p : Nat} (h : p < s.length) : 1 ≤ decW s p := width_pos _ p (by rw [sizeT]; exact h)
theorem decW_le {s : Txt} {p : Nat} (h : p < s.length) : p + decW s p ≤ s.length := by
  have := decode_wid ⟨s.toArray⟩ p (by rw [sizeT]; exact h)
  rw [sizeT] at this
  exact this
theorem runeL_len (s : Txt) : (runeL s).length ≤ s.length := runeF_length _ _ _

/-! ### Names, folds, cuts -/
def letB (r : Int) : Bool := decide (97 ≤ r ∧ r ≤ 122 ∨ 65 ≤ r ∧ r ≤ 90 ∨ r = 95 ∨ 192 ≤ r ∧ r ≤ 591 ∧ r ≠ 215 ∧ r ≠ 247)
def digB (r : Int) : Bool := decide (48 ≤ r ∧ r ≤ 57)
def nameR : List Int → Bool
  | [] => false
  | r :: l => letB r && (l.all fun x => letB x || digB x) && decide (l.length ≤ 31)
def nameT (s : Txt) : Bool := nameR (runeL s)
def fdR (r : Int) : Int := if 65 ≤ r ∧ r ≤ 90 ∨ 192 ≤ r ∧ r ≤ 222 ∧ r ≠ 215 then r + 32 else r
def posT (s : Txt) : Nat → Nat → Nat
  | 0, p => p
  | k + 1, p => if p < s.length then posT s k (p + decW s p) else p
def cutT (s : Txt) (n : Int) : Txt := s.take (posT s n.toNat 0)
def cmpR : List Int → List Int → Int
  | [], [] => 0
  | [], _ :: _ => -1
  | _ :: _, [] => 1
  | x :: a, y :: b => if x < y then -1 else if y < x then 1 else cmpR a b
/-! ### Patterns: which first runes fit -/
def rowB (t : List Int) (p : Int) (f : List Bool) (i : Nat) : Bool :=
  if p = 42 then (f.take (i + 1)).any id else decide (0 < i) && ((p == 63 || p == t.getD (i - 1) 0) && f.getD (i - 1) false)
def rowF (t : List Int) (p : Int) (f : List Bool) : List Bool := (List.range (t.length + 1)).map (rowB t p f)
def row0 (t : List Int) : List Bool := (List.range (t.length + 1)).map fun i => decide (i = 0)
def rowsF (t pat : List Int) : List Bool := pat.foldl (fun f p => rowF t p f) (row0 t)
def likeR (t pat : List Int) : Bool := (rowsF t pat).getD t.length false
/-! ### Quotes -/
def quoR (r : Int) : Txt := (if r = 34 ∨ r = 92 then [92] else []) ++ (if r = 10 then [92, 110] else encA r)
def quoT (s : Txt) : Txt := 34 :: ((runeL s).flatMap quoR ++ [34])
def unqF : Txt → Txt
  | [] => []
  | [c] => [c]
  | c :: d :: r => if c = 92 then (if d = 110 then 10 else d) :: unqF r else c :: unqF (d :: r)
def remT (s : Txt) (i : Nat) : Txt := (s.drop i).take (s.length - 1 - i)
def unqT (s : Txt) : Txt × Bool :=
  if s.length < 2 then ([], false) else (unqF (remT s 1), quoT (unqF (remT s 1)) == s)
def txtR (l : List Int) : Txt := l.flatMap encA
end Go.AL
end

section
namespace Go.AL
set_option linter.unusedSimpArgs false
set_option linter.unusedVariables false
set_option maxRecDepth 20000

def fixR (r : Int) : Int := if Utf8.valid r = true then r else 65533
theorem valid_of {r : Int} (h : Utf8.valid r = true) : 0 ≤ r ∧ r < 55296 ∨ 57344 ≤ r ∧ r ≤ 1114111 := by
  simpa [Utf8.valid] using h
theorem valid_mk {r : Int} (h : 0 ≤ r ∧ r < 55296 ∨ 57344 ≤ r ∧ r ≤ 1114111) : Utf8.valid r = true := by
  simpa [Utf8.valid] using h
theorem valid_fix (r : Int) : Utf8.valid (fixR r) = true := by
  unfold fixR; split
  · assumption
  · rfl
theorem fix_valid {r : Int} (h : Utf8.valid r = true) : fixR r = r := if_pos h
theorem fix_fix (r : Int) : fixR (fixR r) = fixR r := fix_valid (valid_fix r)
def encN (c : Nat) : Txt :=
  if c < 128 then [UInt8.ofNat c]
  else if c < 2048 then [UInt8.ofNat (192 + c / 64), UInt8.ofNat (128 + c % 64)]
  else if c < 65536 then [UInt8.ofNat (224 + c / 4096), UInt8.ofNat (128 + c / 64 % 64), UInt8.ofNat (128 + c % 64)]
  else [UInt8.ofNat (240 + c / 262144), UInt8.ofNat (128 + c / 4096 % 64), UInt8.ofNat (128 + c / 64 % 64), UInt8.ofNat (128 + c % 64)]
theorem encA_N (r : Int) : encA r = encN (fixR r).toNat := by
  unfold encA Utf8.encode encN fixR
  dsimp only
  have : (if Utf8.valid r = true then r.toNat else Utf8.runeError) = (if Utf8.valid r = true then r else 65533).toNat := by
    split <;> rfl
  rw [this]
  generalize (if Utf8.valid r = true then r else 65533).toNat = c
  split
  · rfl
  · split
    · rfl
    · split <;> rfl
theorem encA_fix (r : Int) : encA (fixR r) = encA r := by rw [encA_N, encA_N, fix_fix]
theorem encN_len (c : Nat) : 1 ≤ (encN c).length ∧ (encN c).length ≤ 4 := by
  unfold encN
  repeat' split
  all_goals simp
theorem encA_len (r : Int) : (encA r).length ≤ 4 := by rw [encA_N]; exact (encN_len _).2
theorem encA_pos (r : Int) : 1 ≤ (encA r).length := by rw [encA_N]; exact (encN_len _).1
theorem getD_c0 (a : UInt8) (l : Txt) : (a :: l).getD 0 0 = a := rfl
theorem getD_c1 (a b : UInt8) (l : Txt) : (a :: b :: l).getD 1 0 = b := rfl
theorem getD_c2 (a b c : UInt8) (l : Txt) : (a :: b :: c :: l).getD 2 0 = c := rfl
theorem getD_c3 (a b c d : UInt8) (l : Txt) : (a :: b :: c :: d :: l).getD 3 0 = d := rfl
theorem decN_enc (c : Nat) (hc : c < 55296 ∨ 57344 ≤ c ∧ c ≤ 1114111) (t : Txt) : Lib.decodeL (encN c ++ t) = (c, (encN c).length) := by
  have tn : ∀ n : Nat, (UInt8.ofNat n).toNat = n % 256 := fun n => by simp
  rw [Lib.decodeL_N]
  unfold encN
  split
  · rename_i h
    simp only [List.cons_append, List.nil_append, getD_c0, tn]
    unfold Lib.decodeN
    rw [if_pos (by omega)]
    show (c % 256, 1) = (c, 1)
    rw [Nat.mod_eq_of_lt (by omega)]
  · split
    · rename_i h1 h2
      have e1 : (192 + c / 64) % 256 = 192 + c / 64 := Nat.mod_eq_of_lt (by omega)
      have e2 : (128 + c % 64) % 256 = 128 + c % 64 := Nat.mod_eq_of_lt (by omega)
      simp only [List.cons_append, List.nil_append, getD_c0, getD_c1, getD_c2, getD_c3, tn, e1, e2, List.length_cons, List.length_nil]
      unfold Lib.decodeN
      rw [if_neg (by omega), if_pos ⟨by omega, by omega, by omega⟩, if_pos (by omega)]
      simp only [Prod.mk.injEq]
      exact ⟨by omega, trivial⟩
    · split
      · rename_i h1 h2 h3
        have e1 : (224 + c / 4096) % 256 = 224 + c / 4096 := Nat.mod_eq_of_lt (by omega)
        have e2 : (128 + c / 64 % 64) % 256 = 128 + c / 64 % 64 := Nat.mod_eq_of_lt (by omega)
        have e3 : (128 + c % 64) % 256 = 128 + c % 64 := Nat.mod_eq_of_lt (by omega)
        simp only [List.cons_append, List.nil_append, getD_c0, getD_c1, getD_c2, getD_c3, tn, e1, e2, e3, List.length_cons, List.length_nil]
        unfold Lib.decodeN
        rw [if_neg (by omega), if_neg (by omega), if_pos ⟨by omega, ⟨by omega, by omega⟩, by omega, by omega⟩, if_pos ⟨by omega, by omega⟩]
        simp only [Prod.mk.injEq]
        exact ⟨by omega, trivial⟩
      · rename_i h1 h2 h3
        have e1 : (240 + c / 262144) % 256 = 240 + c / 262144 := Nat.mod_eq_of_lt (by omega)
        have e2 : (128 + c / 4096 % 64) % 256 = 128 + c / 4096 % 64 := Nat.mod_eq_of_lt (by omega)
        have e3 : (128 + c / 64 % 64) % 256 = 128 + c / 64 % 64 := Nat.mod_eq_of_lt (by omega)
        have e4 : (128 + c % 64) % 256 = 128 + c % 64 := Nat.mod_eq_of_lt (by omega)
        simp only [List.cons_append, List.nil_append, getD_c0, getD_c1, getD_c2, getD_c3, tn, e1, e2, e3, e4, List.length_cons, List.length_nil]
        unfold Lib.decodeN
        rw [if_neg (by omega), if_neg (by omega), if_neg (by omega), if_pos ⟨by omega, ⟨by omega, by omega⟩, ⟨by omega, by omega⟩, by omega, by omega⟩, if_pos ⟨by omega, by omega⟩]
        simp only [Prod.mk.injEq]
        exact ⟨by omega, trivial⟩
theorem dec_enc (r : Int) (t : Txt) : Lib.decodeL (encA r ++ t) = ((fixR r).toNat, (encA r).length) := by
  have hv := valid_of (valid_fix r)
  rw [encA_N]
  exact decN_enc _ (by omega) t
theorem decR_L (s : Txt) (p : Nat) : decR s p = ((Lib.decodeL (s.drop p)).1 : Int) := by
  have := Lib.decodeL_drop ⟨s.toArray⟩ p
  show ((Utf8.decode ⟨s.toArray⟩ p).1 : Int) = _
  rw [← this]
theorem decW_L (s : Txt) (p : Nat) : decW s p = (Lib.decodeL (s.drop p)).2 := by
  have := Lib.decodeL_drop ⟨s.toArray⟩ p
  show (Utf8.decode ⟨s.toArray⟩ p).2 = _
  rw [← this]
theorem restR_drop (s : Txt) : ∀ (n p : Nat), s.length ≤ p + n → restR s p = runeL (s.drop p)
  | n, p, h => by
    by_cases hp : p < s.length
    · have h0 : 0 < (s.drop p).length := by rw [List.length_drop]; omega
      rw [runeL_rest, restR_step hp, restR_step h0, decR_L, decR_L, decW_L, decW_L, List.drop_zero, Nat.zero_add]
      congr 1
      have hw : 1 ≤ (Lib.decodeL (s.drop p)).2 := by have := decW_pos hp; rwa [decW_L] at this
      have hb : ∀ m, 1 ≤ m → m ≤ (s.drop p).length → restR s (p + m) = restR (s.drop p) m := by
        intro m h1 h2
        cases n with
        | zero => omega
        | succ n =>
          rw [restR_drop s n (p + m) (by omega), restR_drop (s.drop p) n m (by rw [List.length_drop]; omega), List.drop_drop]
      refine hb _ hw ?_
      have := decW_le hp
      rw [decW_L] at this
      rw [List.length_drop]; omega
    · rw [restR_end (by omega), List.drop_eq_nil_of_le (by omega)]; rfl
termination_by n => n
theorem runeL_nil : runeL [] = [] := rfl
theorem runeL_cons {s : Txt} (h : s ≠ []) : runeL s = ((Lib.decodeL s).1 : Int) :: runeL (s.drop (Lib.decodeL s).2) := by
  have h0 : 0 < s.length := List.length_pos_iff.2 h
  rw [runeL_rest, restR_step h0, decR_L, decW_L, List.drop_zero, Nat.zero_add, restR_drop s s.length _ (by omega)]
theorem runeL_enc (r : Int) (t : Txt) : runeL (encA r ++ t) = fixR r :: runeL t := by
  have hp := encA_pos r
  rw [runeL_cons (by intro h; have := congrArg List.length h; rw [List.length_append, List.length_nil] at this; omega), dec_enc, List.drop_left]
  have := valid_of (valid_fix r)
  congr 1
  show (((fixR r).toNat : Nat) : Int) = fixR r
  omega
theorem runeL_txt : ∀ (l : List Int) (t : Txt), runeL (txtR l ++ t) = l.map fixR ++ runeL t
  | [], t => rfl
  | r :: l, t => by
    have : txtR (r :: l) = encA r ++ txtR l := rfl
    rw [this, List.append_assoc, runeL_enc, runeL_txt l t]; rfl
theorem runeL_txt' (l : List Int) : runeL (txtR l) = l.map fixR := by
  have := runeL_txt l []
  rw [List.append_nil, runeL_nil, List.append_nil] at this
  exact this
theorem txtR_append (a b : List Int) : txtR (a ++ b) = txtR a ++ txtR b := by simp [txtR]
theorem dec_valid (s : Txt) : Utf8.valid ((Lib.decodeL s).1 : Int) = true := by
  refine valid_mk ?_
  rw [Lib.decodeL_N]
  have k0 := (s.getD 0 0).toNat_lt
  rcases Lib.decodeN_shape s.length (s.getD 0 0).toNat (s.getD 1 0).toNat (s.getD 2 0).toNat (s.getD 3 0).toNat with ⟨c, e⟩ | ⟨c1, c2, c3, cv, e⟩ | ⟨c1, c2, c3, c4, cv, cs, e⟩ | ⟨c1, c2, c3, c4, c5, cv, cw, e⟩ | e
  all_goals rw [e]; dsimp only; omega
theorem runeL_valid : ∀ (n : Nat) (s : Txt), s.length ≤ n → ∀ r ∈ runeL s, Utf8.valid r = true
  | n, s, hn, r, hr => by
    by_cases h : s = []
    · subst h; cases hr
    · rw [runeL_cons h] at hr
      have h0 : 0 < s.length := List.length_pos_iff.2 h
      have hw : 1 ≤ (Lib.decodeL s).2 := by have := decW_pos h0; rwa [decW_L, List.drop_zero] at this
      rcases List.mem_cons.1 hr with rfl | hr
      · exact dec_valid s
      · cases n with
        | zero => omega
        | succ n => exact runeL_valid n _ (by rw [List.length_drop]; omega) r hr
termination_by n => n
theorem runeL_fix (s : Txt) : (runeL s).map fixR = runeL s := by
  conv => rhs; rw [← List.map_id (runeL s)]
  exact List.map_congr_left fun r hr => fix_valid (runeL_valid _ s (Nat.le_refl _) r hr)
end Go.AL
end
