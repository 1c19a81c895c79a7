/-
  The texts B0, Qm, Qe, Qr, Qc, Qu, Qd, Qs, Qf, Vm, Vb, Ve, Vr, Vc, Vd, Vf, Vh, Vi, Pm, Pe of this seat, one behind the other.
-/
import Derived.Test.YtbghpjamahgegaaZ4
import Derived.Test.YtbghpjamahgegaaRows
import Derived.KernelRfl
import Derived.Lib.TrimUEq
import Derived.Lib.MapLaws
import Derived.Laws.BitsAllLaws

section
namespace Go.Proofs.Ytbghpjamahgegaa
open Go.AL
theorem hmix : Try.prog.follows .mixedOrders = true := by kernel_rfl
theorem hown : ownKnob Try.prog.godebug = none := by kernel_rfl
end Go.Proofs.Ytbghpjamahgegaa
end

section
namespace Go.AL
set_option linter.unusedSimpArgs false
set_option linter.unusedVariables false

abbrev Txt := List UInt8
def strIs : AVal → Bool
  | .str _ => true
  | _ => false
@[simp] theorem strv_is (l : List Txt) : (strv l).all strIs = true := by simp [strv, strIs]
@[simp] theorem map_strOf_strv (l : List Txt) : (strv l).map AVal.strOf = l := by
  simp only [strv, List.map_map]
  conv => rhs; rw [← List.map_id l]
  exact List.map_congr_left fun b _ => rfl
theorem strv_of {es : List AVal} (h : es.all strIs = true) : es = strv (es.map AVal.strOf) := by
  induction es with
  | nil => rfl
  | cons e es ih =>
    simp only [List.all_cons, Bool.and_eq_true] at h
    have h1 := h.1
    unfold strIs at h1
    split at h1
    · have := ih h.2
      simp only [strv, List.map_cons] at this ⊢
      rw [← this]
      rfl
    · cases h1
theorem wk_strv {s : Nat} {es : List AVal} (t : Tag) (hn : okW 1 s es = true) (h : es.all strIs = true) : Wk (.slice es s t) (.slice (strv (es.map AVal.strOf)) 1 .ro) := by
  rw [← strv_of h]
  exact wkW t hn
theorem strv_noOut (n : Nat) (l : List Txt) : noOutL n (strv l) = true := noOutL_map n (fun _ => rfl) l
theorem strv_noTok (n : Nat) (l : List Txt) : noTokL n (strv l) = true := noTokL_map n (fun _ => rfl) l
theorem strv_noLoc (l : List Txt) : noLocL (strv l) = true := noLocL_map (fun _ => rfl) l
/-- Runes as values. -/
def rv (l : List Int) : List AVal := l.map (AVal.int .i32)
/-- Bools as values. -/
def bvv (l : List Bool) : List AVal := l.map AVal.bool
@[simp] theorem rv_length (l : List Int) : (rv l).length = l.length := by simp [rv]
@[simp] theorem bvv_length (l : List Bool) : (bvv l).length = l.length := by simp [bvv]
def isI32 : AVal → Bool
  | .int .i32 _ => true
  | _ => false
@[simp] theorem rv_is (l : List Int) : (rv l).all isI32 = true := by simp [rv, isI32]
@[simp] theorem map_intOf_rv (l : List Int) : (rv l).map AVal.intOf = l := by
  simp only [rv, List.map_map]
  conv => rhs; rw [← List.map_id l]
  exact List.map_congr_left fun b _ => rfl
theorem rv_of {es : List AVal} (h : es.all isI32 = true) : es = rv (es.map AVal.intOf) := by
  unfold rv
  rw [List.map_map]
  conv => lhs; rw [← List.map_id es]
  refine List.map_congr_left fun e he => ?_
  have := List.all_eq_true.1 h e he
  cases e <;> simp [isI32] at this
  rename_i k n
  cases k <;> simp at this
  rfl
theorem elemAt_rv (l : List Int) (i : Nat) (h : i < l.length) : elemAt (rv l) (i : Int) = [.int .i32 l[i]] := elemAt_map (AVal.int .i32) l i h
theorem elemAt_bvv (l : List Bool) (i : Nat) (h : i < l.length) : elemAt (bvv l) (i : Int) = [.bool l[i]] := elemAt_map AVal.bool l i h
theorem rv_append (a b : List Int) : rv (a ++ b) = rv a ++ rv b := by simp [rv]
theorem bvv_append (a b : List Bool) : bvv (a ++ b) = bvv a ++ bvv b := by simp [bvv]
theorem rv_noOut (n : Nat) (l : List Int) : noOutL n (rv l) = true := noOutL_map n (fun _ => rfl) l
theorem rv_noTok (n : Nat) (l : List Int) : noTokL n (rv l) = true := noTokL_map n (fun _ => rfl) l
theorem wk_rv {es : List AVal} {s : Nat} (t : Tag) (hn : okW 1 s es = true) (h : es.all isI32 = true) : Wk (.slice es s t) (.slice (rv (es.map AVal.intOf)) 1 .ro) := by
  rw [rv, List.map_map]
  refine wkW_map t hn fun e he => ?_
  have := List.all_eq_true.1 h e he
  cases e <;> simp [isI32] at this
  rename_i k n
  cases k <;> simp at this
  exact ⟨.refl _, rfl⟩

/-! ### A text from a place on -/
/-- The runes from a place on. -/
def restR (s : Txt) (p : Nat) : List Int := runeF ⟨s.toArray⟩ s.length p
theorem sizeT (s : Txt) : (ByteArray.mk s.toArray).size = s.length := by simp [ByteArray.size]
theorem runeF_fuel (s : ByteArray) : ∀ (f g i : Nat), s.size ≤ i + f → s.size ≤ i + g → (∀ p, p < s.size → 1 ≤ (Utf8.decode s p).2) → runeF s f i = runeF s g i
  | 0, g, i, h1, h2, hw => by
    cases g with
    | zero => rfl
    | succ g => rw [runeF, runeF, if_neg (by omega)]
  | f + 1, 0, i, h1, h2, hw => by rw [runeF, runeF, if_neg (by omega)]
  | f + 1, g + 1, i, h1, h2, hw => by
    rw [runeF, runeF]
    split
    · rename_i hi
      have := hw i hi
      rw [runeF_fuel s f g _ (by omega) (by omega) hw]
    · rfl
theorem width_pos (s : ByteArray) (pos : Nat) (h : pos < s.size) : 1 ≤ (Utf8.decode s pos).2 := by
  by_cases ha : (s[pos]'h).toNat < 128
  · rw [decode_ascii s pos h ha]
    exact Nat.le_refl _
  · exact (decode_high s pos h (by omega)).2
theorem decode_wid (s : ByteArray) (pos : Nat) (h : pos < s.size) : pos + (Utf8.decode s pos).2 ≤ s.size := by
  unfold Utf8.decode
  dsimp only
  split
  · show pos + 1 ≤ s.size; omega
  · split
    · rename_i h1
      simp only [Bool.and_eq_true, decide_eq_true_eq] at h1
      split
      · show pos + 2 ≤ s.size; omega
      · show pos + 1 ≤ s.size; omega
    · split
      · rename_i h1
        simp only [Bool.and_eq_true, decide_eq_true_eq] at h1
        split
        · show pos + 3 ≤ s.size; omega
        · show pos + 1 ≤ s.size; omega
      · split
        · rename_i h1
          simp only [Bool.and_eq_true, decide_eq_true_eq] at h1
          split
          · show pos + 4 ≤ s.size; omega
          · show pos + 1 ≤ s.size; omega
        · show pos + 1 ≤ s.size; omega
theorem restR_step {s : Txt} {p : Nat} (h : p < s.length) : restR s p = decR s p :: restR s (p + decW s p) := by
  unfold restR decR decW
  have hw : ∀ q, q < (ByteArray.mk s.toArray).size → 1 ≤ (Utf8.decode ⟨s.toArray⟩ q).2 := fun q hq => width_pos _ q hq
  have h1 := hw p (by rw [sizeT]; exact h)
  rw [runeF_fuel ⟨s.toArray⟩ s.length (s.length + 1) p (by rw [sizeT]; omega) (by rw [sizeT]; omega) hw, runeF, if_pos (by rw [sizeT]; exact h)]
theorem restR_end {s : Txt} {p : Nat} (h : s.length ≤ p) : restR s p = [] := by
  unfold restR
  cases s.length with
  | zero => rfl
  | succ n => rw [runeF, if_neg (by rw [sizeT]; omega)]
theorem runeL_rest (s : Txt) : runeL s = restR s 0 := rfl
theorem decW_pos {s : Txt} {p : Nat} (h : p < s.length) : 1 ≤ decW s p := width_pos _ p (by rw [sizeT]; exact h)
theorem decW_le {s : Txt} {p : Nat} (h : p < s.length) : p + decW s p ≤ s.length := by
  have := decode_wid ⟨s.toArray⟩ p (by rw [sizeT]; exact h)
  rw [sizeT] at this
  exact this
theorem restR_len (s : Txt) (p : Nat) : (restR s p).length ≤ s.length := runeF_length _ _ _
theorem runeL_len (s : Txt) : (runeL s).length ≤ s.length := runeF_length _ _ _

/-! ### Names, folds, cuts -/
def letB (r : Int) : Bool := decide (97 ≤ r ∧ r ≤ 122 ∨ 65 ≤ r ∧ r ≤ 90 ∨ r = 95 ∨ 192 ≤ r ∧ r ≤ 591 ∧ r ≠ 215 ∧ r ≠ 247)
def digB (r : Int) : Bool := decide (48 ≤ r ∧ r ≤ 57)
def nameR : List Int → Bool
  | [] => false
  | r :: l => letB r && (l.all fun x => letB x || digB x) && decide (l.length ≤ 31)
def nameT (s : Txt) : Bool := nameR (runeL s)
def fdR (r : Int) : Int := if 65 ≤ r ∧ r ≤ 90 ∨ 192 ≤ r ∧ r ≤ 222 ∧ r ≠ 215 then r + 32 else r
/-- Where the k-th rune begins. -/
def posT (s : Txt) : Nat → Nat → Nat
  | 0, p => p
  | k + 1, p => if p < s.length then posT s k (p + decW s p) else p
def cutT (s : Txt) (n : Int) : Txt := s.take (posT s n.toNat 0)
def cmpR : List Int → List Int → Int
  | [], [] => 0
  | [], _ :: _ => -1
  | _ :: _, [] => 1
  | x :: a, y :: b => if x < y then -1 else if y < x then 1 else cmpR a b
/-! ### Patterns: which first runes fit -/
/-- A row behind one more of the pattern. -/
def rowB (t : List Int) (p : Int) (f : List Bool) (i : Nat) : Bool :=
  if p = 42 then (f.take (i + 1)).any id else decide (0 < i) && ((p == 63 || p == t.getD (i - 1) 0) && f.getD (i - 1) false)
def rowF (t : List Int) (p : Int) (f : List Bool) : List Bool := (List.range (t.length + 1)).map (rowB t p f)
def row0 (t : List Int) : List Bool := (List.range (t.length + 1)).map fun i => decide (i = 0)
def rowsF (t pat : List Int) : List Bool := pat.foldl (fun f p => rowF t p f) (row0 t)
def likeR (t pat : List Int) : Bool := (rowsF t pat).getD t.length false
/-! ### Quotes -/
def quoR (r : Int) : Txt := (if r = 34 ∨ r = 92 then [92] else []) ++ (if r = 10 then [92, 110] else encA r)
def quoT (s : Txt) : Txt := 34 :: ((runeL s).flatMap quoR ++ [34])
/-- Read byte by byte. -/
def unqF : Txt → Txt
  | [] => []
  | [c] => [c]
  | c :: d :: r => if c = 92 then (if d = 110 then 10 else d) :: unqF r else c :: unqF (d :: r)
/-- The bytes from place i up to the last. -/
def remT (s : Txt) (i : Nat) : Txt := (s.drop i).take (s.length - 1 - i)
def unqT (s : Txt) : Txt × Bool :=
  if s.length < 2 then ([], false) else (unqF (remT s 1), quoT (unqF (remT s 1)) == s)
def txtR (l : List Int) : Txt := l.flatMap encA
end Go.AL
end

section
set_option linter.unusedVariables false
namespace Go.Proofs.Ytbghpjamahgegaa.Lt
open Go.AL
noncomputable section
def lenT (s : Txt) : Bool := hold (decide (s.length ≤ 1000000))
def lenOk (n : Nat) : Bool := hold (decide (n ≤ 140737488351232))
def i64r (n : Int) : Bool := hold (@decide (-9223372036854775808 ≤ n ∧ n ≤ 9223372036854775807) (Classical.propDecidable _))
def letE : Ent := (60, fun xs _ => match xs with
  | [.int .i32 r] => some (.pure true (.bool (hold (letB r))))
  | _ => none)
def letRE : Ent := (48, fun xs _ => match xs with
  | [.int .i32 r] => some (.pure true (.bool (hold (letB r))))
  | _ => none)
def wrongE : Ent := (51, fun xs _ => match xs with
  | [.str s] => some (.pure (lenT s) (.bool (hold (!nameT s))))
  | _ => none)
def isWrong (g : FuncId) : Bool := Nat.beq g 51
def strOk (v : AVal) : Bool := match v with | .str s => lenT s | _ => false
def indexFE : Ent := (59, fun xs _ => match xs with
  | [.slice es s t, .func (.func g) [] []] => some (.nm ((es.map AVal.strOf).all nameT) fun y => .nm (if y then -1 else ((es.map AVal.strOf).findIdx (fun x => !nameT x) : Int)) fun i => .pure (isWrong g && (okW 1 s es && (es.all strIs && (lenOk es.length && es.all strOk)))) (.int .i64 i))
  | _ => none)
def containsFE : Ent := (50, fun xs _ => match xs with
  | [.slice es s t, .func (.func g) [] []] => some (.pure (isWrong g && (okW 1 s es && (es.all strIs && (lenOk es.length && es.all strOk)))) (.bool (hold (!(es.map AVal.strOf).all nameT))))
  | _ => none)
def rightE : Ent := (33, fun xs _ => match xs with
  | [.slice es s t] => some (.pure (okW 1 s es && (es.all strIs && (lenOk es.length && es.all strOk))) (.bool (hold ((es.map AVal.strOf).all nameT))))
  | _ => none)
def nanE : Ent := (66, fun xs _ => match xs with
  | [.int .i32 r] => some (.pure true (.bool false))
  | _ => none)
def cmpE : Ent := (64, fun xs _ => match xs with
  | [.int .i32 a, .int .i32 b] => some (.nm (if a < b then (-1 : Int) else if b < a then 1 else 0) fun y => .pure true (.int .i64 y))
  | _ => none)
def compareSE : Ent := (62, fun xs _ => match xs with
  | [.slice es s t, .slice fs s' t'] => some (.nm (cmpR (es.map AVal.intOf) (fs.map AVal.intOf)) fun y => .pure (okW 1 s es && (okW 1 s' fs && (es.all isI32 && (fs.all isI32 && (lenOk es.length && lenOk fs.length))))) (.int .i64 y))
  | _ => none)
def compareE : Ent := (54, fun xs _ => match xs with
  | [.str a, .str b] => some (.nm (cmpR (runeL a) (runeL b)) fun y => .pure (lenT a && lenT b) (.int .i64 y))
  | _ => none)
/-- The references. -/
def runesE : Ent := (47, fun xs _ => match xs with
  | [.str s] => some (.nm (runeL s) fun y => .pure (lenT s) (.slice (rv y) 1 .ro))
  | _ => none)
def rightRE : Ent := (27, fun xs _ => match xs with
  | [.str s] => some (.pure (lenT s) (.bool (hold (nameT s))))
  | _ => none)
def compareRE : Ent := (29, fun xs _ => match xs with
  | [.str a, .str b] => some (.nm (cmpR (runeL a) (runeL b)) fun y => .pure (lenT a && lenT b) (.int .i64 y))
  | _ => none)
end
end Go.Proofs.Ytbghpjamahgegaa.Lt
end

section
set_option maxRecDepth 100000
set_option maxHeartbeats 0
set_option linter.unusedVariables false
namespace Go.Proofs.Ytbghpjamahgegaa.Lt
open Go.AL Go.Proofs
noncomputable def cLet : Cfg := { keep := [0, 2], cut := [] }
noncomputable def cLetR : Cfg := { keep := [0, 2, 20], cut := [] }
noncomputable def cWrong : Cfg := { keep := [0, 2, 3, 5, 7, 8, 9, 25], cut := [(7, [3, 7], [7]), (16, [3], [])], orc := ofList [letE] }
noncomputable def cIndexF : Cfg := { keep := [0, 1, 4, 5, 7, 8, 9, 16], cut := [(5, [0, 1, 7, 8], [])], orc := ofList [wrongE] }
noncomputable def cContainsF : Cfg := { keep := [0, 1, 4], cut := [], orc := ofList [indexFE] }
noncomputable def cRight : Cfg := { keep := [0, 2], cut := [], orc := ofList [containsFE] }
noncomputable def cNan : Cfg := { keep := [0, 2], cut := [] }
noncomputable def cCmp : Cfg := { keep := [0, 1, 4, 5, 6, 11, 12, 13, 16, 19], cut := [], orc := ofList [nanE] }
noncomputable def cCompareS : Cfg := { keep := [0, 1, 4, 5, 6, 7, 8, 9, 10, 11, 12, 19, 28, 35], cut := [(5, [0, 1, 9, 10, 11], []), (20, [0, 1, 9, 10, 11], []), (22, [0, 1], [])], orc := ofList [cmpE] }
noncomputable def cCompare : Cfg := { keep := [0, 1, 4], cut := [], orc := ofList [compareSE] }
noncomputable def cRunes : Cfg := { keep := [0, 2, 3, 5, 7, 8, 9], cut := [(7, [3, 7], [7]), (12, [3], [])], grow := [(3, 1)] }
noncomputable def code_33_ : Code := (Try.f33.body).getD .skip
noncomputable def code_47_ : Code := (Try.f47.body).getD .skip
noncomputable def code_48_ : Code := (Try.f48.body).getD .skip
noncomputable def code_50_ : Code := (Try.f50.body).getD .skip
noncomputable def code_51_ : Code := (Try.f51.body).getD .skip
noncomputable def code_54_ : Code := (Try.f54.body).getD .skip
noncomputable def code_59_ : Code := (Try.f59.body).getD .skip
noncomputable def code_60_ : Code := (Try.f60.body).getD .skip
noncomputable def code_62_ : Code := (Try.f62.body).getD .skip
noncomputable def code_64_ : Code := (Try.f64.body).getD .skip
noncomputable def code_66_ : Code := (Try.f66.body).getD .skip
noncomputable def code_59_1_1 : Code := codeAt code_59_ [1, 1]
noncomputable def code_62_1_1 : Code := codeAt code_62_ [1, 1]
noncomputable def code_47_1_1_1 : Code := codeAt code_47_ [1, 1, 1]
noncomputable def code_51_1_1_1 : Code := codeAt code_51_ [1, 1, 1]
noncomputable def code_59_1_0_1_0_0 : Code := codeAt code_59_ [1, 0, 1, 0, 0]
noncomputable def code_62_1_0_1_0_0 : Code := codeAt code_62_ [1, 0, 1, 0, 0]
noncomputable def code_47_1_1_0_1_0_0 : Code := codeAt code_47_ [1, 1, 0, 1, 0, 0]
noncomputable def code_51_1_1_0_1_0_0 : Code := codeAt code_51_ [1, 1, 0, 1, 0, 0]
noncomputable def code_62_1_0_1_0_0_1_1_1 : Code := codeAt code_62_ [1, 0, 1, 0, 0, 1, 1, 1]
theorem letter_r (r : Int) (Q : AVal → Sto → Prop) : vc Try.prog cLet code_60_ (endK Try.prog Try.f60.results.toList Q) (St.start Try.f60.ntmps [.int .i32 r] (Sto.empty)) =
  (brV (hold (decide ((97 : Int) ≤ r))) true (brV (hold (decide (r ≤ (122 : Int)))) false (brV (hold (decide ((65 : Int) ≤ r))) true (brV (hold (decide (r ≤ (90 : Int)))) false (brV (hold (r == (95 : Int))) false (brV (hold (decide ((192 : Int) ≤ r))) true (brV (hold (decide (r ≤ (591 : Int)))) true (brV (hold (r != (215 : Int))) true (Q (AVal.bool (hold (r != (247 : Int)))) Sto.empty) (Q (AVal.bool false) Sto.empty)) (Q (AVal.bool false) Sto.empty)) (Q (AVal.bool false) Sto.empty)) (Q (AVal.bool true) Sto.empty)) (Q (AVal.bool true) Sto.empty)) (brV (hold (r == (95 : Int))) false (brV (hold (decide ((192 : Int) ≤ r))) true (brV (hold (decide (r ≤ (591 : Int)))) true (brV (hold (r != (215 : Int))) true (Q (AVal.bool (hold (r != (247 : Int)))) Sto.empty) (Q (AVal.bool false) Sto.empty)) (Q (AVal.bool false) Sto.empty)) (Q (AVal.bool false) Sto.empty)) (Q (AVal.bool true) Sto.empty))) (Q (AVal.bool true) Sto.empty)) (brV (hold (decide ((65 : Int) ≤ r))) true (brV (hold (decide (r ≤ (90 : Int)))) false (brV (hold (r == (95 : Int))) false (brV (hold (decide ((192 : Int) ≤ r))) true (brV (hold (decide (r ≤ (591 : Int)))) true (brV (hold (r != (215 : Int))) true (Q (AVal.bool (hold (r != (247 : Int)))) Sto.empty) (Q (AVal.bool false) Sto.empty)) (Q (AVal.bool false) Sto.empty)) (Q (AVal.bool false) Sto.empty)) (Q (AVal.bool true) Sto.empty)) (Q (AVal.bool true) Sto.empty)) (brV (hold (r == (95 : Int))) false (brV (hold (decide ((192 : Int) ≤ r))) true (brV (hold (decide (r ≤ (591 : Int)))) true (brV (hold (r != (215 : Int))) true (Q (AVal.bool (hold (r != (247 : Int)))) Sto.empty) (Q (AVal.bool false) Sto.empty)) (Q (AVal.bool false) Sto.empty)) (Q (AVal.bool false) Sto.empty)) (Q (AVal.bool true) Sto.empty)))) := by kernel_rfl
theorem letter_i (r : Int) (Q : AVal → Sto → Prop) (ho : OrcOk Try.prog cLet) (h : brV (hold (decide ((97 : Int) ≤ r))) true (brV (hold (decide (r ≤ (122 : Int)))) false (brV (hold (decide ((65 : Int) ≤ r))) true (brV (hold (decide (r ≤ (90 : Int)))) false (brV (hold (r == (95 : Int))) false (brV (hold (decide ((192 : Int) ≤ r))) true (brV (hold (decide (r ≤ (591 : Int)))) true (brV (hold (r != (215 : Int))) true (Q (AVal.bool (hold (r != (247 : Int)))) Sto.empty) (Q (AVal.bool false) Sto.empty)) (Q (AVal.bool false) Sto.empty)) (Q (AVal.bool false) Sto.empty)) (Q (AVal.bool true) Sto.empty)) (Q (AVal.bool true) Sto.empty)) (brV (hold (r == (95 : Int))) false (brV (hold (decide ((192 : Int) ≤ r))) true (brV (hold (decide (r ≤ (591 : Int)))) true (brV (hold (r != (215 : Int))) true (Q (AVal.bool (hold (r != (247 : Int)))) Sto.empty) (Q (AVal.bool false) Sto.empty)) (Q (AVal.bool false) Sto.empty)) (Q (AVal.bool false) Sto.empty)) (Q (AVal.bool true) Sto.empty))) (Q (AVal.bool true) Sto.empty)) (brV (hold (decide ((65 : Int) ≤ r))) true (brV (hold (decide (r ≤ (90 : Int)))) false (brV (hold (r == (95 : Int))) false (brV (hold (decide ((192 : Int) ≤ r))) true (brV (hold (decide (r ≤ (591 : Int)))) true (brV (hold (r != (215 : Int))) true (Q (AVal.bool (hold (r != (247 : Int)))) Sto.empty) (Q (AVal.bool false) Sto.empty)) (Q (AVal.bool false) Sto.empty)) (Q (AVal.bool false) Sto.empty)) (Q (AVal.bool true) Sto.empty)) (Q (AVal.bool true) Sto.empty)) (brV (hold (r == (95 : Int))) false (brV (hold (decide ((192 : Int) ≤ r))) true (brV (hold (decide (r ≤ (591 : Int)))) true (brV (hold (r != (215 : Int))) true (Q (AVal.bool (hold (r != (247 : Int)))) Sto.empty) (Q (AVal.bool false) Sto.empty)) (Q (AVal.bool false) Sto.empty)) (Q (AVal.bool false) Sto.empty)) (Q (AVal.bool true) Sto.empty)))) : ACall Try.prog 60 [.int .i32 r] (Sto.empty) Q :=
  ACall.intro hmix Try.func60 (c := code_60_) (by kernel_rfl) cLet ho (Nat.le_of_ble_eq_true (by kernel_rfl)) (by rw [letter_r]; exact h)
theorem letterR_r (r : Int) (Q : AVal → Sto → Prop) : vc Try.prog cLetR code_48_ (endK Try.prog Try.f48.results.toList Q) (St.start Try.f48.ntmps [.int .i32 r] (Sto.empty)) =
  (brV (hold (decide ((97 : Int) ≤ r))) true (brV (hold (decide (r ≤ (122 : Int)))) false (brV (hold (decide ((65 : Int) ≤ r))) true (brV (hold (decide (r ≤ (90 : Int)))) false (brV (hold (r == (95 : Int))) true (Q (AVal.bool true) Sto.empty) (brV (hold (decide ((192 : Int) ≤ r))) true (brV (hold (decide (r ≤ (591 : Int)))) true (brV (hold (r != (215 : Int))) true (Q (AVal.bool (hold (r != (247 : Int)))) Sto.empty) (Q (AVal.bool false) Sto.empty)) (Q (AVal.bool false) Sto.empty)) (Q (AVal.bool false) Sto.empty))) (Q (AVal.bool true) Sto.empty)) (brV (hold (r == (95 : Int))) true (Q (AVal.bool true) Sto.empty) (brV (hold (decide ((192 : Int) ≤ r))) true (brV (hold (decide (r ≤ (591 : Int)))) true (brV (hold (r != (215 : Int))) true (Q (AVal.bool (hold (r != (247 : Int)))) Sto.empty) (Q (AVal.bool false) Sto.empty)) (Q (AVal.bool false) Sto.empty)) (Q (AVal.bool false) Sto.empty)))) (Q (AVal.bool true) Sto.empty)) (brV (hold (decide ((65 : Int) ≤ r))) true (brV (hold (decide (r ≤ (90 : Int)))) false (brV (hold (r == (95 : Int))) true (Q (AVal.bool true) Sto.empty) (brV (hold (decide ((192 : Int) ≤ r))) true (brV (hold (decide (r ≤ (591 : Int)))) true (brV (hold (r != (215 : Int))) true (Q (AVal.bool (hold (r != (247 : Int)))) Sto.empty) (Q (AVal.bool false) Sto.empty)) (Q (AVal.bool false) Sto.empty)) (Q (AVal.bool false) Sto.empty))) (Q (AVal.bool true) Sto.empty)) (brV (hold (r == (95 : Int))) true (Q (AVal.bool true) Sto.empty) (brV (hold (decide ((192 : Int) ≤ r))) true (brV (hold (decide (r ≤ (591 : Int)))) true (brV (hold (r != (215 : Int))) true (Q (AVal.bool (hold (r != (247 : Int)))) Sto.empty) (Q (AVal.bool false) Sto.empty)) (Q (AVal.bool false) Sto.empty)) (Q (AVal.bool false) Sto.empty))))) := by kernel_rfl
theorem letterR_i (r : Int) (Q : AVal → Sto → Prop) (ho : OrcOk Try.prog cLetR) (h : brV (hold (decide ((97 : Int) ≤ r))) true (brV (hold (decide (r ≤ (122 : Int)))) false (brV (hold (decide ((65 : Int) ≤ r))) true (brV (hold (decide (r ≤ (90 : Int)))) false (brV (hold (r == (95 : Int))) true (Q (AVal.bool true) Sto.empty) (brV (hold (decide ((192 : Int) ≤ r))) true (brV (hold (decide (r ≤ (591 : Int)))) true (brV (hold (r != (215 : Int))) true (Q (AVal.bool (hold (r != (247 : Int)))) Sto.empty) (Q (AVal.bool false) Sto.empty)) (Q (AVal.bool false) Sto.empty)) (Q (AVal.bool false) Sto.empty))) (Q (AVal.bool true) Sto.empty)) (brV (hold (r == (95 : Int))) true (Q (AVal.bool true) Sto.empty) (brV (hold (decide ((192 : Int) ≤ r))) true (brV (hold (decide (r ≤ (591 : Int)))) true (brV (hold (r != (215 : Int))) true (Q (AVal.bool (hold (r != (247 : Int)))) Sto.empty) (Q (AVal.bool false) Sto.empty)) (Q (AVal.bool false) Sto.empty)) (Q (AVal.bool false) Sto.empty)))) (Q (AVal.bool true) Sto.empty)) (brV (hold (decide ((65 : Int) ≤ r))) true (brV (hold (decide (r ≤ (90 : Int)))) false (brV (hold (r == (95 : Int))) true (Q (AVal.bool true) Sto.empty) (brV (hold (decide ((192 : Int) ≤ r))) true (brV (hold (decide (r ≤ (591 : Int)))) true (brV (hold (r != (215 : Int))) true (Q (AVal.bool (hold (r != (247 : Int)))) Sto.empty) (Q (AVal.bool false) Sto.empty)) (Q (AVal.bool false) Sto.empty)) (Q (AVal.bool false) Sto.empty))) (Q (AVal.bool true) Sto.empty)) (brV (hold (r == (95 : Int))) true (Q (AVal.bool true) Sto.empty) (brV (hold (decide ((192 : Int) ≤ r))) true (brV (hold (decide (r ≤ (591 : Int)))) true (brV (hold (r != (215 : Int))) true (Q (AVal.bool (hold (r != (247 : Int)))) Sto.empty) (Q (AVal.bool false) Sto.empty)) (Q (AVal.bool false) Sto.empty)) (Q (AVal.bool false) Sto.empty))))) : ACall Try.prog 48 [.int .i32 r] (Sto.empty) Q :=
  ACall.intro hmix Try.func48 (c := code_48_) (by kernel_rfl) cLetR ho (Nat.le_of_ble_eq_true (by kernel_rfl)) (by rw [letterR_r]; exact h)
theorem wrong_r (s : Txt) (Q : AVal → Sto → Prop) : vc Try.prog cWrong code_51_ (endK Try.prog Try.f51.results.toList Q) (St.start Try.f51.ntmps [.str s] (Sto.empty)) =
  (loopV (fun s => St.norm [] [3, 7] [7] s) (vc Try.prog cWrong code_51_1_1_0_1_0_0) (blockK 0 (thenK (fun s => cutV (vc Try.prog cWrong code_51_1_1_1 (endK Try.prog (Array.toList (Go.Func.results Try.f51)) Q)) (St.norm [] [3] [] s)) (endK Try.prog (Array.toList (Go.Func.results Try.f51)) Q))) (St.mk 34 [(3, AVal.int IntKind.i64 (0 : Int)), (7, AVal.ptr (Oid.loc 7) 0)] [] [(7, AObj.siter s 0)] Sto.empty)) := by kernel_rfl
theorem wrong_i (s : Txt) (Q : AVal → Sto → Prop) (ho : OrcOk Try.prog cWrong) (h : loopV (fun s => St.norm [] [3, 7] [7] s) (vc Try.prog cWrong code_51_1_1_0_1_0_0) (blockK 0 (thenK (fun s => cutV (vc Try.prog cWrong code_51_1_1_1 (endK Try.prog (Array.toList (Go.Func.results Try.f51)) Q)) (St.norm [] [3] [] s)) (endK Try.prog (Array.toList (Go.Func.results Try.f51)) Q))) (St.mk 34 [(3, AVal.int IntKind.i64 (0 : Int)), (7, AVal.ptr (Oid.loc 7) 0)] [] [(7, AObj.siter s 0)] Sto.empty)) : ACall Try.prog 51 [.str s] (Sto.empty) Q :=
  ACall.intro hmix Try.func51 (c := code_51_) (by kernel_rfl) cWrong ho (Nat.le_of_ble_eq_true (by kernel_rfl)) (by rw [wrong_r]; exact h)
noncomputable def wrongL_S (s : Txt) (n p : Nat) : St := St.mk 34 [(3, .int .i64 (n : Int)), (7, .ptr (.loc 7) 0)] [] [(7, .siter s p)] (Sto.empty)
noncomputable abbrev wrongL_C : Code := code_51_1_1_0_1_0_0
theorem wrongL_r (s : Txt) (n p : Nat) (L : St → Prop) (K : Exit → St → Prop) : vc Try.prog cWrong code_51_1_1_0_1_0_0 (thenK (fun s => L (St.norm [] [3, 7] [7] s)) K) (St.mk 34 [(3, .int .i64 (n : Int)), (7, .ptr (.loc 7) 0)] [] [(7, .siter s p)] (Sto.empty)) =
  (brV (hold (decide (p < List.length s))) true (brV (!hold (letB (decR s p))) true (brV (hold ((↑n : Int) == (0 : Int))) false (brV (hold (decide (decR s p < (48 : Int)))) false (brV (hold (decide ((57 : Int) < decR s p))) true (K Exit.ret (St.mk 34 [(3, AVal.int IntKind.i64 (↑n : Int)), (7, AVal.ptr (Oid.loc 7) 0), (8, AVal.tuple [AVal.bool true, AVal.int IntKind.i64 (↑p : Int), AVal.int IntKind.i32 (decR s p)]), (9, AVal.bool true), (5, AVal.int IntKind.i32 (decR s p)), (25, AVal.bool (hold (decide ((57 : Int) < decR s p)))), (2, AVal.bool true)] [] [(7, AObj.siter s (p + decW s p))] Sto.empty)) (L (St.mk 34 [(3, AVal.int IntKind.i64 (IntKind.wrap IntKind.i64 ((↑n : Int) + (1 : Int)))), (7, AVal.ptr (Oid.loc 7) 0)] [] [(7, AObj.siter s (p + decW s p))] Sto.empty))) (K Exit.ret (St.mk 34 [(3, AVal.int IntKind.i64 (↑n : Int)), (7, AVal.ptr (Oid.loc 7) 0), (8, AVal.tuple [AVal.bool true, AVal.int IntKind.i64 (↑p : Int), AVal.int IntKind.i32 (decR s p)]), (9, AVal.bool true), (5, AVal.int IntKind.i32 (decR s p)), (25, AVal.bool true), (2, AVal.bool true)] [] [(7, AObj.siter s (p + decW s p))] Sto.empty))) (K Exit.ret (St.mk 34 [(3, AVal.int IntKind.i64 (↑n : Int)), (7, AVal.ptr (Oid.loc 7) 0), (8, AVal.tuple [AVal.bool true, AVal.int IntKind.i64 (↑p : Int), AVal.int IntKind.i32 (decR s p)]), (9, AVal.bool true), (5, AVal.int IntKind.i32 (decR s p)), (25, AVal.bool true), (2, AVal.bool true)] [] [(7, AObj.siter s (p + decW s p))] Sto.empty))) (L (St.mk 34 [(3, AVal.int IntKind.i64 (IntKind.wrap IntKind.i64 ((↑n : Int) + (1 : Int)))), (7, AVal.ptr (Oid.loc 7) 0)] [] [(7, AObj.siter s (p + decW s p))] Sto.empty))) (K (Exit.exit 0) (St.mk 34 [(3, AVal.int IntKind.i64 (↑n : Int)), (7, AVal.ptr (Oid.loc 7) 0), (8, AVal.tuple [AVal.bool false]), (9, AVal.bool false)] [] [(7, AObj.siter s p)] Sto.empty))) := by kernel_rfl
noncomputable def wrongF_S (n : Nat) : St := St.mk 34 [(3, .int .i64 (n : Int))] [] [] (Sto.empty)
noncomputable abbrev wrongF_C : Code := code_51_1_1_1
theorem wrongF_r (n : Nat) (Q : AVal → Sto → Prop) : vc Try.prog cWrong code_51_1_1_1 (endK Try.prog Try.f51.results.toList Q) (St.mk 34 [(3, .int .i64 (n : Int))] [] [] (Sto.empty)) =
  (brV (hold ((↑n : Int) == (0 : Int))) false (Q (AVal.bool (hold (decide ((32 : Int) < (↑n : Int))))) Sto.empty) (Q (AVal.bool true) Sto.empty)) := by kernel_rfl
theorem indexF_r (l : List Txt) (Q : AVal → Sto → Prop) : vc Try.prog cIndexF code_59_ (endK Try.prog Try.f59.results.toList Q) (St.start Try.f59.ntmps [.slice (strv l) 1 .ro, .func (.func 51) [] []] (Sto.empty)) =
  (loopV (fun s => St.norm [] [0, 1, 7, 8] [] s) (vc Try.prog cIndexF code_59_1_0_1_0_0) (blockK 0 (thenK (vc Try.prog cIndexF code_59_1_1 (endK Try.prog (Array.toList (Go.Func.results Try.f59)) Q)) (endK Try.prog (Array.toList (Go.Func.results Try.f59)) Q))) (St.mk 19 [(0, AVal.slice (strv l) 1 Tag.ro), (1, AVal.func (Go.Fn.func 51) [] []), (7, AVal.int IntKind.i64 (↑(List.length (strv l)) : Int)), (8, AVal.int IntKind.i64 (0 : Int))] [] [] Sto.empty)) := by kernel_rfl
theorem indexF_i (l : List Txt) (Q : AVal → Sto → Prop) (ho : OrcOk Try.prog cIndexF) (h : loopV (fun s => St.norm [] [0, 1, 7, 8] [] s) (vc Try.prog cIndexF code_59_1_0_1_0_0) (blockK 0 (thenK (vc Try.prog cIndexF code_59_1_1 (endK Try.prog (Array.toList (Go.Func.results Try.f59)) Q)) (endK Try.prog (Array.toList (Go.Func.results Try.f59)) Q))) (St.mk 19 [(0, AVal.slice (strv l) 1 Tag.ro), (1, AVal.func (Go.Fn.func 51) [] []), (7, AVal.int IntKind.i64 (↑(List.length (strv l)) : Int)), (8, AVal.int IntKind.i64 (0 : Int))] [] [] Sto.empty)) : ACall Try.prog 59 [.slice (strv l) 1 .ro, .func (.func 51) [] []] (Sto.empty) Q :=
  ACall.intro hmix Try.func59 (c := code_59_) (by kernel_rfl) cIndexF ho (Nat.le_of_ble_eq_true (by kernel_rfl)) (by rw [indexF_r]; exact h)
noncomputable def indexFL_S (l : List Txt) (n i : Nat) : St := St.mk 19 [(0, .slice (strv l) 1 .ro), (1, .func (.func 51) [] []), (7, .int .i64 (n : Int)), (8, .int .i64 (i : Int))] [] [] (Sto.empty)
noncomputable abbrev indexFL_C : Code := code_59_1_0_1_0_0
theorem indexFL_r (l : List Txt) (n i : Nat) (L : St → Prop) (K : Exit → St → Prop) : vc Try.prog cIndexF code_59_1_0_1_0_0 (thenK (fun s => L (St.norm [] [0, 1, 7, 8] [] s)) K) (St.mk 19 [(0, .slice (strv l) 1 .ro), (1, .func (.func 51) [] []), (7, .int .i64 (n : Int)), (8, .int .i64 (i : Int))] [] [] (Sto.empty)) =
  (brV (hold (decide ((↑i : Int) < (↑n : Int)))) true (gb (decide ((0 : Int) ≤ (↑i : Int) ∧ (↑i : Int) < (↑(List.length (strv l)) : Int))) (gb (decide (1 ≤ List.length (elemAt (strv l) (↑i : Int)) ∧ 0 < 1) && etaOk Sh.str (List.getD (elemAt (strv l) (↑i : Int)) 0 AVal.undef)) (gb (lenT (AVal.strOf (List.getD (elemAt (strv l) (↑i : Int)) 0 AVal.undef))) (brV (hold !nameT (AVal.strOf (List.getD (elemAt (strv l) (↑i : Int)) 0 AVal.undef))) true (K Exit.ret (St.mk 19 [(0, AVal.slice (strv l) 1 Tag.ro), (1, AVal.func (Go.Fn.func 51) [] []), (7, AVal.int IntKind.i64 (↑n : Int)), (8, AVal.int IntKind.i64 (↑i : Int)), (9, AVal.bool (hold (decide ((↑i : Int) < (↑n : Int))))), (5, AVal.int IntKind.i64 (↑i : Int)), (16, AVal.bool (hold !nameT (AVal.strOf (List.getD (elemAt (strv l) (↑i : Int)) 0 AVal.undef)))), (4, AVal.int IntKind.i64 (↑i : Int))] [] [] Sto.empty)) (L (St.mk 19 [(0, AVal.slice (strv l) 1 Tag.ro), (1, AVal.func (Go.Fn.func 51) [] []), (7, AVal.int IntKind.i64 (↑n : Int)), (8, AVal.int IntKind.i64 (IntKind.wrap IntKind.i64 ((↑i : Int) + (1 : Int))))] [] [] Sto.empty)))))) (K (Exit.exit 0) (St.mk 19 [(0, AVal.slice (strv l) 1 Tag.ro), (1, AVal.func (Go.Fn.func 51) [] []), (7, AVal.int IntKind.i64 (↑n : Int)), (8, AVal.int IntKind.i64 (↑i : Int)), (9, AVal.bool (hold (decide ((↑i : Int) < (↑n : Int)))))] [] [] Sto.empty))) := by kernel_rfl
theorem containsF_r (l : List Txt) (Q : AVal → Sto → Prop) : vc Try.prog cContainsF code_50_ (endK Try.prog Try.f50.results.toList Q) (St.start Try.f50.ntmps [.slice (strv l) 1 .ro, .func (.func 51) [] []] (Sto.empty)) =
  (∀ (y : Bool), y = List.all (List.map AVal.strOf (strv l)) nameT → ∀ (y_1 : Int), (y_1 = if y = true then (-1 : Int) else (↑(List.findIdx (fun (x : Txt) ↦ !nameT x) (List.map AVal.strOf (strv l))) : Int)) → gb (List.all (strv l) strIs && (lenOk (List.length (strv l)) && List.all (strv l) strOk)) (Q (AVal.bool (hold (decide ((0 : Int) ≤ y_1)))) Sto.empty)) := by kernel_rfl
theorem containsF_i (l : List Txt) (Q : AVal → Sto → Prop) (ho : OrcOk Try.prog cContainsF) (h : ∀ (y : Bool), y = List.all (List.map AVal.strOf (strv l)) nameT → ∀ (y_1 : Int), (y_1 = if y = true then (-1 : Int) else (↑(List.findIdx (fun (x : Txt) ↦ !nameT x) (List.map AVal.strOf (strv l))) : Int)) → gb (List.all (strv l) strIs && (lenOk (List.length (strv l)) && List.all (strv l) strOk)) (Q (AVal.bool (hold (decide ((0 : Int) ≤ y_1)))) Sto.empty)) : ACall Try.prog 50 [.slice (strv l) 1 .ro, .func (.func 51) [] []] (Sto.empty) Q :=
  ACall.intro hmix Try.func50 (c := code_50_) (by kernel_rfl) cContainsF ho (Nat.le_of_ble_eq_true (by kernel_rfl)) (by rw [containsF_r]; exact h)
theorem right_r (l : List Txt) (Q : AVal → Sto → Prop) : vc Try.prog cRight code_33_ (endK Try.prog Try.f33.results.toList Q) (St.start Try.f33.ntmps [.slice (strv l) 1 .ro] (Sto.empty)) =
  (gb (List.all (strv l) strIs && (lenOk (List.length (strv l)) && List.all (strv l) strOk)) (Q (AVal.bool !hold !List.all (List.map AVal.strOf (strv l)) nameT) Sto.empty)) := by kernel_rfl
theorem right_i (l : List Txt) (Q : AVal → Sto → Prop) (ho : OrcOk Try.prog cRight) (h : gb (List.all (strv l) strIs && (lenOk (List.length (strv l)) && List.all (strv l) strOk)) (Q (AVal.bool !hold !List.all (List.map AVal.strOf (strv l)) nameT) Sto.empty)) : ACall Try.prog 33 [.slice (strv l) 1 .ro] (Sto.empty) Q :=
  ACall.intro hmix Try.func33 (c := code_33_) (by kernel_rfl) cRight ho (Nat.le_of_ble_eq_true (by kernel_rfl)) (by rw [right_r]; exact h)
theorem nan_r (r : Int) (Q : AVal → Sto → Prop) : vc Try.prog cNan code_66_ (endK Try.prog Try.f66.results.toList Q) (St.start Try.f66.ntmps [.int .i32 r] (Sto.empty)) =
  (Q (AVal.bool (hold (r != r))) Sto.empty) := by kernel_rfl
theorem nan_i (r : Int) (Q : AVal → Sto → Prop) (ho : OrcOk Try.prog cNan) (h : Q (AVal.bool (hold (r != r))) Sto.empty) : ACall Try.prog 66 [.int .i32 r] (Sto.empty) Q :=
  ACall.intro hmix Try.func66 (c := code_66_) (by kernel_rfl) cNan ho (Nat.le_of_ble_eq_true (by kernel_rfl)) (by rw [nan_r]; exact h)
theorem cmp_r (a b : Int) (Q : AVal → Sto → Prop) : vc Try.prog cCmp code_64_ (endK Try.prog Try.f64.results.toList Q) (St.start Try.f64.ntmps [.int .i32 a, .int .i32 b] (Sto.empty)) =
  (brV (hold (decide (a < b))) true (Q (AVal.int IntKind.i64 (-1 : Int)) Sto.empty) (brV (hold (decide (b < a))) true (Q (AVal.int IntKind.i64 (1 : Int)) Sto.empty) (Q (AVal.int IntKind.i64 (0 : Int)) Sto.empty))) := by kernel_rfl
theorem cmp_i (a b : Int) (Q : AVal → Sto → Prop) (ho : OrcOk Try.prog cCmp) (h : brV (hold (decide (a < b))) true (Q (AVal.int IntKind.i64 (-1 : Int)) Sto.empty) (brV (hold (decide (b < a))) true (Q (AVal.int IntKind.i64 (1 : Int)) Sto.empty) (Q (AVal.int IntKind.i64 (0 : Int)) Sto.empty))) : ACall Try.prog 64 [.int .i32 a, .int .i32 b] (Sto.empty) Q :=
  ACall.intro hmix Try.func64 (c := code_64_) (by kernel_rfl) cCmp ho (Nat.le_of_ble_eq_true (by kernel_rfl)) (by rw [cmp_r]; exact h)
theorem compareS_r (a b : List Int) (Q : AVal → Sto → Prop) : vc Try.prog cCompareS code_62_ (endK Try.prog Try.f62.results.toList Q) (St.start Try.f62.ntmps [.slice (rv a) 1 .ro, .slice (rv b) 1 .ro] (Sto.empty)) =
  (loopV (fun s => St.norm [] [0, 1, 9, 10, 11] [] s) (vc Try.prog cCompareS code_62_1_0_1_0_0) (blockK 0 (thenK (fun s => cutV (vc Try.prog cCompareS code_62_1_1 (endK Try.prog (Array.toList (Go.Func.results Try.f62)) Q)) (St.norm [] [0, 1] [] s)) (endK Try.prog (Array.toList (Go.Func.results Try.f62)) Q))) (St.mk 36 [(0, AVal.slice (rv a) 1 Tag.ro), (1, AVal.slice (rv b) 1 Tag.ro), (9, AVal.slice (rv a) 1 Tag.ro), (10, AVal.int IntKind.i64 (↑(List.length (rv a)) : Int)), (11, AVal.int IntKind.i64 (0 : Int))] [] [] Sto.empty)) := by kernel_rfl
theorem compareS_i (a b : List Int) (Q : AVal → Sto → Prop) (ho : OrcOk Try.prog cCompareS) (h : loopV (fun s => St.norm [] [0, 1, 9, 10, 11] [] s) (vc Try.prog cCompareS code_62_1_0_1_0_0) (blockK 0 (thenK (fun s => cutV (vc Try.prog cCompareS code_62_1_1 (endK Try.prog (Array.toList (Go.Func.results Try.f62)) Q)) (St.norm [] [0, 1] [] s)) (endK Try.prog (Array.toList (Go.Func.results Try.f62)) Q))) (St.mk 36 [(0, AVal.slice (rv a) 1 Tag.ro), (1, AVal.slice (rv b) 1 Tag.ro), (9, AVal.slice (rv a) 1 Tag.ro), (10, AVal.int IntKind.i64 (↑(List.length (rv a)) : Int)), (11, AVal.int IntKind.i64 (0 : Int))] [] [] Sto.empty)) : ACall Try.prog 62 [.slice (rv a) 1 .ro, .slice (rv b) 1 .ro] (Sto.empty) Q :=
  ACall.intro hmix Try.func62 (c := code_62_) (by kernel_rfl) cCompareS ho (Nat.le_of_ble_eq_true (by kernel_rfl)) (by rw [compareS_r]; exact h)
noncomputable def compareSL_S (a b : List Int) (n i : Nat) : St := St.mk 36 [(0, .slice (rv a) 1 .ro), (1, .slice (rv b) 1 .ro), (9, .slice (rv a) 1 .ro), (10, .int .i64 (n : Int)), (11, .int .i64 (i : Int))] [] [] (Sto.empty)
noncomputable abbrev compareSL_C : Code := code_62_1_0_1_0_0
theorem compareSL_r (a b : List Int) (n i : Nat) (L : St → Prop) (K : Exit → St → Prop) : vc Try.prog cCompareS code_62_1_0_1_0_0 (thenK (fun s => L (St.norm [] [0, 1, 9, 10, 11] [] s)) K) (St.mk 36 [(0, .slice (rv a) 1 .ro), (1, .slice (rv b) 1 .ro), (9, .slice (rv a) 1 .ro), (10, .int .i64 (n : Int)), (11, .int .i64 (i : Int))] [] [] (Sto.empty)) =
  (brV (hold (decide ((↑i : Int) < (↑n : Int)))) true (gb (decide ((0 : Int) ≤ (↑i : Int) ∧ (↑i : Int) < (↑(List.length (rv a)) : Int))) (gb (decide (1 ≤ List.length (elemAt (rv a) (↑i : Int)) ∧ 0 < 1) && etaOk (Sh.int IntKind.i32) (List.getD (elemAt (rv a) (↑i : Int)) 0 AVal.undef)) (brV (hold (decide ((↑(List.length (rv b)) : Int) ≤ (↑i : Int)))) true (K Exit.ret (St.mk 36 [(0, AVal.slice (rv a) 1 Tag.ro), (1, AVal.slice (rv b) 1 Tag.ro), (9, AVal.slice (rv a) 1 Tag.ro), (10, AVal.int IntKind.i64 (↑n : Int)), (11, AVal.int IntKind.i64 (↑i : Int)), (12, AVal.bool (hold (decide ((↑i : Int) < (↑n : Int))))), (5, AVal.int IntKind.i64 (↑i : Int)), (6, AVal.int IntKind.i32 (AVal.intOf (List.getD (elemAt (rv a) (↑i : Int)) 0 AVal.undef))), (19, AVal.bool (hold (decide ((↑(List.length (rv b)) : Int) ≤ (↑i : Int))))), (4, AVal.int IntKind.i64 (1 : Int))] [] [] Sto.empty)) (gb (decide ((0 : Int) ≤ (↑i : Int) ∧ (↑i : Int) < (↑(List.length (rv b)) : Int))) (gb (decide (1 ≤ List.length (elemAt (rv b) (↑i : Int)) ∧ 0 < 1) && etaOk (Sh.int IntKind.i32) (List.getD (elemAt (rv b) (↑i : Int)) 0 AVal.undef)) (∀ (y : Int), (y = if AVal.intOf (List.getD (elemAt (rv a) (↑i : Int)) 0 AVal.undef) < AVal.intOf (List.getD (elemAt (rv b) (↑i : Int)) 0 AVal.undef) then (-1 : Int) else if AVal.intOf (List.getD (elemAt (rv b) (↑i : Int)) 0 AVal.undef) < AVal.intOf (List.getD (elemAt (rv a) (↑i : Int)) 0 AVal.undef) then (1 : Int) else (0 : Int)) → brV (hold (y != (0 : Int))) true (K Exit.ret (St.mk 36 [(0, AVal.slice (rv a) 1 Tag.ro), (1, AVal.slice (rv b) 1 Tag.ro), (9, AVal.slice (rv a) 1 Tag.ro), (10, AVal.int IntKind.i64 (↑n : Int)), (11, AVal.int IntKind.i64 (↑i : Int)), (12, AVal.bool (hold (decide ((↑i : Int) < (↑n : Int))))), (5, AVal.int IntKind.i64 (↑i : Int)), (6, AVal.int IntKind.i32 (AVal.intOf (List.getD (elemAt (rv a) (↑i : Int)) 0 AVal.undef))), (19, AVal.bool (hold (decide ((↑(List.length (rv b)) : Int) ≤ (↑i : Int))))), (7, AVal.int IntKind.i32 (AVal.intOf (List.getD (elemAt (rv b) (↑i : Int)) 0 AVal.undef))), (8, AVal.int IntKind.i64 y), (28, AVal.bool (hold (y != (0 : Int)))), (4, AVal.int IntKind.i64 y)] [] [] Sto.empty)) (cutV (vc Try.prog cCompareS code_62_1_0_1_0_0_1_1_1 (thenK (fun s => L (St.norm [] [0, 1, 9, 10, 11] [] s)) K)) (St.mk 36 [(0, AVal.slice (rv a) 1 Tag.ro), (1, AVal.slice (rv b) 1 Tag.ro), (9, AVal.slice (rv a) 1 Tag.ro), (10, AVal.int IntKind.i64 (↑n : Int)), (11, AVal.int IntKind.i64 (↑i : Int))] [] [] Sto.empty)))))))) (K (Exit.exit 0) (St.mk 36 [(0, AVal.slice (rv a) 1 Tag.ro), (1, AVal.slice (rv b) 1 Tag.ro), (9, AVal.slice (rv a) 1 Tag.ro), (10, AVal.int IntKind.i64 (↑n : Int)), (11, AVal.int IntKind.i64 (↑i : Int)), (12, AVal.bool (hold (decide ((↑i : Int) < (↑n : Int)))))] [] [] Sto.empty))) := by kernel_rfl
noncomputable def compareSI_S (a b : List Int) (n i : Nat) : St := St.mk 36 [(0, .slice (rv a) 1 .ro), (1, .slice (rv b) 1 .ro), (9, .slice (rv a) 1 .ro), (10, .int .i64 (n : Int)), (11, .int .i64 (i : Int))] [] [] (Sto.empty)
noncomputable abbrev compareSI_C : Code := code_62_1_0_1_0_0_1_1_1
theorem compareSI_r (a b : List Int) (n i : Nat) (K : Exit → St → Prop) : vc Try.prog cCompareS code_62_1_0_1_0_0_1_1_1 K (St.mk 36 [(0, .slice (rv a) 1 .ro), (1, .slice (rv b) 1 .ro), (9, .slice (rv a) 1 .ro), (10, .int .i64 (n : Int)), (11, .int .i64 (i : Int))] [] [] (Sto.empty)) =
  (K Exit.normal (St.mk 36 [(0, AVal.slice (rv a) 1 Tag.ro), (1, AVal.slice (rv b) 1 Tag.ro), (9, AVal.slice (rv a) 1 Tag.ro), (10, AVal.int IntKind.i64 (↑n : Int)), (11, AVal.int IntKind.i64 (IntKind.wrap IntKind.i64 ((↑i : Int) + (1 : Int))))] [] [] Sto.empty)) := by kernel_rfl
noncomputable def compareSF_S (a b : List Int) : St := St.mk 36 [(0, .slice (rv a) 1 .ro), (1, .slice (rv b) 1 .ro)] [] [] (Sto.empty)
noncomputable abbrev compareSF_C : Code := code_62_1_1
theorem compareSF_r (a b : List Int) (Q : AVal → Sto → Prop) : vc Try.prog cCompareS code_62_1_1 (endK Try.prog Try.f62.results.toList Q) (St.mk 36 [(0, .slice (rv a) 1 .ro), (1, .slice (rv b) 1 .ro)] [] [] (Sto.empty)) =
  (brV (hold (decide ((↑(List.length (rv a)) : Int) < (↑(List.length (rv b)) : Int)))) true (Q (AVal.int IntKind.i64 (-1 : Int)) Sto.empty) (Q (AVal.int IntKind.i64 (0 : Int)) Sto.empty)) := by kernel_rfl
theorem compare_r (a b : Txt) (Q : AVal → Sto → Prop) : vc Try.prog cCompare code_54_ (endK Try.prog Try.f54.results.toList Q) (St.start Try.f54.ntmps [.str a, .str b] (Sto.empty)) =
  (gb (decide (List.length a ≤ 70368744177664 ∧ 6 < 10)) (gb (decide (List.length b ≤ 70368744177664 ∧ 8 < 10)) (∀ (y : Int), y = cmpR (List.map AVal.intOf (List.map (AVal.int IntKind.i32) (runeL a))) (List.map AVal.intOf (List.map (AVal.int IntKind.i32) (runeL b))) → gb (List.all (List.map (AVal.int IntKind.i32) (runeL a)) isI32 && (List.all (List.map (AVal.int IntKind.i32) (runeL b)) isI32 && (lenOk (List.length (List.map (AVal.int IntKind.i32) (runeL a))) && lenOk (List.length (List.map (AVal.int IntKind.i32) (runeL b)))))) (Q (AVal.int IntKind.i64 y) Sto.empty)))) := by kernel_rfl
theorem compare_i (a b : Txt) (Q : AVal → Sto → Prop) (ho : OrcOk Try.prog cCompare) (h : gb (decide (List.length a ≤ 70368744177664 ∧ 6 < 10)) (gb (decide (List.length b ≤ 70368744177664 ∧ 8 < 10)) (∀ (y : Int), y = cmpR (List.map AVal.intOf (List.map (AVal.int IntKind.i32) (runeL a))) (List.map AVal.intOf (List.map (AVal.int IntKind.i32) (runeL b))) → gb (List.all (List.map (AVal.int IntKind.i32) (runeL a)) isI32 && (List.all (List.map (AVal.int IntKind.i32) (runeL b)) isI32 && (lenOk (List.length (List.map (AVal.int IntKind.i32) (runeL a))) && lenOk (List.length (List.map (AVal.int IntKind.i32) (runeL b)))))) (Q (AVal.int IntKind.i64 y) Sto.empty)))) : ACall Try.prog 54 [.str a, .str b] (Sto.empty) Q :=
  ACall.intro hmix Try.func54 (c := code_54_) (by kernel_rfl) cCompare ho (Nat.le_of_ble_eq_true (by kernel_rfl)) (by rw [compare_r]; exact h)
theorem runes_r (s : Txt) (Q : AVal → Sto → Prop) : vc Try.prog cRunes code_47_ (endK Try.prog Try.f47.results.toList Q) (St.start Try.f47.ntmps [.str s] (Sto.empty)) =
  (loopV (fun s => St.norm [(3, 1)] [3, 7] [7] s) (vc Try.prog cRunes code_47_1_1_0_1_0_0) (blockK 0 (thenK (fun s => cutV (vc Try.prog cRunes code_47_1_1_1 (endK Try.prog (Array.toList (Go.Func.results Try.f47)) Q)) (St.norm [(3, 1)] [3] [] s)) (endK Try.prog (Array.toList (Go.Func.results Try.f47)) Q))) (St.mk 16 [(3, AVal.slice [] 1 (Tag.own 0)), (7, AVal.ptr (Oid.loc 7) 0)] [] [(7, AObj.siter s 0)] (Sto.pushOwn Sto.empty 0))) := by kernel_rfl
theorem runes_i (s : Txt) (Q : AVal → Sto → Prop) (ho : OrcOk Try.prog cRunes) (h : loopV (fun s => St.norm [(3, 1)] [3, 7] [7] s) (vc Try.prog cRunes code_47_1_1_0_1_0_0) (blockK 0 (thenK (fun s => cutV (vc Try.prog cRunes code_47_1_1_1 (endK Try.prog (Array.toList (Go.Func.results Try.f47)) Q)) (St.norm [(3, 1)] [3] [] s)) (endK Try.prog (Array.toList (Go.Func.results Try.f47)) Q))) (St.mk 16 [(3, AVal.slice [] 1 (Tag.own 0)), (7, AVal.ptr (Oid.loc 7) 0)] [] [(7, AObj.siter s 0)] (Sto.pushOwn Sto.empty 0))) : ACall Try.prog 47 [.str s] (Sto.empty) Q :=
  ACall.intro hmix Try.func47 (c := code_47_) (by kernel_rfl) cRunes ho (Nat.le_of_ble_eq_true (by kernel_rfl)) (by rw [runes_r]; exact h)
noncomputable def runesL_S (s : Txt) (o : List Int) (p : Nat) : St := St.mk 16 [(3, .slice (rv o) 1 (.own 0)), (7, .ptr (.loc 7) 0)] [] [(7, .siter s p)] (Sto.pushOwn Sto.empty (rv o).length)
noncomputable abbrev runesL_C : Code := code_47_1_1_0_1_0_0
theorem runesL_r (s : Txt) (o : List Int) (p : Nat) (L : St → Prop) (K : Exit → St → Prop) : vc Try.prog cRunes code_47_1_1_0_1_0_0 (thenK (fun s => L (St.norm [(3, 1)] [3, 7] [7] s)) K) (St.mk 16 [(3, .slice (rv o) 1 (.own 0)), (7, .ptr (.loc 7) 0)] [] [(7, .siter s p)] (Sto.pushOwn Sto.empty (rv o).length)) =
  (brV (hold (decide (p < List.length s))) true (gb (decide (decide (true = true ∧ some (List.length (rv o)) = some (List.length (rv o)) ∧ (List.length (rv o) + 1) * 4 ≤ 140737488355328 ∧ List.length (rv o) + 1 ≤ 9223372036854775807) = true ∧ true = true)) (L (St.mk 16 [(3, AVal.slice (rv o ++ [AVal.int IntKind.i32 (decR s p)]) 1 (Tag.own 0)), (7, AVal.ptr (Oid.loc 7) 0)] [] [(7, AObj.siter s (p + decW s p))] (Sto.setOwn (Sto.pushOwn Sto.empty (List.length (rv o))) 0 (List.length (rv o) + 1))))) (K (Exit.exit 0) (St.mk 16 [(3, AVal.slice (rv o) 1 (Tag.own 0)), (7, AVal.ptr (Oid.loc 7) 0), (8, AVal.tuple [AVal.bool false]), (9, AVal.bool false)] [] [(7, AObj.siter s p)] (Sto.pushOwn Sto.empty (List.length (rv o)))))) := by kernel_rfl
noncomputable def runesF_S (o : List Int) : St := St.mk 16 [(3, .slice (rv o) 1 (.own 0))] [] [] (Sto.pushOwn Sto.empty (rv o).length)
noncomputable abbrev runesF_C : Code := code_47_1_1_1
theorem runesF_r (o : List Int) (Q : AVal → Sto → Prop) : vc Try.prog cRunes code_47_1_1_1 (endK Try.prog Try.f47.results.toList Q) (St.mk 16 [(3, .slice (rv o) 1 (.own 0))] [] [] (Sto.pushOwn Sto.empty (rv o).length)) =
  (Q (AVal.slice (rv o) 1 (Tag.own 0)) (Sto.pushOwn Sto.empty (List.length (rv o)))) := by kernel_rfl
end Go.Proofs.Ytbghpjamahgegaa.Lt
end

section
namespace Go.Proofs.Ytbghpjamahgegaa.Lt
open Go.AL
set_option linter.unusedSimpArgs false
set_option linter.unusedVariables false
set_option maxHeartbeats 2000000
set_option maxRecDepth 20000

theorem and_tt {a b : Bool} (h1 : a = true) (h2 : b = true) : (a && b) = true := by rw [h1, h2]; rfl
theorem thenN {f : St → Prop} {K : Exit → St → Prop} {st : St} (h : f st) : thenK f K .normal st := h
theorem dtt {b : Bool} (h : b = true) : decide (b = true ∧ True) = true := by subst h; rfl
theorem lenOk_of {n : Nat} (h : lenOk n = true) : n ≤ 140737488351232 := by simpa [lenOk] using h
theorem lenOk_mk {n : Nat} (h : n ≤ 140737488351232) : lenOk n = true := by simpa [lenOk] using h
theorem lenT_of {s : Txt} (h : lenT s = true) : s.length ≤ 1000000 := by simpa [lenT] using h
theorem lenT_mk {s : Txt} (h : s.length ≤ 1000000) : lenT s = true := by simpa [lenT] using h
theorem letB_of {r : Int} {b : Bool} (h : b = true ↔ (97 ≤ r ∧ r ≤ 122 ∨ 65 ≤ r ∧ r ≤ 90 ∨ r = 95 ∨ 192 ≤ r ∧ r ≤ 591 ∧ r ≠ 215 ∧ r ≠ 247)) : Wk (.bool b) (.bool (letB r)) := by
  have : b = letB r := by
    rw [Bool.eq_iff_iff, h]; simp [letB]
  rw [this]; exact Wk.refl _
theorem letter_c (r : Int) : ACall Try.prog 60 [.int .i32 r] Sto.empty fun v _ => Wk v (.bool (letB r)) := by
  refine letter_i r _ (.of_none rfl) ?_
  simp only [hold_eq]
  repeat' (first | refine brV_by (fun h => ?_) (fun h => ?_) | refine brV_by' (fun h => ?_) (fun h => ?_))
  all_goals
    refine letB_of ?_
    simp only [decide_eq_true_eq, decide_eq_false_iff_not, beq_iff_eq, beq_eq_false_iff_ne, bne_iff_ne, bne_eq_false_iff_eq, ne_eq, Bool.false_eq_true, false_iff, true_iff, iff_true] at *
    omega
theorem letter_ok : EntOk Try.prog letE := by
  intro xs σ; simp only [letE]; split
  · rename_i r
    intro _
    exact pcall_of (.refl _) (by rw [hold_eq]; exact letter_c r) rfl rfl rfl rfl
  · trivial
theorem letterR_c (r : Int) : ACall Try.prog 48 [.int .i32 r] Sto.empty fun v _ => Wk v (.bool (letB r)) := by
  refine letterR_i r _ (.of_none rfl) ?_
  simp only [hold_eq]
  repeat' (first | refine brV_by (fun h => ?_) (fun h => ?_) | refine brV_by' (fun h => ?_) (fun h => ?_))
  all_goals
    refine letB_of ?_
    simp only [decide_eq_true_eq, decide_eq_false_iff_not, beq_iff_eq, beq_eq_false_iff_ne, bne_iff_ne, bne_eq_false_iff_eq, ne_eq, Bool.false_eq_true, false_iff, true_iff, iff_true] at *
    omega
theorem letterR_ok : EntOk Try.prog letRE := by
  intro xs σ; simp only [letRE]; split
  · rename_i r
    intro _
    exact pcall_of (.refl _) (by rw [hold_eq]; exact letterR_c r) rfl rfl rfl rfl
  · trivial
/-- A beginning of a name. -/
def preB : List Int → Bool
  | [] => true
  | r :: l => letB r && l.all fun x => letB x || digB x
theorem preB_snoc (l : List Int) (r : Int) : preB (l ++ [r]) = (preB l && (letB r || (!l.isEmpty && digB r))) := by
  cases l with
  | nil => simp [preB]
  | cons x t => simp [preB, Bool.and_assoc]
theorem nameR_pre (l : List Int) : nameR l = (preB l && decide (l ≠ [] ∧ l.length ≤ 32)) := by
  cases l with
  | nil => simp [nameR]
  | cons x t => simp [nameR, preB]
theorem preB_app {l m : List Int} (h : preB l = false) : nameR (l ++ m) = false := by
  rw [nameR_pre]
  have : preB (l ++ m) = false := by
    cases l with
    | nil => simp [preB] at h
    | cons x t =>
      simp only [preB, List.cons_append, List.all_append] at h ⊢
      rw [← Bool.and_assoc, h]; rfl
  rw [this]; rfl
theorem wrong_c (s : Txt) (hs : s.length ≤ 1000000) : ACall Try.prog 51 [.str s] Sto.empty fun v _ => Wk v (.bool (!nameT s)) := by
  refine wrong_i s _ (.of [letE] rfl ⟨letter_ok, trivial⟩) ?_
  refine loopV_intro (α := List Int × Nat) (fun x => wrongL_S s x.1.length x.2) (fun x => runeL s = x.1 ++ restR s x.2 ∧ preB x.1 = true) (fun x => s.length - x.2) ?_ ([], 0) ⟨rfl, rfl⟩
  rintro ⟨l, p⟩ ⟨g1, g2⟩ L hL
  simp only at g1 g2
  have hl := runeL_len s
  refine Eq.mpr (wrongL_r s l.length p L _) ?_
  simp only [hold_eq]
  refine brV_by (fun h => ?_) (fun h => ?_)
  · have hp : p < s.length := of_decide_eq_true h
    rw [restR_step hp] at g1
    have hll : l.length < s.length := by rw [g1, List.length_append, List.length_cons] at hl; omega
    have bad : preB (l ++ [decR s p]) = false → Wk (.bool true) (.bool (!nameT s)) := fun hb => by
      have : nameT s = false := by
        unfold nameT
        rw [g1, show l ++ decR s p :: restR s (p + decW s p) = (l ++ [decR s p]) ++ restR s (p + decW s p) by simp]
        exact preB_app hb
      rw [this]; exact Wk.refl _
    have nxt : preB (l ++ [decR s p]) = true → L (wrongL_S s (l ++ [decR s p]).length (p + decW s p)) := fun hb =>
      hL (l ++ [decR s p], p + decW s p) ⟨by simp only; rw [g1]; simp, hb⟩ (by have := decW_pos hp; simp only; omega)
    rw [List.length_append, List.length_singleton] at nxt
    rw [i64_succ hll (by omega)]
    rw [preB_snoc, g2, Bool.true_and] at bad nxt
    refine brV_by (fun h1 => ?_) (fun h1 => nxt (by have h1 : letB (decR s p) = true := by simpa using h1
                                                    rw [h1]; rfl))
    have h1 : letB (decR s p) = false := by simpa using h1
    rw [h1, Bool.false_or] at bad nxt
    refine brV_by' (fun h2 => ?_) (fun h2 => bad ?_)
    rotate_left
    · have h2 : ((l.length : Int) == 0) = true := h2
      have : l = [] := List.eq_nil_of_length_eq_zero (by have : (l.length : Int) = 0 := by simpa using h2
                                                         omega)
      rw [this]; rfl
    have h2 : l.isEmpty = false := by
      have h2 : ((l.length : Int) == 0) = false := h2
      cases l with
      | nil => simp at h2
      | cons x t => rfl
    rw [h2] at bad nxt
    refine brV_by' (fun h3 => ?_) (fun h3 => bad (by have := of_decide_eq_true h3; simp [digB]; omega))
    have h3 := of_decide_eq_false h3
    exact brV_by (fun h4 => bad (by have := of_decide_eq_true h4; simp [digB]; omega)) (fun h4 => nxt (by have := of_decide_eq_false h4; simp [digB]; omega))
  · have hp : s.length ≤ p := by have := of_decide_eq_false h; omega
    rw [restR_end hp, List.append_nil] at g1
    have hn : nameT s = decide (l ≠ [] ∧ l.length ≤ 32) := by unfold nameT; rw [g1, nameR_pre, g2]; rfl
    refine leaveTo (toCut (Eq.mpr (wrongF_r l.length _) ?_))
    simp only [hold_eq]
    have fin : ∀ b : Bool, (b = true ↔ (l = [] ∨ 32 < l.length)) → Wk (.bool b) (.bool (!nameT s)) := fun b hb => by
      have : b = !nameT s := by
        rw [hn, Bool.eq_iff_iff, hb]
        simp only [Bool.not_eq_true', decide_eq_false_iff_not, not_and, ne_eq]
        constructor
        · rintro (h | h) h2
          · exact absurd h h2
          · omega
        · intro h
          by_cases h0 : l = []
          · exact .inl h0
          · exact .inr (by have := h h0; omega)
      rw [this]; exact Wk.refl _
    refine brV_by' (fun h2 => fin _ ?_) (fun h2 => fin _ ?_)
    · have h2 : ((l.length : Int) == 0) = false := h2
      have hne : l ≠ [] := by rintro rfl; simp at h2
      simp only [decide_eq_true_eq]
      constructor
      · intro h; exact .inr (by omega)
      · rintro (h | h)
        · exact absurd h hne
        · omega
    · have h2 : ((l.length : Int) == 0) = true := h2
      have : l = [] := List.eq_nil_of_length_eq_zero (by have : (l.length : Int) = 0 := by simpa using h2
                                                         omega)
      simp [this]
theorem wrong_ok : EntOk Try.prog wrongE := by
  intro xs σ; simp only [wrongE]; split
  · rename_i s
    intro hc
    exact pcall_of (.refl _) (by rw [hold_eq]; exact wrong_c s (lenT_of hc)) rfl rfl rfl rfl
  · trivial
theorem indexF_c (l : List Txt) (hl : l.length ≤ 140737488351232) (hs : ∀ s ∈ l, s.length ≤ 1000000) : ACall Try.prog 59 [.slice (strv l) 1 .ro, .func (.func 51) [] []] Sto.empty fun r _ => Wk r (.int .i64 (if l.all nameT then -1 else (l.findIdx (fun x => !nameT x) : Int))) := by
  refine indexF_i l _ (.of [wrongE] rfl ⟨wrong_ok, trivial⟩) ?_
  have hn : (strv l).length = l.length := strv_length l
  refine loopV_intro (α := Nat) (fun i => indexFL_S l (strv l).length i) (fun i => i ≤ l.length ∧ ∀ j (h : j < l.length), j < i → nameT l[j] = true) (fun i => l.length - i) ?_ 0 ⟨Nat.zero_le _, fun j _ h => by omega⟩
  rintro i ⟨hi, hpre⟩ L hL
  refine Eq.mpr (indexFL_r l (strv l).length i L _) ?_
  simp only [hold_eq]
  refine brV_by (fun h => ?_) (fun h => ?_)
  · have hlt : i < l.length := by have := of_decide_eq_true h; omega
    have hm := hs _ (List.getElem_mem hlt)
    rw [i64_succ hlt hl, elemAt_strv l i hlt]
    have e : AVal.strOf (List.getD [AVal.str l[i]] 0 .undef) = l[i] := rfl
    rw [e]
    refine gb_by (dt (by omega)) (gb_by rfl (gb_by (lenT_mk hm) (brV_by (fun h => ?_) (fun h => ?_))))
    · have hb : nameT l[i] = false := by simpa using h
      have h1 : ¬ l.all nameT = true := fun ha => by have := List.all_eq_true.1 ha _ (List.getElem_mem hlt); rw [hb] at this; cases this
      have h2 : l.findIdx (fun x => !nameT x) = i := by
        rw [List.findIdx_eq hlt]
        exact ⟨by rw [hb]; rfl, fun j hj => by have := hpre j (by omega) hj; simp [this]⟩
      rw [if_neg h1, h2]; exact Wk.refl _
    · have hb : nameT l[i] = true := by simpa using h
      refine hL (i + 1) ⟨hlt, fun j hj hji => ?_⟩ (by omega)
      rcases Nat.lt_or_ge j i with h9 | h9
      · exact hpre j hj h9
      · obtain rfl : j = i := by omega
        exact hb
  · have hge : i = l.length := by have := of_decide_eq_false h; omega
    have ha : l.all nameT = true := List.all_eq_true.2 fun x hx => by
      obtain ⟨j, hj, rfl⟩ := List.getElem_of_mem hx
      exact hpre j hj (by omega)
    rw [if_pos ha]; exact Wk.refl _
theorem strs_of {es : List AVal} (h : es.all strOk = true) : ∀ s ∈ es.map AVal.strOf, s.length ≤ 1000000 := by
  intro s hs
  obtain ⟨e, he, rfl⟩ := List.mem_map.1 hs
  have := List.all_eq_true.1 h e he
  unfold strOk at this
  split at this
  · exact lenT_of this
  · cases this
theorem strs_mk {l : List Txt} (h : ∀ s ∈ l, s.length ≤ 1000000) : (strv l).all strOk = true := by
  rw [List.all_eq_true]
  intro e he
  obtain ⟨s, hs, rfl⟩ := List.mem_map.1 he
  exact lenT_mk (h s hs)
theorem indexF_ok : EntOk Try.prog indexFE := by
  intro xs σ; simp only [indexFE]; split
  · rename_i es s t g
    intro hc
    simp only [Bool.and_eq_true] at hc
    obtain ⟨h0, h1, h2, h3, h4⟩ := hc
    have h0 := Nat.eq_of_beq_eq_true h0
    subst h0
    exact pcall_of (.cons (wk_strv t h1 h2) (.refl _)) (indexF_c _ (by simpa using lenOk_of h3) (strs_of h4)) (by simp only [noOutL, AVal.noOut, strv_noOut, Bool.and_true]) (by simp only [noTokL, AVal.noTok, strv_noTok, Bool.and_true, Tag.below]) rfl rfl
  · trivial
theorem containsF_c (l : List Txt) (hl : l.length ≤ 140737488351232) (hs : ∀ s ∈ l, s.length ≤ 1000000) : ACall Try.prog 50 [.slice (strv l) 1 .ro, .func (.func 51) [] []] Sto.empty fun r _ => Wk r (.bool (!l.all nameT)) := by
  refine containsF_i l _ (.of [indexFE] rfl ⟨indexF_ok, trivial⟩) ?_
  have hn : (strv l).length = l.length := strv_length l
  simp only [map_strOf_strv, hold_eq]
  intro y hy i hi
  refine gb_by (and_tt (strv_is _) (and_tt (lenOk_mk (by omega)) (strs_mk hs))) ?_
  rw [← hy]
  have : decide (0 ≤ i) = !y := by
    cases y with
    | true => rw [hi]; rfl
    | false =>
      rw [hi]
      simp
  rw [this]; exact Wk.refl _
theorem containsF_ok : EntOk Try.prog containsFE := by
  intro xs σ; simp only [containsFE]; split
  · rename_i es s t g
    intro hc
    simp only [Bool.and_eq_true] at hc
    obtain ⟨h0, h1, h2, h3, h4⟩ := hc
    have h0 := Nat.eq_of_beq_eq_true h0
    subst h0
    exact pcall_of (.cons (wk_strv t h1 h2) (.refl _)) (by rw [hold_eq]; exact containsF_c _ (by simpa using lenOk_of h3) (strs_of h4)) (by simp only [noOutL, AVal.noOut, strv_noOut, Bool.and_true]) (by simp only [noTokL, AVal.noTok, strv_noTok, Bool.and_true, Tag.below]) rfl rfl
  · trivial
theorem right_c (l : List Txt) (hl : l.length ≤ 140737488351232) (hs : ∀ s ∈ l, s.length ≤ 1000000) : ACall Try.prog 33 [.slice (strv l) 1 .ro] Sto.empty fun r _ => Wk r (.bool (l.all nameT)) := by
  refine right_i l _ (.of [containsFE] rfl ⟨containsF_ok, trivial⟩) ?_
  have hn : (strv l).length = l.length := strv_length l
  simp only [map_strOf_strv, hold_eq, Bool.not_not]
  exact gb_by (and_tt (strv_is _) (and_tt (lenOk_mk (by omega)) (strs_mk hs))) (Wk.refl _)
theorem right_ok : EntOk Try.prog rightE := by
  intro xs σ; simp only [rightE]; split
  · rename_i es s t
    intro hc
    simp only [Bool.and_eq_true] at hc
    obtain ⟨h1, h2, h3, h4⟩ := hc
    exact pcall_of (.cons (wk_strv t h1 h2) (.refl _)) (by rw [hold_eq]; exact right_c _ (by simpa using lenOk_of h3) (strs_of h4)) (by simp only [noOutL, AVal.noOut, strv_noOut, Bool.and_true]) (by simp only [noTokL, AVal.noTok, strv_noTok, Bool.and_true, Tag.below]) rfl rfl
  · trivial
theorem posT_add (s : Txt) : ∀ (k p : Nat), posT s (k + 1) p = (if posT s k p < s.length then posT s k p + decW s (posT s k p) else posT s k p)
  | 0, p => by rw [posT]; rfl
  | k + 1, p => by
    by_cases h : p < s.length
    · have := posT_add s k (p + decW s p)
      rw [posT, if_pos h, this]
      have e : posT s (k + 1) p = posT s k (p + decW s p) := by rw [posT, if_pos h]
      rw [e]
    · have e1 : posT s (k + 1 + 1) p = p := by rw [posT, if_neg h]
      have e2 : posT s (k + 1) p = p := by rw [posT, if_neg h]
      rw [e1, e2, if_neg h]
theorem i64r_of {n : Int} (h : i64r n = true) : -9223372036854775808 ≤ n ∧ n ≤ 9223372036854775807 := by
  unfold i64r at h; rw [hold_eq] at h; exact @of_decide_eq_true _ (_) h
theorem i64r_mk {n : Int} (h : -9223372036854775808 ≤ n ∧ n ≤ 9223372036854775807) : i64r n = true := by
  unfold i64r; rw [hold_eq]; exact @decide_eq_true _ (_) h
theorem nan_ok : EntOk Try.prog nanE := by
  intro xs σ; simp only [nanE]; split
  · rename_i r
    intro _
    refine pcall_of (.refl _) (nan_i r _ (.of_none rfl) ?_) rfl rfl rfl rfl
    rw [hold_eq, bne_self_eq_false]; exact Wk.refl _
  · trivial
theorem cmp_ok : EntOk Try.prog cmpE := by
  intro xs σ; simp only [cmpE]; split
  · rename_i a b
    intro _
    refine pcall_of (v := .int .i64 _) (.refl _) (cmp_i a b _ (.of [nanE] rfl ⟨nan_ok, trivial⟩) ?_) rfl rfl rfl rfl
    simp only [hold_eq]
    refine brV_by (fun h => ?_) (fun h => brV_by (fun h1 => ?_) (fun h1 => ?_))
    · rw [if_pos (of_decide_eq_true h)]; exact Wk.refl _
    · rw [if_neg (of_decide_eq_false h), if_pos (of_decide_eq_true h1)]; exact Wk.refl _
    · rw [if_neg (of_decide_eq_false h), if_neg (of_decide_eq_false h1)]; exact Wk.refl _
  · trivial
end Go.Proofs.Ytbghpjamahgegaa.Lt
end

section
namespace Go.AL
set_option linter.unusedSimpArgs false
set_option linter.unusedVariables false
set_option maxRecDepth 20000

/-- The rune that is laid down for a number. -/
def fixR (r : Int) : Int := if Utf8.valid r = true then r else 65533
theorem valid_of {r : Int} (h : Utf8.valid r = true) : 0 ≤ r ∧ r < 55296 ∨ 57344 ≤ r ∧ r ≤ 1114111 := by
  simpa [Utf8.valid] using h
theorem valid_mk {r : Int} (h : 0 ≤ r ∧ r < 55296 ∨ 57344 ≤ r ∧ r ≤ 1114111) : Utf8.valid r = true := by
  simpa [Utf8.valid] using h
theorem valid_fix (r : Int) : Utf8.valid (fixR r) = true := by
  unfold fixR; split
  · assumption
  · rfl
theorem fix_valid {r : Int} (h : Utf8.valid r = true) : fixR r = r := if_pos h
theorem fix_fix (r : Int) : fixR (fixR r) = fixR r := fix_valid (valid_fix r)
/-- The bytes of a number. -/
def encN (c : Nat) : Txt :=
  if c < 128 then [UInt8.ofNat c]
  else if c < 2048 then [UInt8.ofNat (192 + c / 64), UInt8.ofNat (128 + c % 64)]
  else if c < 65536 then [UInt8.ofNat (224 + c / 4096), UInt8.ofNat (128 + c / 64 % 64), UInt8.ofNat (128 + c % 64)]
  else [UInt8.ofNat (240 + c / 262144), UInt8.ofNat (128 + c / 4096 % 64), UInt8.ofNat (128 + c / 64 % 64), UInt8.ofNat (128 + c % 64)]
theorem encA_N (r : Int) : encA r = encN (fixR r).toNat := by
  unfold encA Utf8.encode encN fixR
  dsimp only
  have : (if Utf8.valid r = true then r.toNat else Utf8.runeError) = (if Utf8.valid r = true then r else 65533).toNat := by
    split <;> rfl
  rw [this]
  generalize (if Utf8.valid r = true then r else 65533).toNat = c
  split
  · rfl
  · split
    · rfl
    · split <;> rfl
theorem encA_fix (r : Int) : encA (fixR r) = encA r := by rw [encA_N, encA_N, fix_fix]
theorem encN_len (c : Nat) : 1 ≤ (encN c).length ∧ (encN c).length ≤ 4 := by
  unfold encN
  repeat' split
  all_goals simp
theorem encA_len (r : Int) : (encA r).length ≤ 4 := by rw [encA_N]; exact (encN_len _).2
theorem encA_pos (r : Int) : 1 ≤ (encA r).length := by rw [encA_N]; exact (encN_len _).1
theorem getD_c0 (a : UInt8) (l : Txt) : (a :: l).getD 0 0 = a := rfl
theorem getD_c1 (a b : UInt8) (l : Txt) : (a :: b :: l).getD 1 0 = b := rfl
theorem getD_c2 (a b c : UInt8) (l : Txt) : (a :: b :: c :: l).getD 2 0 = c := rfl
theorem getD_c3 (a b c d : UInt8) (l : Txt) : (a :: b :: c :: d :: l).getD 3 0 = d := rfl
theorem decN_enc (c : Nat) (hc : c < 55296 ∨ 57344 ≤ c ∧ c ≤ 1114111) (t : Txt) : Lib.decodeL (encN c ++ t) = (c, (encN c).length) := by
  have tn : ∀ n : Nat, (UInt8.ofNat n).toNat = n % 256 := fun n => by simp
  rw [Lib.decodeL_N]
  unfold encN
  split
  · rename_i h
    simp only [List.cons_append, List.nil_append, getD_c0, tn]
    unfold Lib.decodeN
    rw [if_pos (by omega)]
    show (c % 256, 1) = (c, 1)
    rw [Nat.mod_eq_of_lt (by omega)]
  · split
    · rename_i h1 h2
      have e1 : (192 + c / 64) % 256 = 192 + c / 64 := Nat.mod_eq_of_lt (by omega)
      have e2 : (128 + c % 64) % 256 = 128 + c % 64 := Nat.mod_eq_of_lt (by omega)
      simp only [List.cons_append, List.nil_append, getD_c0, getD_c1, getD_c2, getD_c3, tn, e1, e2, List.length_cons, List.length_nil]
      unfold Lib.decodeN
      rw [if_neg (by omega), if_pos ⟨by omega, by omega, by omega⟩, if_pos (by omega)]
      simp only [Prod.mk.injEq]
      exact ⟨by omega, trivial⟩
    · split
      · rename_i h1 h2 h3
        have e1 : (224 + c / 4096) % 256 = 224 + c / 4096 := Nat.mod_eq_of_lt (by omega)
        have e2 : (128 + c / 64 % 64) % 256 = 128 + c / 64 % 64 := Nat.mod_eq_of_lt (by omega)
        have e3 : (128 + c % 64) % 256 = 128 + c % 64 := Nat.mod_eq_of_lt (by omega)
        simp only [List.cons_append, List.nil_append, getD_c0, getD_c1, getD_c2, getD_c3, tn, e1, e2, e3, List.length_cons, List.length_nil]
        unfold Lib.decodeN
        rw [if_neg (by omega), if_neg (by omega), if_pos ⟨by omega, ⟨by omega, by omega⟩, by omega, by omega⟩, if_pos ⟨by omega, by omega⟩]
        simp only [Prod.mk.injEq]
        exact ⟨by omega, trivial⟩
      · rename_i h1 h2 h3
        have e1 : (240 + c / 262144) % 256 = 240 + c / 262144 := Nat.mod_eq_of_lt (by omega)
        have e2 : (128 + c / 4096 % 64) % 256 = 128 + c / 4096 % 64 := Nat.mod_eq_of_lt (by omega)
        have e3 : (128 + c / 64 % 64) % 256 = 128 + c / 64 % 64 := Nat.mod_eq_of_lt (by omega)
        have e4 : (128 + c % 64) % 256 = 128 + c % 64 := Nat.mod_eq_of_lt (by omega)
        simp only [List.cons_append, List.nil_append, getD_c0, getD_c1, getD_c2, getD_c3, tn, e1, e2, e3, e4, List.length_cons, List.length_nil]
        unfold Lib.decodeN
        rw [if_neg (by omega), if_neg (by omega), if_neg (by omega), if_pos ⟨by omega, ⟨by omega, by omega⟩, ⟨by omega, by omega⟩, by omega, by omega⟩, if_pos ⟨by omega, by omega⟩]
        simp only [Prod.mk.injEq]
        exact ⟨by omega, trivial⟩
/-- A rune's bytes, whatever stands behind, are read as that rune. -/
theorem dec_enc (r : Int) (t : Txt) : Lib.decodeL (encA r ++ t) = ((fixR r).toNat, (encA r).length) := by
  have hv := valid_of (valid_fix r)
  rw [encA_N]
  exact decN_enc _ (by omega) t
theorem decR_L (s : Txt) (p : Nat) : decR s p = ((Lib.decodeL (s.drop p)).1 : Int) := by
  have := Lib.decodeL_drop ⟨s.toArray⟩ p
  show ((Utf8.decode ⟨s.toArray⟩ p).1 : Int) = _
  rw [← this]
theorem decW_L (s : Txt) (p : Nat) : decW s p = (Lib.decodeL (s.drop p)).2 := by
  have := Lib.decodeL_drop ⟨s.toArray⟩ p
  show (Utf8.decode ⟨s.toArray⟩ p).2 = _
  rw [← this]
theorem restR_drop (s : Txt) : ∀ (n p : Nat), s.length ≤ p + n → restR s p = runeL (s.drop p)
  | n, p, h => by
    by_cases hp : p < s.length
    · have h0 : 0 < (s.drop p).length := by rw [List.length_drop]; omega
      rw [runeL_rest, restR_step hp, restR_step h0, decR_L, decR_L, decW_L, decW_L, List.drop_zero, Nat.zero_add]
      congr 1
      have hw : 1 ≤ (Lib.decodeL (s.drop p)).2 := by have := decW_pos hp; rwa [decW_L] at this
      have hb : ∀ m, 1 ≤ m → m ≤ (s.drop p).length → restR s (p + m) = restR (s.drop p) m := by
        intro m h1 h2
        cases n with
        | zero => omega
        | succ n =>
          rw [restR_drop s n (p + m) (by omega), restR_drop (s.drop p) n m (by rw [List.length_drop]; omega), List.drop_drop]
      refine hb _ hw ?_
      have := decW_le hp
      rw [decW_L] at this
      rw [List.length_drop]; omega
    · rw [restR_end (by omega), List.drop_eq_nil_of_le (by omega)]; rfl
termination_by n => n
theorem runeL_nil : runeL [] = [] := rfl
/-- A text's runes from the front. -/
theorem runeL_cons {s : Txt} (h : s ≠ []) : runeL s = ((Lib.decodeL s).1 : Int) :: runeL (s.drop (Lib.decodeL s).2) := by
  have h0 : 0 < s.length := List.length_pos_iff.2 h
  rw [runeL_rest, restR_step h0, decR_L, decW_L, List.drop_zero, Nat.zero_add, restR_drop s s.length _ (by omega)]
theorem runeL_enc (r : Int) (t : Txt) : runeL (encA r ++ t) = fixR r :: runeL t := by
  have hp := encA_pos r
  rw [runeL_cons (by intro h; have := congrArg List.length h; rw [List.length_append, List.length_nil] at this; omega), dec_enc, List.drop_left]
  have := valid_of (valid_fix r)
  congr 1
  show (((fixR r).toNat : Nat) : Int) = fixR r
  omega
theorem runeL_txt : ∀ (l : List Int) (t : Txt), runeL (txtR l ++ t) = l.map fixR ++ runeL t
  | [], t => rfl
  | r :: l, t => by
    have : txtR (r :: l) = encA r ++ txtR l := rfl
    rw [this, List.append_assoc, runeL_enc, runeL_txt l t]; rfl
theorem runeL_txt' (l : List Int) : runeL (txtR l) = l.map fixR := by
  have := runeL_txt l []
  rw [List.append_nil, runeL_nil, List.append_nil] at this
  exact this
theorem txtR_append (a b : List Int) : txtR (a ++ b) = txtR a ++ txtR b := by simp [txtR]
theorem dec_valid (s : Txt) : Utf8.valid ((Lib.decodeL s).1 : Int) = true := by
  refine valid_mk ?_
  rw [Lib.decodeL_N]
  have k0 := (s.getD 0 0).toNat_lt
  rcases Lib.decodeN_shape s.length (s.getD 0 0).toNat (s.getD 1 0).toNat (s.getD 2 0).toNat (s.getD 3 0).toNat with ⟨c, e⟩ | ⟨c1, c2, c3, cv, e⟩ | ⟨c1, c2, c3, c4, cv, cs, e⟩ | ⟨c1, c2, c3, c4, c5, cv, cw, e⟩ | e
  all_goals rw [e]; dsimp only; omega
/-- Every rune of a text is right. -/
theorem runeL_valid : ∀ (n : Nat) (s : Txt), s.length ≤ n → ∀ r ∈ runeL s, Utf8.valid r = true
  | n, s, hn, r, hr => by
    by_cases h : s = []
    · subst h; cases hr
    · rw [runeL_cons h] at hr
      have h0 : 0 < s.length := List.length_pos_iff.2 h
      have hw : 1 ≤ (Lib.decodeL s).2 := by have := decW_pos h0; rwa [decW_L, List.drop_zero] at this
      rcases List.mem_cons.1 hr with rfl | hr
      · exact dec_valid s
      · cases n with
        | zero => omega
        | succ n => exact runeL_valid n _ (by rw [List.length_drop]; omega) r hr
termination_by n => n
theorem runeL_fix (s : Txt) : (runeL s).map fixR = runeL s := by
  conv => rhs; rw [← List.map_id (runeL s)]
  exact List.map_congr_left fun r hr => fix_valid (runeL_valid _ s (Nat.le_refl _) r hr)
theorem txtR_len : ∀ l : List Int, (txtR l).length ≤ 4 * l.length
  | [] => Nat.zero_le _
  | r :: l => by
    have := txtR_len l
    have := encA_len r
    simp only [txtR, List.flatMap_cons, List.length_append, List.length_cons] at *
    omega
theorem txtR_take (l : List Int) (i : Nat) (h : i < l.length) : txtR (l.take (i + 1)) = txtR (l.take i) ++ encA l[i] := by
  rw [List.take_add_one, List.getElem?_eq_getElem h, txtR_append]
  simp [txtR]
end Go.AL
end

section
namespace Go.Proofs.Ytbghpjamahgegaa.Lt
open Go.AL
set_option linter.unusedSimpArgs false
set_option linter.unusedVariables false
set_option maxHeartbeats 2000000
set_option maxRecDepth 20000

theorem compareS_c (a b : List Int) (ha : a.length ≤ 140737488351232) (hb : b.length ≤ 140737488351232) : ACall Try.prog 62 [.slice (rv a) 1 .ro, .slice (rv b) 1 .ro] Sto.empty fun v _ => Wk v (.int .i64 (cmpR a b)) := by
  refine compareS_i a b _ (.of [cmpE] rfl ⟨cmp_ok, trivial⟩) ?_
  have hn : (rv a).length = a.length := rv_length a
  have hm : (rv b).length = b.length := rv_length b
  refine loopV_intro (α := Nat) (fun i => compareSL_S a b (rv a).length i) (fun i => cmpR a b = cmpR (a.drop i) (b.drop i) ∧ i ≤ a.length ∧ i ≤ b.length) (fun i => a.length - i) ?_ 0 ⟨rfl, Nat.zero_le _, Nat.zero_le _⟩
  rintro i ⟨hc, hi, hj⟩ L hL
  refine Eq.mpr (compareSL_r a b (rv a).length i L _) ?_
  simp only [hold_eq]
  refine brV_by (fun h => ?_) (fun h => ?_)
  · have hlt : i < a.length := by have := of_decide_eq_true h; omega
    rw [elemAt_rv a i hlt, List.drop_eq_getElem_cons hlt] at *
    refine gb_by (dt (by omega)) (gb_by rfl (brV_by (fun h1 => ?_) (fun h1 => ?_)))
    · have h1 := of_decide_eq_true h1
      have : b.drop i = [] := List.drop_eq_nil_of_le (by omega)
      rw [this] at hc
      rw [hc]; exact Wk.refl _
    · have h1 := of_decide_eq_false h1
      have hl2 : i < b.length := by omega
      rw [elemAt_rv b i hl2]
      rw [List.drop_eq_getElem_cons hl2] at hc
      refine gb_by (dt (by omega)) (gb_by rfl ?_)
      intro y hy
      have e1 : AVal.intOf (List.getD [AVal.int .i32 a[i]] 0 .undef) = a[i] := rfl
      have e2 : AVal.intOf (List.getD [AVal.int .i32 b[i]] 0 .undef) = b[i] := rfl
      rw [e1, e2] at hy
      rw [cmpR] at hc
      refine brV_by (fun h2 => ?_) (fun h2 => ?_)
      · have h2 : y ≠ 0 := by simpa using h2
        have : cmpR a b = y := by
          rw [hc, hy]
          split
          · rfl
          · rename_i g1
            rw [if_neg g1] at hy
            split
            · rfl
            · rename_i g2
              rw [if_neg g2] at hy
              exact absurd hy h2
        rw [this]; exact Wk.refl _
      · have h2 : y = 0 := by simpa using h2
        have : cmpR a b = cmpR (a.drop (i + 1)) (b.drop (i + 1)) := by
          rw [hc]
          split
          · rename_i g1; rw [if_pos g1] at hy; omega
          · rename_i g1; rw [if_neg g1] at hy
            split
            · rename_i g2; rw [if_pos g2] at hy; omega
            · rfl
        refine toCut (Eq.mpr (compareSI_r a b (rv a).length i _) ?_)
        rw [i64_succ hlt (by omega)]
        exact hL (i + 1) ⟨this, hlt, hl2⟩ (by omega)
  · have h := of_decide_eq_false h
    have : a.drop i = [] := List.drop_eq_nil_of_le (by omega)
    rw [this] at hc
    refine leaveTo (toCut (Eq.mpr (compareSF_r a b _) ?_))
    simp only [hold_eq]
    refine brV_by (fun h1 => ?_) (fun h1 => ?_)
    · have h1 := of_decide_eq_true h1
      have hl2 : i < b.length := by omega
      rw [List.drop_eq_getElem_cons hl2] at hc
      rw [hc]; exact Wk.refl _
    · have h1 := of_decide_eq_false h1
      have : b.drop i = [] := List.drop_eq_nil_of_le (by omega)
      rw [this] at hc
      rw [hc]; exact Wk.refl _
theorem compareS_ok : EntOk Try.prog compareSE := by
  intro xs σ; simp only [compareSE]; split
  · rename_i es s t fs s' t'
    intro hc
    simp only [Bool.and_eq_true] at hc
    obtain ⟨h1, h2, h3, h4, h5, h6⟩ := hc
    refine pcall_of (v := .int .i64 _) (.cons (wk_rv t h1 h3) (.cons (wk_rv t' h2 h4) (.refl _))) (compareS_c _ _ (by simpa using lenOk_of h5) (by simpa using lenOk_of h6)) ?_ ?_ rfl rfl
    · simp only [noOutL, AVal.noOut, rv_noOut, Bool.and_true]
    · simp only [noTokL, AVal.noTok, rv_noTok, Bool.and_true, Tag.below]
  · trivial
theorem compare_c (a b : Txt) (ha : a.length ≤ 1000000) (hb : b.length ≤ 1000000) : ACall Try.prog 54 [.str a, .str b] Sto.empty fun v _ => Wk v (.int .i64 (cmpR (runeL a) (runeL b))) := by
  refine compare_i a b _ (.of [compareSE] rfl ⟨compareS_ok, trivial⟩) ?_
  have h1 := runeL_len a
  have h2 := runeL_len b
  refine gb_by (dt (by omega)) (gb_by (dt (by omega)) ?_)
  intro y hy
  have e : ∀ l : List Int, List.map (AVal.int .i32) l = rv l := fun _ => rfl
  simp only [e, map_intOf_rv] at hy ⊢
  refine gb_by (and_tt (rv_is _) (and_tt (rv_is _) (and_tt (lenOk_mk ?_) (lenOk_mk ?_)))) ?_
  · rw [rv_length]; omega
  · rw [rv_length]; omega
  · rw [hy]; exact Wk.refl _
theorem compare_ok : EntOk Try.prog compareE := by
  intro xs σ; simp only [compareE]; split
  · rename_i a b
    intro hc
    rw [Bool.and_eq_true] at hc
    exact pcall_of (v := .int .i64 _) (.refl _) (compare_c a b (lenT_of hc.1) (lenT_of hc.2)) rfl rfl rfl rfl
  · trivial
theorem runes_c (s : Txt) (hs : s.length ≤ 1000000) : ACall Try.prog 47 [.str s] Sto.empty fun v _ => Wk v (.slice (rv (runeL s)) 1 .ro) := by
  refine runes_i s _ (.of_none rfl) ?_
  have hl := runeL_len s
  refine loopV_intro (α := List Int × Nat) (fun x => runesL_S s x.1 x.2) (fun x => runeL s = x.1 ++ restR s x.2) (fun x => s.length - x.2) ?_ ([], 0) rfl
  rintro ⟨l, p⟩ g1 L hL
  simp only at g1
  refine Eq.mpr (runesL_r s l p L _) ?_
  simp only [hold_eq]
  have hll : l.length ≤ s.length := by rw [g1, List.length_append] at hl; omega
  have hrl : (rv l).length = l.length := rv_length l
  refine brV_by (fun h => ?_) (fun h => ?_)
  · have hp : p < s.length := of_decide_eq_true h
    rw [restR_step hp] at g1
    have nxt := hL (l ++ [decR s p], p + decW s p) (by simp only; rw [g1]; simp) (by have := decW_pos hp; simp only; omega)
    refine gb_by (dt ⟨dt ⟨trivial, trivial, by omega, by omega⟩, trivial⟩) ?_
    rw [setOwn_e1]
    have e : rv l ++ [AVal.int .i32 (decR s p)] = rv (l ++ [decR s p]) := by simp [rv]
    have e2 : (rv l).length + 1 = (rv (l ++ [decR s p])).length := by simp
    rw [e, e2]
    exact nxt
  · have hp : s.length ≤ p := by have := of_decide_eq_false h; omega
    rw [restR_end hp, List.append_nil] at g1
    refine leaveTo (toCut (Eq.mpr (runesF_r l _) ?_))
    rw [g1]; exact Wk.ro _ _ _
theorem runes_ok : EntOk Try.prog runesE := by
  intro xs σ; simp only [runesE]; split
  · rename_i s
    intro hc
    exact pcall_of (v := .slice (rv (runeL s)) 1 .ro) (.refl _) (runes_c s (lenT_of hc)) rfl rfl (by simp only [AVal.noOut, rv_noOut]) (by simp only [AVal.noTok, rv_noTok, Tag.below, Bool.and_true])
  · trivial
end Go.Proofs.Ytbghpjamahgegaa.Lt
end

section
set_option maxRecDepth 100000
set_option maxHeartbeats 0
set_option linter.unusedVariables false
namespace Go.Proofs.Ytbghpjamahgegaa.Lt
open Go.AL Go.Proofs
noncomputable def cRightR : Cfg := { keep := [0, 2, 3, 4, 21, 25, 47], cut := [(11, [3, 4], []), (12, [3, 4], []), (18, [], [])], orc := ofList [runesE, letRE] }
noncomputable def cCompareR : Cfg := { keep := [0, 1, 4, 5, 6, 7, 21, 32, 41, 46, 51], cut := [(9, [5, 6, 7], []), (10, [5, 6, 7], []), (16, [5, 6, 7], []), (20, [5, 6], [])], orc := ofList [runesE] }
noncomputable def code_27_ : Code := (Try.f27.body).getD .skip
noncomputable def code_29_ : Code := (Try.f29.body).getD .skip
noncomputable def code_27_1_1_1_1 : Code := codeAt code_27_ [1, 1, 1, 1]
noncomputable def code_29_1_1_1_1 : Code := codeAt code_29_ [1, 1, 1, 1]
noncomputable def code_27_1_1_1_0_1_0_0 : Code := codeAt code_27_ [1, 1, 1, 0, 1, 0, 0]
noncomputable def code_29_1_1_1_0_1_0_0 : Code := codeAt code_29_ [1, 1, 1, 0, 1, 0, 0]
noncomputable def code_27_1_1_1_0_1_0_0_1_1 : Code := codeAt code_27_ [1, 1, 1, 0, 1, 0, 0, 1, 1]
noncomputable def code_29_1_1_1_0_1_0_0_1_1 : Code := codeAt code_29_ [1, 1, 1, 0, 1, 0, 0, 1, 1]
noncomputable def code_29_1_1_1_0_1_0_0_1_0_0_1 : Code := codeAt code_29_ [1, 1, 1, 0, 1, 0, 0, 1, 0, 0, 1]
theorem rightR_r (s : Txt) (Q : AVal → Sto → Prop) : vc Try.prog cRightR code_27_ (endK Try.prog Try.f27.results.toList Q) (St.start Try.f27.ntmps [.str s] (Sto.empty)) =
  (∀ (y : List Int), y = runeL s → gb (lenT s) (brV (hold (decide ((↑(List.length (rv y)) : Int) < (1 : Int)))) false (brV (hold (decide ((32 : Int) < (↑(List.length (rv y)) : Int)))) false (gb (decide ((0 : Int) ≤ (0 : Int) ∧ (0 : Int) < (↑(List.length (rv y)) : Int))) (gb (decide (1 ≤ List.length (elemAt (rv y) (0 : Int)) ∧ 0 < 1) && etaOk (Sh.int IntKind.i32) (List.getD (elemAt (rv y) (0 : Int)) 0 AVal.undef)) (brV (!hold (letB (AVal.intOf (List.getD (elemAt (rv y) (0 : Int)) 0 AVal.undef)))) true (Q (AVal.bool false) Sto.empty) (loopV (fun s => St.norm [] [3, 4] [] s) (vc Try.prog cRightR code_27_1_1_1_0_1_0_0) (blockK 0 (thenK (fun s => cutV (vc Try.prog cRightR code_27_1_1_1_1 (endK Try.prog (Array.toList (Go.Func.results Try.f27)) Q)) (St.norm [] [] [] s)) (endK Try.prog (Array.toList (Go.Func.results Try.f27)) Q))) (St.mk 48 [(3, AVal.slice (rv y) 1 Tag.ro), (4, AVal.int IntKind.i64 (1 : Int))] [] [] Sto.empty))))) (Q (AVal.bool false) Sto.empty)) (Q (AVal.bool false) Sto.empty))) := by kernel_rfl
theorem rightR_i (s : Txt) (Q : AVal → Sto → Prop) (ho : OrcOk Try.prog cRightR) (h : ∀ (y : List Int), y = runeL s → gb (lenT s) (brV (hold (decide ((↑(List.length (rv y)) : Int) < (1 : Int)))) false (brV (hold (decide ((32 : Int) < (↑(List.length (rv y)) : Int)))) false (gb (decide ((0 : Int) ≤ (0 : Int) ∧ (0 : Int) < (↑(List.length (rv y)) : Int))) (gb (decide (1 ≤ List.length (elemAt (rv y) (0 : Int)) ∧ 0 < 1) && etaOk (Sh.int IntKind.i32) (List.getD (elemAt (rv y) (0 : Int)) 0 AVal.undef)) (brV (!hold (letB (AVal.intOf (List.getD (elemAt (rv y) (0 : Int)) 0 AVal.undef)))) true (Q (AVal.bool false) Sto.empty) (loopV (fun s => St.norm [] [3, 4] [] s) (vc Try.prog cRightR code_27_1_1_1_0_1_0_0) (blockK 0 (thenK (fun s => cutV (vc Try.prog cRightR code_27_1_1_1_1 (endK Try.prog (Array.toList (Go.Func.results Try.f27)) Q)) (St.norm [] [] [] s)) (endK Try.prog (Array.toList (Go.Func.results Try.f27)) Q))) (St.mk 48 [(3, AVal.slice (rv y) 1 Tag.ro), (4, AVal.int IntKind.i64 (1 : Int))] [] [] Sto.empty))))) (Q (AVal.bool false) Sto.empty)) (Q (AVal.bool false) Sto.empty))) : ACall Try.prog 27 [.str s] (Sto.empty) Q :=
  ACall.intro hmix Try.func27 (c := code_27_) (by kernel_rfl) cRightR ho (Nat.le_of_ble_eq_true (by kernel_rfl)) (by rw [rightR_r]; exact h)
noncomputable def rightRL_S (l : List Int) (i : Nat) : St := St.mk 48 [(3, .slice (rv l) 1 .ro), (4, .int .i64 (i : Int))] [] [] (Sto.empty)
noncomputable abbrev rightRL_C : Code := code_27_1_1_1_0_1_0_0
theorem rightRL_r (l : List Int) (i : Nat) (L : St → Prop) (K : Exit → St → Prop) : vc Try.prog cRightR code_27_1_1_1_0_1_0_0 (thenK (fun s => L (St.norm [] [3, 4] [] s)) K) (St.mk 48 [(3, .slice (rv l) 1 .ro), (4, .int .i64 (i : Int))] [] [] (Sto.empty)) =
  (brV (hold (decide ((↑i : Int) < (↑(List.length (rv l)) : Int)))) true (gb (decide ((0 : Int) ≤ (↑i : Int) ∧ (↑i : Int) < (↑(List.length (rv l)) : Int))) (gb (decide (1 ≤ List.length (elemAt (rv l) (↑i : Int)) ∧ 0 < 1) && etaOk (Sh.int IntKind.i32) (List.getD (elemAt (rv l) (↑i : Int)) 0 AVal.undef)) (brV (!hold (letB (AVal.intOf (List.getD (elemAt (rv l) (↑i : Int)) 0 AVal.undef)))) true (gb (decide ((0 : Int) ≤ (↑i : Int) ∧ (↑i : Int) < (↑(List.length (rv l)) : Int))) (gb (decide (1 ≤ List.length (elemAt (rv l) (↑i : Int)) ∧ 0 < 1) && etaOk (Sh.int IntKind.i32) (List.getD (elemAt (rv l) (↑i : Int)) 0 AVal.undef)) (brV (hold (decide (AVal.intOf (List.getD (elemAt (rv l) (↑i : Int)) 0 AVal.undef) < (48 : Int)))) false (gb (decide ((0 : Int) ≤ (↑i : Int) ∧ (↑i : Int) < (↑(List.length (rv l)) : Int))) (gb (decide (1 ≤ List.length (elemAt (rv l) (↑i : Int)) ∧ 0 < 1) && etaOk (Sh.int IntKind.i32) (List.getD (elemAt (rv l) (↑i : Int)) 0 AVal.undef)) (brV (hold (decide ((57 : Int) < AVal.intOf (List.getD (elemAt (rv l) (↑i : Int)) 0 AVal.undef)))) true (K Exit.ret (St.mk 48 [(3, AVal.slice (rv l) 1 Tag.ro), (4, AVal.int IntKind.i64 (↑i : Int)), (25, AVal.bool (hold (decide ((↑i : Int) < (↑(List.length (rv l)) : Int))))), (47, AVal.bool (hold (decide ((57 : Int) < AVal.intOf (List.getD (elemAt (rv l) (↑i : Int)) 0 AVal.undef))))), (2, AVal.bool false)] [] [] Sto.empty)) (cutV (vc Try.prog cRightR code_27_1_1_1_0_1_0_0_1_1 (thenK (fun s => L (St.norm [] [3, 4] [] s)) K)) (St.mk 48 [(3, AVal.slice (rv l) 1 Tag.ro), (4, AVal.int IntKind.i64 (↑i : Int))] [] [] Sto.empty))))) (K Exit.ret (St.mk 48 [(3, AVal.slice (rv l) 1 Tag.ro), (4, AVal.int IntKind.i64 (↑i : Int)), (25, AVal.bool (hold (decide ((↑i : Int) < (↑(List.length (rv l)) : Int))))), (47, AVal.bool true), (2, AVal.bool false)] [] [] Sto.empty))))) (cutV (vc Try.prog cRightR code_27_1_1_1_0_1_0_0_1_1 (thenK (fun s => L (St.norm [] [3, 4] [] s)) K)) (St.mk 48 [(3, AVal.slice (rv l) 1 Tag.ro), (4, AVal.int IntKind.i64 (↑i : Int))] [] [] Sto.empty))))) (K (Exit.exit 0) (St.mk 48 [(3, AVal.slice (rv l) 1 Tag.ro), (4, AVal.int IntKind.i64 (↑i : Int)), (25, AVal.bool (hold (decide ((↑i : Int) < (↑(List.length (rv l)) : Int)))))] [] [] Sto.empty))) := by kernel_rfl
noncomputable def rightRI_S (l : List Int) (i : Nat) : St := St.mk 48 [(3, .slice (rv l) 1 .ro), (4, .int .i64 (i : Int))] [] [] (Sto.empty)
noncomputable abbrev rightRI_C : Code := code_27_1_1_1_0_1_0_0_1_1
theorem rightRI_r (l : List Int) (i : Nat) (K : Exit → St → Prop) : vc Try.prog cRightR code_27_1_1_1_0_1_0_0_1_1 K (St.mk 48 [(3, .slice (rv l) 1 .ro), (4, .int .i64 (i : Int))] [] [] (Sto.empty)) =
  (K Exit.normal (St.mk 48 [(3, AVal.slice (rv l) 1 Tag.ro), (4, AVal.int IntKind.i64 (IntKind.wrap IntKind.i64 ((↑i : Int) + (1 : Int))))] [] [] Sto.empty)) := by kernel_rfl
noncomputable def rightRF_S  : St := St.mk 48 [] [] [] (Sto.empty)
noncomputable abbrev rightRF_C : Code := code_27_1_1_1_1
theorem rightRF_r  (Q : AVal → Sto → Prop) : vc Try.prog cRightR code_27_1_1_1_1 (endK Try.prog Try.f27.results.toList Q) (St.mk 48 [] [] [] (Sto.empty)) =
  (Q (AVal.bool true) Sto.empty) := by kernel_rfl
theorem compareR_r (a b : Txt) (Q : AVal → Sto → Prop) : vc Try.prog cCompareR code_29_ (endK Try.prog Try.f29.results.toList Q) (St.start Try.f29.ntmps [.str a, .str b] (Sto.empty)) =
  (∀ (y : List Int), y = runeL a → gb (lenT a) (∀ (y_1 : List Int), y_1 = runeL b → gb (lenT b) (loopV (fun s => St.norm [] [5, 6, 7] [] s) (vc Try.prog cCompareR code_29_1_1_1_0_1_0_0) (blockK 0 (thenK (fun s => cutV (vc Try.prog cCompareR code_29_1_1_1_1 (endK Try.prog (Array.toList (Go.Func.results Try.f29)) Q)) (St.norm [] [5, 6] [] s)) (endK Try.prog (Array.toList (Go.Func.results Try.f29)) Q))) (St.mk 52 [(5, AVal.slice (rv y) 1 Tag.ro), (6, AVal.slice (rv y_1) 1 Tag.ro), (7, AVal.int IntKind.i64 (0 : Int))] [] [] Sto.empty)))) := by kernel_rfl
theorem compareR_i (a b : Txt) (Q : AVal → Sto → Prop) (ho : OrcOk Try.prog cCompareR) (h : ∀ (y : List Int), y = runeL a → gb (lenT a) (∀ (y_1 : List Int), y_1 = runeL b → gb (lenT b) (loopV (fun s => St.norm [] [5, 6, 7] [] s) (vc Try.prog cCompareR code_29_1_1_1_0_1_0_0) (blockK 0 (thenK (fun s => cutV (vc Try.prog cCompareR code_29_1_1_1_1 (endK Try.prog (Array.toList (Go.Func.results Try.f29)) Q)) (St.norm [] [5, 6] [] s)) (endK Try.prog (Array.toList (Go.Func.results Try.f29)) Q))) (St.mk 52 [(5, AVal.slice (rv y) 1 Tag.ro), (6, AVal.slice (rv y_1) 1 Tag.ro), (7, AVal.int IntKind.i64 (0 : Int))] [] [] Sto.empty)))) : ACall Try.prog 29 [.str a, .str b] (Sto.empty) Q :=
  ACall.intro hmix Try.func29 (c := code_29_) (by kernel_rfl) cCompareR ho (Nat.le_of_ble_eq_true (by kernel_rfl)) (by rw [compareR_r]; exact h)
noncomputable def compareRL_S (a b : List Int) (i : Nat) : St := St.mk 52 [(5, .slice (rv a) 1 .ro), (6, .slice (rv b) 1 .ro), (7, .int .i64 (i : Int))] [] [] (Sto.empty)
noncomputable abbrev compareRL_C : Code := code_29_1_1_1_0_1_0_0
theorem compareRL_r (a b : List Int) (i : Nat) (L : St → Prop) (K : Exit → St → Prop) : vc Try.prog cCompareR code_29_1_1_1_0_1_0_0 (thenK (fun s => L (St.norm [] [5, 6, 7] [] s)) K) (St.mk 52 [(5, .slice (rv a) 1 .ro), (6, .slice (rv b) 1 .ro), (7, .int .i64 (i : Int))] [] [] (Sto.empty)) =
  (brV (hold (decide ((↑i : Int) < (↑(List.length (rv a)) : Int)))) true (brV (hold (decide ((↑i : Int) < (↑(List.length (rv b)) : Int)))) true (gb (decide ((0 : Int) ≤ (↑i : Int) ∧ (↑i : Int) < (↑(List.length (rv a)) : Int))) (gb (decide (1 ≤ List.length (elemAt (rv a) (↑i : Int)) ∧ 0 < 1) && etaOk (Sh.int IntKind.i32) (List.getD (elemAt (rv a) (↑i : Int)) 0 AVal.undef)) (gb (decide ((0 : Int) ≤ (↑i : Int) ∧ (↑i : Int) < (↑(List.length (rv b)) : Int))) (gb (decide (1 ≤ List.length (elemAt (rv b) (↑i : Int)) ∧ 0 < 1) && etaOk (Sh.int IntKind.i32) (List.getD (elemAt (rv b) (↑i : Int)) 0 AVal.undef)) (brV (hold (decide (AVal.intOf (List.getD (elemAt (rv a) (↑i : Int)) 0 AVal.undef) < AVal.intOf (List.getD (elemAt (rv b) (↑i : Int)) 0 AVal.undef)))) true (K Exit.ret (St.mk 52 [(5, AVal.slice (rv a) 1 Tag.ro), (6, AVal.slice (rv b) 1 Tag.ro), (7, AVal.int IntKind.i64 (↑i : Int)), (21, AVal.bool (hold (decide ((↑i : Int) < (↑(List.length (rv b)) : Int))))), (32, AVal.bool (hold (decide (AVal.intOf (List.getD (elemAt (rv a) (↑i : Int)) 0 AVal.undef) < AVal.intOf (List.getD (elemAt (rv b) (↑i : Int)) 0 AVal.undef))))), (4, AVal.int IntKind.i64 (-1 : Int))] [] [] Sto.empty)) (cutV (vc Try.prog cCompareR code_29_1_1_1_0_1_0_0_1_0_0_1 (blockK 1 (thenK (fun s => cutV (vc Try.prog cCompareR code_29_1_1_1_0_1_0_0_1_1 (thenK (fun s => L (St.norm [] [5, 6, 7] [] s)) K)) (St.norm [] [5, 6, 7] [] s)) (thenK (fun s => L (St.norm [] [5, 6, 7] [] s)) K)))) (St.mk 52 [(5, AVal.slice (rv a) 1 Tag.ro), (6, AVal.slice (rv b) 1 Tag.ro), (7, AVal.int IntKind.i64 (↑i : Int))] [] [] Sto.empty))))))) (K (Exit.exit 0) (St.mk 52 [(5, AVal.slice (rv a) 1 Tag.ro), (6, AVal.slice (rv b) 1 Tag.ro), (7, AVal.int IntKind.i64 (↑i : Int)), (21, AVal.bool (hold (decide ((↑i : Int) < (↑(List.length (rv b)) : Int)))))] [] [] Sto.empty))) (K (Exit.exit 0) (St.mk 52 [(5, AVal.slice (rv a) 1 Tag.ro), (6, AVal.slice (rv b) 1 Tag.ro), (7, AVal.int IntKind.i64 (↑i : Int)), (21, AVal.bool false)] [] [] Sto.empty))) := by kernel_rfl
noncomputable def compareRI_S (a b : List Int) (i : Nat) : St := St.mk 52 [(5, .slice (rv a) 1 .ro), (6, .slice (rv b) 1 .ro), (7, .int .i64 (i : Int))] [] [] (Sto.empty)
noncomputable abbrev compareRI_C : Code := code_29_1_1_1_0_1_0_0_1_1
theorem compareRI_r (a b : List Int) (i : Nat) (K : Exit → St → Prop) : vc Try.prog cCompareR code_29_1_1_1_0_1_0_0_1_1 K (St.mk 52 [(5, .slice (rv a) 1 .ro), (6, .slice (rv b) 1 .ro), (7, .int .i64 (i : Int))] [] [] (Sto.empty)) =
  (K Exit.normal (St.mk 52 [(5, AVal.slice (rv a) 1 Tag.ro), (6, AVal.slice (rv b) 1 Tag.ro), (7, AVal.int IntKind.i64 (IntKind.wrap IntKind.i64 ((↑i : Int) + (1 : Int))))] [] [] Sto.empty)) := by kernel_rfl
noncomputable def compareRA_S (a b : List Int) (i : Nat) : St := St.mk 52 [(5, .slice (rv a) 1 .ro), (6, .slice (rv b) 1 .ro), (7, .int .i64 (i : Int))] [] [] (Sto.empty)
noncomputable abbrev compareRA_C : Code := code_29_1_1_1_0_1_0_0_1_0_0_1
theorem compareRA_r (a b : List Int) (i : Nat) (K : Exit → St → Prop) : vc Try.prog cCompareR code_29_1_1_1_0_1_0_0_1_0_0_1 K (St.mk 52 [(5, .slice (rv a) 1 .ro), (6, .slice (rv b) 1 .ro), (7, .int .i64 (i : Int))] [] [] (Sto.empty)) =
  (gb (decide ((0 : Int) ≤ (↑i : Int) ∧ (↑i : Int) < (↑(List.length (rv a)) : Int))) (gb (decide (1 ≤ List.length (elemAt (rv a) (↑i : Int)) ∧ 0 < 1) && etaOk (Sh.int IntKind.i32) (List.getD (elemAt (rv a) (↑i : Int)) 0 AVal.undef)) (gb (decide ((0 : Int) ≤ (↑i : Int) ∧ (↑i : Int) < (↑(List.length (rv b)) : Int))) (gb (decide (1 ≤ List.length (elemAt (rv b) (↑i : Int)) ∧ 0 < 1) && etaOk (Sh.int IntKind.i32) (List.getD (elemAt (rv b) (↑i : Int)) 0 AVal.undef)) (brV (hold (decide (AVal.intOf (List.getD (elemAt (rv b) (↑i : Int)) 0 AVal.undef) < AVal.intOf (List.getD (elemAt (rv a) (↑i : Int)) 0 AVal.undef)))) true (K Exit.ret (St.mk 52 [(5, AVal.slice (rv a) 1 Tag.ro), (6, AVal.slice (rv b) 1 Tag.ro), (7, AVal.int IntKind.i64 (↑i : Int)), (41, AVal.bool (hold (decide (AVal.intOf (List.getD (elemAt (rv b) (↑i : Int)) 0 AVal.undef) < AVal.intOf (List.getD (elemAt (rv a) (↑i : Int)) 0 AVal.undef))))), (4, AVal.int IntKind.i64 (1 : Int))] [] [] Sto.empty)) (K Exit.normal (St.mk 52 [(5, AVal.slice (rv a) 1 Tag.ro), (6, AVal.slice (rv b) 1 Tag.ro), (7, AVal.int IntKind.i64 (↑i : Int)), (41, AVal.bool (hold (decide (AVal.intOf (List.getD (elemAt (rv b) (↑i : Int)) 0 AVal.undef) < AVal.intOf (List.getD (elemAt (rv a) (↑i : Int)) 0 AVal.undef)))))] [] [] Sto.empty))))))) := by kernel_rfl
noncomputable def compareRF_S (a b : List Int) : St := St.mk 52 [(5, .slice (rv a) 1 .ro), (6, .slice (rv b) 1 .ro)] [] [] (Sto.empty)
noncomputable abbrev compareRF_C : Code := code_29_1_1_1_1
theorem compareRF_r (a b : List Int) (Q : AVal → Sto → Prop) : vc Try.prog cCompareR code_29_1_1_1_1 (endK Try.prog Try.f29.results.toList Q) (St.mk 52 [(5, .slice (rv a) 1 .ro), (6, .slice (rv b) 1 .ro)] [] [] (Sto.empty)) =
  (brV (hold (decide ((↑(List.length (rv a)) : Int) < (↑(List.length (rv b)) : Int)))) true (Q (AVal.int IntKind.i64 (-1 : Int)) Sto.empty) (brV (hold (decide ((↑(List.length (rv b)) : Int) < (↑(List.length (rv a)) : Int)))) true (Q (AVal.int IntKind.i64 (1 : Int)) Sto.empty) (Q (AVal.int IntKind.i64 (0 : Int)) Sto.empty))) := by kernel_rfl
end Go.Proofs.Ytbghpjamahgegaa.Lt
end

section
namespace Go.Proofs.Ytbghpjamahgegaa.Lt
open Go.AL
set_option linter.unusedSimpArgs false
set_option linter.unusedVariables false
set_option maxHeartbeats 2000000
set_option maxRecDepth 20000

theorem rv_at {l : List Int} {i : Nat} (h : i < l.length) : AVal.intOf (List.getD (elemAt (rv l) (i : Int)) 0 .undef) = l[i] := by
  rw [elemAt_rv l i h]; rfl
theorem rv_at1 {l : List Int} {i : Nat} (h : i < l.length) : (decide (1 ≤ (elemAt (rv l) (i : Int)).length ∧ 0 < 1) && etaOk (.int .i32) (List.getD (elemAt (rv l) (i : Int)) 0 .undef)) = true := by
  rw [elemAt_rv l i h]; rfl
theorem rightR_c (s : Txt) (hs : s.length ≤ 1000000) : ACall Try.prog 27 [.str s] Sto.empty fun v _ => Wk v (.bool (nameT s)) := by
  refine rightR_i s _ (.of [runesE, letRE] rfl ⟨runes_ok, letterR_ok, trivial⟩) ?_
  intro l hl
  refine gb_by (lenT_mk hs) ?_
  have hrl : (rv l).length = l.length := rv_length l
  have hll : l.length ≤ s.length := by rw [hl]; exact runeL_len s
  have hn : nameT s = (preB l && decide (l ≠ [] ∧ l.length ≤ 32)) := by unfold nameT; rw [← hl, nameR_pre]
  simp only [hold_eq]
  have no : nameT s = false → Wk (.bool false) (.bool (nameT s)) := fun h => by rw [h]; exact Wk.refl _
  refine brV_by' (fun h => ?_) (fun h => no ?_)
  rotate_left
  · have h := of_decide_eq_true h
    rw [hn]
    have : l = [] := List.eq_nil_of_length_eq_zero (by omega)
    subst this; rfl
  have h := of_decide_eq_false h
  refine brV_by' (fun h2 => ?_) (fun h2 => no ?_)
  rotate_left
  · have h2 := of_decide_eq_true h2
    rw [hn]
    have : ¬ (l ≠ [] ∧ l.length ≤ 32) := by omega
    simp [this]
  have h2 := of_decide_eq_false h2
  have h0 : 0 < l.length := by omega
  have e0 : AVal.intOf (List.getD (elemAt (rv l) 0) 0 .undef) = l[0] := rv_at h0
  refine gb_by (dt (by omega)) (gb_by (rv_at1 h0) ?_)
  rw [e0]
  obtain ⟨r, t, hrt⟩ : ∃ r t, l = r :: t := by
    cases l with
    | nil => simp at h0
    | cons r t => exact ⟨r, t, rfl⟩
  refine brV_by (fun h3 => no ?_) (fun h3 => ?_)
  · have h3 : letB l[0] = false := by simpa using h3
    subst hrt
    have h3 : letB r = false := h3
    rw [hn, preB, h3]; rfl
  have h3 : letB l[0] = true := by simpa using h3
  refine loopV_intro (α := Nat) (fun i => rightRL_S l i) (fun i => 1 ≤ i ∧ i ≤ l.length ∧ preB (l.take i) = true) (fun i => l.length - i) ?_ 1 ⟨Nat.le_refl _, h0, by subst hrt; simpa [preB] using h3⟩
  rintro i ⟨g0, g1, g2⟩ L hL
  refine Eq.mpr (rightRL_r l i L _) ?_
  simp only [hold_eq]
  refine brV_by (fun h4 => ?_) (fun h4 => ?_)
  · have hlt : i < l.length := by have := of_decide_eq_true h4; omega
    have htk : l.take (i + 1) = l.take i ++ [l[i]] := by rw [List.take_add_one, List.getElem?_eq_getElem hlt]; rfl
    have hne : (l.take i).isEmpty = false := by subst hrt; cases i with
      | zero => omega
      | succ i => rfl
    have hp : preB (l.take (i + 1)) = (letB l[i] || digB l[i]) := by
      rw [htk, preB_snoc, g2, hne]; simp
    rw [rv_at hlt]
    have bad : (letB l[i] || digB l[i]) = false → nameT s = false := fun hb => by
      rw [← hp] at hb
      have := preB_app (m := l.drop (i + 1)) hb
      rw [List.take_append_drop] at this
      unfold nameT; rw [← hl]; exact this
    have nxt : (letB l[i] || digB l[i]) = true → L (rightRL_S l (i + 1)) := fun hb => hL (i + 1) ⟨by omega, hlt, by rw [hp]; exact hb⟩ (by omega)
    refine gb_by (dt (by omega)) (gb_by (rv_at1 hlt) (brV_by (fun h5 => ?_) (fun h5 => toCut (Eq.mpr (rightRI_r l i _) (by rw [i64_succ hlt (by omega)]; exact nxt (by
      have h5 : letB l[i] = true := by simpa using h5
      rw [h5]; rfl))))))
    · have h5 : letB l[i] = false := by simpa using h5
      rw [h5, Bool.false_or] at bad nxt
      refine gb_by (dt (by omega)) (gb_by (rv_at1 hlt) (brV_by' (fun h6 => ?_) (fun h6 => no (bad ?_))))
      · refine gb_by (dt (by omega)) (gb_by (rv_at1 hlt) (brV_by (fun h7 => no (bad ?_)) (fun h7 => toCut (Eq.mpr (rightRI_r l i _) (by rw [i64_succ hlt (by omega)]; exact nxt (by
          have h7 := of_decide_eq_false h7
          have h6 := of_decide_eq_false h6
          simp [digB]; omega))))))
        · have h7 := of_decide_eq_true h7
          simp [digB]; omega
      · have h6 := of_decide_eq_true h6
        simp [digB]; omega
  · have hi : i = l.length := by have := of_decide_eq_false h4; omega
    subst hi
    rw [List.take_length] at g2
    refine leaveTo (toCut (Eq.mpr (rightRF_r _) ?_))
    have : nameT s = true := by
      rw [hn, g2]
      have : l ≠ [] ∧ l.length ≤ 32 := ⟨by subst hrt; simp, by omega⟩
      simp [this]
    rw [this]; exact Wk.refl _
theorem rightR_ok : EntOk Try.prog rightRE := by
  intro xs σ; simp only [rightRE]; split
  · rename_i s
    intro hc
    exact pcall_of (.refl _) (by rw [hold_eq]; exact rightR_c s (lenT_of hc)) rfl rfl rfl rfl
  · trivial
theorem compareR_c (a b : Txt) (ha : a.length ≤ 1000000) (hb : b.length ≤ 1000000) : ACall Try.prog 29 [.str a, .str b] Sto.empty fun v _ => Wk v (.int .i64 (cmpR (runeL a) (runeL b))) := by
  refine compareR_i a b _ (.of [runesE] rfl ⟨runes_ok, trivial⟩) ?_
  intro x hx
  refine gb_by (lenT_mk ha) ?_
  intro y hy
  refine gb_by (lenT_mk hb) ?_
  have hlx : x.length ≤ a.length := by rw [hx]; exact runeL_len a
  have hly : y.length ≤ b.length := by rw [hy]; exact runeL_len b
  rw [← hx, ← hy]
  have hn : (rv x).length = x.length := rv_length x
  have hm : (rv y).length = y.length := rv_length y
  refine loopV_intro (α := Nat) (fun i => compareRL_S x y i) (fun i => cmpR x y = cmpR (x.drop i) (y.drop i) ∧ i ≤ x.length ∧ i ≤ y.length) (fun i => x.length - i) ?_ 0 ⟨rfl, Nat.zero_le _, Nat.zero_le _⟩
  rintro i ⟨hc, hi, hj⟩ L hL
  refine Eq.mpr (compareRL_r x y i L _) ?_
  simp only [hold_eq]
  have fin : (x.length ≤ i ∨ y.length ≤ i) → brV (decide (((rv x).length : Int) < ((rv y).length : Int))) true (Wk (.int .i64 (-1)) (.int .i64 (cmpR x y))) (brV (decide (((rv y).length : Int) < ((rv x).length : Int))) true (Wk (.int .i64 1) (.int .i64 (cmpR x y))) (Wk (.int .i64 0) (.int .i64 (cmpR x y)))) := fun h => by
    refine brV_by (fun h1 => ?_) (fun h1 => brV_by (fun h2 => ?_) (fun h2 => ?_))
    · have h1 := of_decide_eq_true h1
      have e : x.drop i = [] := List.drop_eq_nil_of_le (by omega)
      rw [e, List.drop_eq_getElem_cons (show i < y.length by omega)] at hc
      rw [hc]; exact Wk.refl _
    · have h2 := of_decide_eq_true h2
      have e : y.drop i = [] := List.drop_eq_nil_of_le (by omega)
      rw [e, List.drop_eq_getElem_cons (show i < x.length by omega)] at hc
      rw [hc]; exact Wk.refl _
    · have h1 := of_decide_eq_false h1
      have h2 := of_decide_eq_false h2
      have e1 : y.drop i = [] := List.drop_eq_nil_of_le (by omega)
      have e : x.drop i = [] := List.drop_eq_nil_of_le (by omega)
      rw [e, e1] at hc
      rw [hc]; exact Wk.refl _
  refine brV_by (fun h => ?_) (fun h => ?_)
  · have hlt : i < x.length := by have := of_decide_eq_true h; omega
    refine brV_by (fun h1 => ?_) (fun h1 => ?_)
    · have hl2 : i < y.length := by have := of_decide_eq_true h1; omega
      rw [rv_at hlt, rv_at hl2]
      rw [List.drop_eq_getElem_cons hlt, List.drop_eq_getElem_cons hl2, cmpR] at hc
      refine gb_by (dt (by omega)) (gb_by (rv_at1 hlt) (gb_by (dt (by omega)) (gb_by (rv_at1 hl2) (brV_by (fun h2 => ?_) (fun h2 => ?_)))))
      · rw [if_pos (of_decide_eq_true h2)] at hc
        rw [hc]; exact Wk.refl _
      · rw [if_neg (of_decide_eq_false h2)] at hc
        refine toCut (Eq.mpr (compareRA_r x y i _) ?_)
        simp only [hold_eq]
        rw [rv_at hlt, rv_at hl2]
        refine gb_by (dt (by omega)) (gb_by (rv_at1 hlt) (gb_by (dt (by omega)) (gb_by (rv_at1 hl2) (brV_by (fun h3 => ?_) (fun h3 => ?_)))))
        · rw [if_pos (of_decide_eq_true h3)] at hc
          rw [hc]; exact Wk.refl _
        · rw [if_neg (of_decide_eq_false h3)] at hc
          refine inBlock (toCut (Eq.mpr (compareRI_r x y i _) ?_))
          rw [i64_succ hlt (by omega)]
          exact hL (i + 1) ⟨hc, hlt, hl2⟩ (by omega)
    · have h1 := of_decide_eq_false h1
      refine leaveTo (toCut (Eq.mpr (compareRF_r x y _) ?_))
      simp only [hold_eq]
      exact fin (by omega)
  · have h := of_decide_eq_false h
    refine leaveTo (toCut (Eq.mpr (compareRF_r x y _) ?_))
    simp only [hold_eq]
    exact fin (by omega)
theorem compareR_ok : EntOk Try.prog compareRE := by
  intro xs σ; simp only [compareRE]; split
  · rename_i a b
    intro hc
    rw [Bool.and_eq_true] at hc
    exact pcall_of (v := .int .i64 _) (.refl _) (compareR_c a b (lenT_of hc.1) (lenT_of hc.2)) rfl rfl rfl rfl
  · trivial
theorem quoR_len (r : Int) : (quoR r).length ≤ 5 := by
  have := encA_len r
  unfold quoR
  rw [List.length_append]
  split <;> split <;> simp <;> omega
theorem quo_len : ∀ l : List Int, (l.flatMap quoR).length ≤ 5 * l.length
  | [] => Nat.zero_le _
  | r :: l => by
    have := quo_len l
    have := quoR_len r
    simp only [List.flatMap_cons, List.length_append, List.length_cons] at *
    omega
theorem quo_take (l : List Int) (i : Nat) (h : i < l.length) : (l.take (i + 1)).flatMap quoR = (l.take i).flatMap quoR ++ quoR l[i] := by
  rw [List.take_add_one, List.getElem?_eq_getElem h, List.flatMap_append]
  simp
theorem quoT_len (s : Txt) : (quoT s).length ≤ 5 * s.length + 2 := by
  have := quo_len (runeL s)
  have := runeL_len s
  simp only [quoT, List.length_cons, List.length_append, List.length_nil] at *
  omega
theorem one_len (b : Bool) : (if b = true then ([92] : Txt) else []).length ≤ 1 := by cases b <;> simp
theorem remT_step {s : Txt} {i : Nat} (h : i < s.length - 1) : remT s i = s.getD i 0 :: remT s (i + 1) := by
  unfold remT
  have h1 : i < s.length := by omega
  rw [List.drop_eq_getElem_cons h1, show s.length - 1 - i = (s.length - 1 - (i + 1)) + 1 by omega, List.take_succ_cons]
  simp [List.getD, List.getElem?_eq_getElem h1]
theorem remT_end {s : Txt} {i : Nat} (h : s.length - 1 ≤ i) : remT s i = [] := by
  unfold remT
  rw [show s.length - 1 - i = 0 by omega, List.take_zero]
theorem unqF_ne {c : UInt8} (h : c ≠ 92) (r : Txt) : unqF (c :: r) = c :: unqF r := by
  cases r with
  | nil => rfl
  | cons d r => rw [unqF, if_neg h]
theorem unqF_len : ∀ l : Txt, (unqF l).length ≤ l.length
  | [] => Nat.le_refl _
  | [c] => Nat.le_refl _
  | c :: d :: r => by
    rw [unqF]
    have h1 := unqF_len r
    have h2 := unqF_len (d :: r)
    split
    · simp only [List.length_cons] at *; omega
    · simp only [List.length_cons] at *; omega
theorem u8_eq (c d : UInt8) : ((c.toNat : Int) == (d.toNat : Int)) = (c == d) := by
  rw [Bool.eq_iff_iff]
  simp only [beq_iff_eq, Int.natCast_inj]
  exact ⟨fun h => UInt8.toNat_inj.1 h, fun h => by rw [h]⟩
end Go.Proofs.Ytbghpjamahgegaa.Lt
end

section
namespace Go.AL
set_option linter.unusedSimpArgs false
set_option linter.unusedVariables false

/-- A value of the database. -/
structure Vl where
  k : Int
  n : Int
  s : Txt
  deriving DecidableEq
def Vl.a (v : Vl) : AVal := .agg [.int .i64 v.k, .int .i64 v.n, .str v.s]
def Vl.zero : Vl := ⟨0, 0, []⟩
def Vl.ok (v : Vl) : Prop := v.k = 1 ∧ v.s = [] ∨ v.k = 2 ∧ v.n = 0 ∧ v.s.length ≤ 200
instance (v : Vl) : Decidable v.ok := inferInstanceAs (Decidable (_ ∨ _))
def Vl.fit (v : Vl) : Prop := -9223372036854775808 ≤ v.n ∧ v.n ≤ 9223372036854775807

/-! ### Bytes -/
def byteAt (u j : Nat) : UInt8 := UInt8.ofNat (u / 256 ^ j)
def be8 (u : Nat) : Txt := [byteAt u 7, byteAt u 6, byteAt u 5, byteAt u 4, byteAt u 3, byteAt u 2, byteAt u 1, byteAt u 0]
def num8 (b : Txt) : Nat := b.foldl (fun n x => n * 256 + x.toNat) 0
def escB (c : UInt8) : Txt := if c = 0 then [0, 255] else [c]
def escT (s : Txt) : Txt := s.flatMap escB
def numOf (v : Vl) : Nat := (v.n + 9223372036854775808).toNat
def bytesV (v : Vl) : Txt := if v.k = 1 then 1 :: be8 (numOf v) else 2 :: (escT v.s ++ [0, 0])
/-- A text out of bytes: what is left, what has been read, the place. -/
def txtV : Txt → Txt → Nat → Txt × Nat × Int
  | [], _, _ => ([], 0, 20)
  | [c], a, i => if c = 0 then ([], 0, 20) else if a.length = 200 then ([], 0, 32) else ([], 0, 20)
  | c :: d :: r, a, i =>
    if c = 0 then
      if d = 0 then (a, i + 2, 0) else if d ≠ 255 then ([], 0, 10) else if a.length = 200 then ([], 0, 32) else txtV r (a ++ [0]) (i + 2)
    else if a.length = 200 then ([], 0, 32) else txtV (d :: r) (a ++ [c]) (i + 1)
def takeV (b : Txt) : Vl × Nat × Int :=
  match b with
  | [] => (.zero, 0, 20)
  | c :: r =>
    if c = 2 then (if (txtV r [] 1).2.2 = 0 then ⟨2, 0, (txtV r [] 1).1⟩ else .zero, (txtV r [] 1).2.1, (txtV r [] 1).2.2)
    else if c ≠ 1 then (.zero, 0, 22) else if r.length < 8 then (.zero, 0, 20)
    else (⟨1, (num8 (r.take 8) : Int) - 9223372036854775808, []⟩, 9, 0)

theorem byteAt_nat (u j : Nat) : (byteAt u j).toNat = u / 256 ^ j % 256 := by simp [byteAt]
theorem num8_be8 (u : Nat) (h : u < 18446744073709551616) : num8 (be8 u) = u := by
  simp only [num8, be8, List.foldl_cons, List.foldl_nil, byteAt_nat]
  omega
theorem txtV_esc : ∀ (s a : Txt) (i : Nat) (t : Txt), a.length + s.length ≤ 200 → txtV (escT s ++ ([0, 0] ++ t)) a i = (a ++ s, i + (escT s).length + 2, 0)
  | [], a, i, t, h => by
    show txtV (0 :: 0 :: t) a i = _
    unfold txtV
    simp [escT]
  | c :: s, a, i, t, h => by
    rw [List.length_cons] at h
    by_cases hc : c = 0
    · have e : escT (c :: s) = 0 :: 255 :: escT s := by simp [escT, escB, hc]
      rw [e]
      show txtV (0 :: 255 :: (escT s ++ ([0, 0] ++ t))) a i = _
      rw [txtV, if_pos rfl, if_neg (by decide), if_neg (by decide), if_neg (by omega), txtV_esc s (a ++ [0]) (i + 2) t (by rw [List.length_append]; simp; omega), hc]
      simp [Nat.add_assoc, Nat.add_comm, Nat.add_left_comm]
      try omega
    · have e : escT (c :: s) = c :: escT s := by simp [escT, escB, hc]
      have hne : ∃ d r, escT s ++ ([0, 0] ++ t) = d :: r := by
        cases hx : escT s ++ ([0, 0] ++ t) with
        | nil => have := congrArg List.length hx; simp at this
        | cons d r => exact ⟨d, r, rfl⟩
      obtain ⟨d, r, hx⟩ := hne
      rw [e, List.cons_append, hx, txtV, if_neg hc, if_neg (by omega), ← hx, txtV_esc s (a ++ [c]) (i + 1) t (by rw [List.length_append]; simp; omega)]
      simp [Nat.add_assoc, Nat.add_comm, Nat.add_left_comm]
      try omega
/-- A right value's bytes, whatever stands behind, are taken as it is. -/
theorem take_bytes (v : Vl) (hv : v.ok) (hf : v.fit) (b : Txt) : takeV (bytesV v ++ b) = (v, (bytesV v).length, 0) := by
  obtain ⟨k, n, s⟩ := v
  obtain ⟨h1, h2⟩ := hf
  simp only at h1 h2
  rcases hv with ⟨rfl, rfl⟩ | ⟨rfl, rfl, hs⟩
  · simp only [bytesV, if_true, List.cons_append, takeV, numOf]
    rw [if_neg (by decide), if_neg (by decide), if_neg (by simp [be8])]
    have : (be8 (n + 9223372036854775808).toNat ++ b).take 8 = be8 (n + 9223372036854775808).toNat := by
      rw [List.take_append_of_le_length (by simp [be8])]; simp [be8]
    rw [this, num8_be8 _ (by omega)]
    simp only [List.length_cons]
    refine Prod.ext ?_ (by simp [be8])
    simp only [Vl.mk.injEq, true_and, and_true]
    omega
  · have hk : ¬ (2 : Int) = 1 := by decide
    simp only [bytesV, hk, if_false, List.cons_append, takeV, List.append_assoc]
    simp only at hs
    have := txtV_esc s [] 1 b (by simpa using hs)
    replace this : txtV (escT s ++ 0 :: 0 :: ([] ++ b)) [] 1 = ([] ++ s, 1 + (escT s).length + 2, 0) := this
    rw [if_pos trivial]
    rw [this]
    simp only [List.nil_append, if_true, List.length_cons, List.length_append, List.length_nil]
    refine Prod.ext rfl (Prod.ext ?_ rfl)
    simp only
    omega
theorem bytesV_pos (v : Vl) : 1 ≤ (bytesV v).length := by unfold bytesV; split <;> simp
/-- None is how another's begin. -/
theorem bytes_pre {v w : Vl} (hv : v.ok) (fv : v.fit) (hw : w.ok) (fw : w.fit) {r : Txt} (h : bytesV w = bytesV v ++ r) : v = w := by
  have h1 := take_bytes v hv fv r
  have h2 := take_bytes w hw fw []
  rw [List.append_nil, h, h1] at h2
  exact (Prod.mk.inj h2).1
theorem bytes_inj {v w : Vl} (hv : v.ok) (fv : v.fit) (hw : w.ok) (fw : w.fit) (h : bytesV v = bytesV w) : v = w :=
  bytes_pre hv fv hw fw (r := []) (by rw [List.append_nil, h])
theorem bytes_min {v w : Vl} (hv : v.ok) (fv : v.fit) (hw : w.ok) (fw : w.fit) : ((bytesV v).take (min (bytesV v).length (bytesV w).length) = (bytesV w).take (min (bytesV v).length (bytesV w).length)) ↔ v = w := by
  constructor
  · intro h
    rcases Nat.le_total (bytesV v).length (bytesV w).length with hl | hl
    · rw [Nat.min_eq_left hl, List.take_length] at h
      refine bytes_pre hv fv hw fw (r := (bytesV w).drop (bytesV v).length) ?_
      conv => rhs; rw [h]
      have : ((bytesV w).take (bytesV v).length).length = (bytesV v).length := by rw [← h]
      rw [this]
      exact (List.take_append_drop _ _).symm
    · rw [Nat.min_eq_right hl, List.take_length] at h
      refine (bytes_pre hw fw hv fv (r := (bytesV v).drop (bytesV w).length) ?_).symm
      conv => rhs; rw [← h]
      have : ((bytesV v).take (bytesV w).length).length = (bytesV w).length := by rw [h]
      rw [this]
      exact (List.take_append_drop _ _).symm
  · intro h; rw [h]

/-! ### The order -/
def sgI (a b : Int) : Int := if a < b then -1 else if b < a then 1 else 0
def cmpB : Txt → Txt → Int
  | [], [] => 0
  | [], _ :: _ => -1
  | _ :: _, [] => 1
  | x :: a, y :: b => if x.toNat < y.toNat then -1 else if y.toNat < x.toNat then 1 else cmpB a b
def cmpV (v w : Vl) : Int := if sgI v.k w.k ≠ 0 then sgI v.k w.k else if sgI v.n w.n ≠ 0 then sgI v.n w.n else cmpB v.s w.s
theorem u8_eq {x y : UInt8} (h1 : ¬ x.toNat < y.toNat) (h2 : ¬ y.toNat < x.toNat) : x = y := UInt8.toNat_inj.1 (by omega)
theorem cmpB_self : ∀ a : Txt, cmpB a a = 0
  | [] => rfl
  | x :: a => by rw [cmpB, if_neg (by omega), if_neg (by omega)]; exact cmpB_self a
theorem cmpB_eq : ∀ {a b : Txt}, cmpB a b = 0 → a = b
  | [], [], _ => rfl
  | [], _ :: _, h => by cases h
  | _ :: _, [], h => by cases h
  | x :: a, y :: b, h => by
    rw [cmpB] at h
    split at h
    · cases h
    · split at h
      · cases h
      · rename_i h1 h2
        rw [u8_eq h1 h2, cmpB_eq h]
theorem cmpB_anti : ∀ a b : Txt, cmpB b a = - cmpB a b
  | [], [] => rfl
  | [], _ :: _ => rfl
  | _ :: _, [] => rfl
  | x :: a, y :: b => by
    rw [cmpB, cmpB]
    have := cmpB_anti a b
    repeat' split
    all_goals first | omega | rfl | exact this
theorem cmpB_trans : ∀ a b c : Txt, cmpB a b ≤ 0 → cmpB b c ≤ 0 → cmpB a c ≤ 0
  | [], [], [], _, _ => by decide
  | [], [], _ :: _, _, _ => show (-1 : Int) ≤ 0 by decide
  | [], _ :: _, [], _, h => absurd h (show ¬ (1 : Int) ≤ 0 by decide)
  | [], _ :: _, _ :: _, _, _ => show (-1 : Int) ≤ 0 by decide
  | _ :: _, [], _, h, _ => absurd h (show ¬ (1 : Int) ≤ 0 by decide)
  | _ :: _, _ :: _, [], _, h => absurd h (show ¬ (1 : Int) ≤ 0 by decide)
  | x :: a, y :: b, z :: c, h1, h2 => by
    rw [cmpB] at h1 h2 ⊢
    have := cmpB_trans a b c
    repeat' split
    all_goals first | omega | skip
    all_goals (repeat' split at h1) <;> (repeat' split at h2) <;> first | omega | (exact this h1 h2)
theorem sgI_anti (a b : Int) : sgI b a = - sgI a b := by unfold sgI; repeat' split <;> omega
theorem sgI_zero (a b : Int) : sgI a b = 0 ↔ a = b := by unfold sgI; constructor <;> intro h <;> (repeat' split at *) <;> omega
theorem sgI_cases (a b : Int) : a < b ∧ sgI a b = -1 ∨ a = b ∧ sgI a b = 0 ∨ b < a ∧ sgI a b = 1 := by unfold sgI; repeat' split <;> omega
theorem cmpV_anti (v w : Vl) : cmpV w v = - cmpV v w := by
  unfold cmpV
  rw [sgI_anti v.k w.k, sgI_anti v.n w.n, cmpB_anti v.s w.s]
  repeat' split <;> omega
theorem cmpV_zero (v w : Vl) : cmpV v w = 0 ↔ v = w := by
  obtain ⟨a, b, c⟩ := v
  obtain ⟨a', b', c'⟩ := w
  simp only [cmpV, Vl.mk.injEq]
  have h1 := sgI_cases a a'
  have h2 := sgI_cases b b'
  constructor
  · intro h
    split at h
    · omega
    · split at h
      · omega
      · exact ⟨by omega, by omega, cmpB_eq h⟩
  · rintro ⟨rfl, rfl, rfl⟩
    rw [if_neg (by omega), if_neg (by omega)]; exact cmpB_self _
theorem cmpV_trans (u v w : Vl) (h1 : cmpV u v ≤ 0) (h2 : cmpV v w ≤ 0) : cmpV u w ≤ 0 := by
  unfold cmpV at *
  have a1 := sgI_cases u.k v.k
  have a2 := sgI_cases v.k w.k
  have a3 := sgI_cases u.k w.k
  have b1 := sgI_cases u.n v.n
  have b2 := sgI_cases v.n w.n
  have b3 := sgI_cases u.n w.n
  have c := cmpB_trans u.s v.s w.s
  repeat' split
  all_goals (repeat' split at h1) <;> (repeat' split at h2) <;> first | omega | exact c h1 h2
theorem cmpB_app (p a b : Txt) : cmpB (p ++ a) (p ++ b) = cmpB a b := by
  induction p with
  | nil => rfl
  | cons x p ih => rw [List.cons_append, List.cons_append, cmpB, if_neg (by omega), if_neg (by omega), ih]
def beN (u : Nat) : Nat → Txt
  | 0 => []
  | k + 1 => byteAt u k :: beN u k
theorem cmpB_beN (u w : Nat) : ∀ k : Nat, cmpB (beN u k) (beN w k) = sgI ((u % 256 ^ k : Nat) : Int) ((w % 256 ^ k : Nat) : Int)
  | 0 => by simp [beN, cmpB, sgI, Nat.mod_one]
  | k + 1 => by
    have ih := cmpB_beN u w k
    have hu := Nat.mod_mul (x := u) (a := 256 ^ k) (b := 256)
    have hw := Nat.mod_mul (x := w) (a := 256 ^ k) (b := 256)
    have lu := Nat.mod_lt u (show 0 < 256 ^ k from Nat.pow_pos (by decide))
    have lw := Nat.mod_lt w (show 0 < 256 ^ k from Nat.pow_pos (by decide))
    rw [Nat.pow_succ, hu, hw]
    simp only [beN, cmpB, byteAt_nat]
    rw [ih]
    generalize 256 ^ k = P at *
    generalize u / P % 256 = d at *
    generalize w / P % 256 = e at *
    generalize u % P = r at *
    generalize w % P = q at *
    rcases Nat.lt_trichotomy d e with h | h | h
    · have := Nat.mul_le_mul_left P (show d + 1 ≤ e from h)
      rw [Nat.mul_add, Nat.mul_one] at this
      rw [if_pos h]
      unfold sgI
      rw [if_pos (by omega)]
    · subst h
      rw [if_neg (by omega), if_neg (by omega)]
      unfold sgI
      repeat' split
      all_goals first | rfl | omega
    · have := Nat.mul_le_mul_left P (show e + 1 ≤ d from h)
      rw [Nat.mul_add, Nat.mul_one] at this
      rw [if_neg (by omega), if_pos h]
      unfold sgI
      rw [if_neg (by omega), if_pos (by omega)]
theorem cmpB_be8 (u w : Nat) (hu : u < 18446744073709551616) (hw : w < 18446744073709551616) : cmpB (be8 u) (be8 w) = sgI u w := by
  have := cmpB_beN u w 8
  rw [show (256 : Nat) ^ 8 = 18446744073709551616 by decide, Nat.mod_eq_of_lt hu, Nat.mod_eq_of_lt hw] at this
  exact this
theorem cmpB_esc : ∀ s t : Txt, cmpB (escT s ++ [0, 0]) (escT t ++ [0, 0]) = cmpB s t
  | [], [] => by decide
  | [], c :: t => by
    by_cases hc : c = 0
    · have e : escT (c :: t) = 0 :: 255 :: escT t := by simp [escT, escB, hc]
      rw [e]; simp [escT, cmpB]
    · have e : escT (c :: t) = c :: escT t := by simp [escT, escB, hc]
      have : 0 < c.toNat := Nat.pos_of_ne_zero fun h => hc (UInt8.toNat_inj.1 h)
      rw [e]; simp [escT, cmpB, this]
  | c :: s, [] => by
    by_cases hc : c = 0
    · have e : escT (c :: s) = 0 :: 255 :: escT s := by simp [escT, escB, hc]
      rw [e]; simp [escT, cmpB]
    · have e : escT (c :: s) = c :: escT s := by simp [escT, escB, hc]
      have : 0 < c.toNat := Nat.pos_of_ne_zero fun h => hc (UInt8.toNat_inj.1 h)
      rw [e]; simp [escT, cmpB, this]
  | c :: s, d :: t => by
    have ih := cmpB_esc s t
    have e0 : ∀ s : Txt, escT (0 :: s) = 0 :: 255 :: escT s := fun s => by simp [escT, escB]
    have e1 : ∀ (c : UInt8) (s : Txt), c ≠ 0 → escT (c :: s) = c :: escT s := fun c s hc => by simp [escT, escB, hc]
    have hp : ∀ c : UInt8, c ≠ 0 → 0 < c.toNat := fun c hc => Nat.pos_of_ne_zero fun h => hc (UInt8.toNat_inj.1 h)
    by_cases hc : c = 0
    · subst hc
      by_cases hd : d = 0
      · subst hd
        rw [e0, e0]
        simp only [List.cons_append, cmpB, Nat.lt_irrefl, if_false]
        exact ih
      · rw [e0, e1 d t hd]
        have := hp d hd
        simp [cmpB, this]
    · by_cases hd : d = 0
      · subst hd
        rw [e0, e1 c s hc]
        have := hp c hc
        simp [cmpB, this]
      · rw [e1 c s hc, e1 d t hd]
        simp only [List.cons_append, cmpB]
        rw [ih]
/-- Bytes are in the values' order. -/
theorem cmp_bytes (v w : Vl) (hv : v.ok) (fv : v.fit) (hw : w.ok) (fw : w.fit) : cmpB (bytesV v) (bytesV w) = cmpV v w := by
  obtain ⟨k, n, s⟩ := v
  obtain ⟨k', n', s'⟩ := w
  obtain ⟨f1, f2⟩ := fv
  obtain ⟨f3, f4⟩ := fw
  simp only at f1 f2 f3 f4
  have h21 : ¬ (2 : Int) = 1 := by decide
  rcases hv with ⟨rfl, rfl⟩ | ⟨rfl, rfl, hs⟩ <;> rcases hw with ⟨rfl, rfl⟩ | ⟨rfl, rfl, hs'⟩
  · simp only [bytesV, if_true, numOf]
    rw [cmpB, if_neg (by decide), if_neg (by decide), cmpB_be8 _ _ (by omega) (by omega)]
    simp only [cmpV, sgI]
    repeat' split
    all_goals first | omega | rfl
  · simp only [bytesV, if_true, h21, if_false]
    rfl
  · simp only [bytesV, if_true, h21, if_false]
    rfl
  · simp only [bytesV, h21, if_false]
    rw [cmpB, if_neg (by decide), if_neg (by decide), cmpB_esc]
    rfl
/-- The library's order of texts. -/
theorem escT_len : ∀ s : Txt, (escT s).length ≤ 2 * s.length
  | [] => Nat.le_refl _
  | c :: s => by
    have := escT_len s
    have h2 : (escB c).length ≤ 2 := by unfold escB; split <;> simp
    simp only [escT, List.flatMap_cons, List.length_append, List.length_cons] at *
    omega
theorem bytesV_len (v : Vl) : (bytesV v).length ≤ 2 * v.s.length + 9 := by
  unfold bytesV
  split
  · simp [be8]
  · have := escT_len v.s
    simp only [List.length_cons, List.length_append, List.length_nil]; omega
end Go.AL
end

section
namespace Go.AL
theorem xor63_lo (x : Nat) (h : x < 2 ^ 63) : x ^^^ 2 ^ 63 = 2 ^ 63 + x := by
  refine Nat.eq_of_testBit_eq fun i => ?_
  rw [Nat.testBit_xor, Nat.testBit_two_pow]
  rcases Nat.lt_trichotomy i 63 with hi | hi | hi
  · rw [Nat.testBit_two_pow_add_gt hi, decide_eq_false (by omega), Bool.xor_false]
  · subst hi
    rw [Nat.testBit_two_pow_add_eq]
    simp
  · have h1 : x < 2 ^ i := Nat.lt_of_lt_of_le h (Nat.pow_le_pow_right (by decide) (by omega))
    have h2 : 2 ^ 63 + x < 2 ^ i := by
      have : 2 ^ 64 ≤ 2 ^ i := Nat.pow_le_pow_right (by decide) hi
      omega
    rw [Nat.testBit_lt_two_pow h1, Nat.testBit_lt_two_pow h2]
    simp; omega
theorem xor63 (x : Nat) (h : x < 18446744073709551616) : x ^^^ 9223372036854775808 = (x + 9223372036854775808) % 18446744073709551616 := by
  have e : (9223372036854775808 : Nat) = 2 ^ 63 := by decide
  by_cases hx : x < 2 ^ 63
  · rw [e, xor63_lo x hx]; omega
  · have hy : x - 2 ^ 63 < 2 ^ 63 := by omega
    have h1 := xor63_lo _ hy
    have h2 : x = (x - 2 ^ 63) ^^^ 2 ^ 63 := by rw [h1]; omega
    have h3 : x ^^^ 2 ^ 63 = x - 2 ^ 63 := by
      conv => lhs; rw [h2]
      rw [Nat.xor_assoc, Nat.xor_self, Nat.xor_zero]
    rw [e, h3]; omega
/-- uint64(n) with the sign's bit turned. -/
theorem sign_num (n : Int) (h0 : -9223372036854775808 ≤ n) (h1 : n ≤ 9223372036854775807) : bits .xor .u64 (IntKind.u64.wrap n) 9223372036854775808 = ((n + 9223372036854775808).toNat : Int) := by
  have e : IntKind.u64.wrap n = ((n % 18446744073709551616).toNat : Nat) := by rw [IntKind.wrap_u64]; omega
  have := u64_xor_nat (n % 18446744073709551616).toNat 9223372036854775808 (by omega) (by decide)
  rw [e]
  refine this.trans ?_
  rw [xor63 _ (by omega)]
  omega
theorem num_sign (u : Nat) (h : u < 18446744073709551616) : IntKind.i64.wrap (bits .xor .u64 (u : Int) 9223372036854775808) = (u : Int) - 9223372036854775808 := by
  have := u64_xor_nat u 9223372036854775808 h (by decide)
  have e : bits .xor .u64 (u : Int) 9223372036854775808 = ((u ^^^ 9223372036854775808 : Nat) : Int) := this
  rw [e, xor63 u h, IntKind.wrap_i64]
  omega
theorem or8 (u x : Nat) (hu : u < 72057594037927936) (hx : x < 256) : bits .or .u64 ((u * 256 : Nat) : Int) (x : Int) = ((u * 256 + x : Nat) : Int) := by
  have := u64_or_nat (u * 256) x (by omega) (by omega)
  rw [this]
  have h := Nat.shiftLeft_add_eq_or_of_lt (show x < 2 ^ 8 by omega) u
  rw [Nat.shiftLeft_eq] at h
  have e : (2 : Nat) ^ 8 = 256 := by decide
  rw [e] at h
  rw [← h]
end Go.AL
end

section
set_option linter.unusedVariables false
namespace Go.AL
def vlOf : AVal → Vl
  | .agg [.int _ k, .int _ n, .str s] => ⟨k, n, s⟩
  | _ => .zero
def isVl : AVal → Bool
  | .agg [.int .i64 _, .int .i64 _, .str _] => true
  | _ => false
def vlv (l : List Vl) : List AVal := l.map Vl.a
def okV (v : Vl) : Bool := decide v.ok
def firstNZ : List Int → Int
  | [] => 0
  | x :: l => if x = 0 then firstNZ l else x
end Go.AL
namespace Go.Proofs.Ytbghpjamahgegaa.V
open Go.AL
noncomputable section
def lenT (s : Txt) : Bool := hold (decide (s.length ≤ 1000000))
def lenOk (n : Nat) : Bool := hold (decide (n ≤ 140737488351232))
def i64r (n : Int) : Bool := hold (@decide (-9223372036854775808 ≤ n ∧ n ≤ 9223372036854775807) (Classical.propDecidable _))
def thingE : Ent := (49, fun xs _ => match xs with
  | [.agg [.int .i64 k, .int .i64 n, .str s]] => some (.br (hold (decide (k = 1 ∧ s.length = 0))) (.pure true (.iface 3 (.int .i64 n))) (.br (hold (decide (k = 2 ∧ n = 0 ∧ s.length ≤ 200))) (.pure true (.iface 9 (.str s))) (.pure true .nilIface)))
  | _ => none)
def right1E : Ent := (53, fun xs _ => match xs with
  | [.agg [.int .i64 k, .int .i64 n, .str s]] => some (.pure true (.bool (hold (!okV ⟨k, n, s⟩))))
  | _ => none)
def isRight1 (g : FuncId) : Bool := Nat.beq g 53
def vlsOk (es : List AVal) (s : Nat) : Bool := okW 3 s es && (es.all isVl && lenOk es.length)
def indexFE : Ent := (61, fun xs _ => match xs with
  | [.slice es s t, .func (.func g) [] []] => some (.nm ((es.map vlOf).all okV) fun y => .nm (if y then -1 else ((es.map vlOf).findIdx (fun x => !okV x) : Int)) fun i => .pure (isRight1 g && vlsOk es s) (.int .i64 i))
  | _ => none)
def containsFE : Ent := (52, fun xs _ => match xs with
  | [.slice es s t, .func (.func g) [] []] => some (.pure (isRight1 g && vlsOk es s) (.bool (hold (!(es.map vlOf).all okV))))
  | _ => none)
def rightE : Ent := (34, fun xs _ => match xs with
  | [.slice es s t] => some (.pure (vlsOk es s) (.bool (hold ((es.map vlOf).all okV))))
  | _ => none)
def bytesE : Ent := (30, fun xs _ => match xs with
  | [.agg [.int .i64 k, .int .i64 n, .str s]] => some (.nm (okV ⟨k, n, s⟩) fun o => .nm (if o then bytesV ⟨k, n, s⟩ else []) fun y => .pure (i64r n) (.tuple [.slice (bw y) 1 .ro, .int .i64 (if o then 0 else 22)]))
  | _ => none)
def vtextE : Ent := (58, fun xs _ => match xs with
  | [.slice es s t] => some (.nm (txtV ((es.map AL.byteOf).drop 1) [] 1) fun y => .pure (okW 1 s es && (es.all byteIs && hold (decide (es.length ≤ 1000000)))) (.tuple [.agg [.int .i64 (if y.2.2 = 0 then 2 else 0), .int .i64 0, .str (if y.2.2 = 0 then y.1 else [])], .int .i64 (y.2.1 : Int), .int .i64 y.2.2]))
  | _ => none)
def takeE : Ent := (44, fun xs _ => match xs with
  | [.slice es s t] => some (.nm (takeV (es.map AL.byteOf)) fun y => .pure (okW 1 s es && (es.all byteIs && hold (decide (es.length ≤ 1000000)))) (.tuple [.agg [.int .i64 y.1.k, .int .i64 y.1.n, .str y.1.s], .int .i64 (y.2.1 : Int), .int .i64 y.2.2]))
  | _ => none)
/-- The references. -/
def rightRE : Ent := (28, fun xs _ => match xs with
  | [.agg [.int .i64 k, .int .i64 n, .str s]] => some (.pure true (.bool (hold (okV ⟨k, n, s⟩))))
  | _ => none)
def bytesRE : Ent := (46, fun xs _ => match xs with
  | [.agg [.int .i64 k, .int .i64 n, .str s]] => some (.nm (bytesV ⟨k, n, s⟩) fun y => .pure (i64r n && lenT s) (.slice (bw y) 1 .ro))
  | _ => none)
def takeRE : Ent := (45, fun xs _ => match xs with
  | [.slice es s t] => some (.nm (takeV (es.map AL.byteOf)) fun y => .pure (okW 1 s es && (es.all byteIs && hold (decide (es.length ≤ 1000000)))) (.tuple [.agg [.int .i64 y.1.k, .int .i64 y.1.n, .str y.1.s], .int .i64 (y.2.1 : Int), .int .i64 y.2.2]))
  | _ => none)
end
end Go.Proofs.Ytbghpjamahgegaa.V
end

section
set_option maxRecDepth 100000
set_option maxHeartbeats 0
set_option linter.unusedVariables false
namespace Go.Proofs.Ytbghpjamahgegaa.V
open Go.AL Go.Proofs
noncomputable def cThing : Cfg := { keep := [0, 1, 2, 3, 15], cut := [] }
noncomputable def cRight1 : Cfg := { keep := [0, 1, 2], cut := [], orc := ofList [thingE] }
noncomputable def cIndexF : Cfg := { keep := [0, 1, 4, 5, 7, 8, 9, 16], cut := [(5, [0, 1, 7, 8], [])], orc := ofList [right1E] }
noncomputable def cContainsF : Cfg := { keep := [0, 1, 4], cut := [], orc := ofList [indexFE] }
noncomputable def cRight : Cfg := { keep := [0, 2], cut := [], orc := ofList [containsFE] }
noncomputable def cBytes : Cfg := { keep := [0, 1, 2, 3, 4, 5, 6, 7, 8, 9, 10, 11, 12, 20, 23, 42, 45, 46, 47, 58], cut := [(13, [4, 5, 7, 8], []), (31, [9, 11, 45, 46], []), (18, [4, 7], []), (42, [11], [])], orc := ofList [thingE], grow := [(7, 1), (11, 1)] }
noncomputable def cText : Cfg := { keep := [0, 2, 3, 4, 5, 6, 10, 17, 22, 30, 40, 44, 51], cut := [(7, [0, 2, 5, 6], [2]), (38, [2], [2])], grow := [(5, 1)] }
noncomputable def cTake : Cfg := { keep := [0, 2, 3, 4, 5, 7, 8, 13, 23, 29, 35, 36, 37, 38], cut := [(23, [2, 5, 35, 36, 37], [2]), (30, [2, 5], [2])], orc := ofList [vtextE] }
noncomputable def cRightR : Cfg := { keep := [0, 1, 2], cut := [] }
noncomputable def cBytesR : Cfg := { keep := [0, 1, 2, 3, 4, 5, 6, 7, 10, 16, 35, 42], cut := [(11, [1, 3, 4, 5], [1]), (25, [1, 6, 7], [1]), (18, [1, 4], [1]), (34, [6], [])], grow := [(4, 1001), (6, 1)], rdo := [24, 29] }
noncomputable def cTakeR : Cfg := { keep := [0, 2, 3, 4, 5, 6, 7, 8, 9, 10, 13, 18, 21, 24, 42, 47, 58, 63, 70, 80, 84], cut := [(17, [0, 2, 5, 6], [2]), (33, [0, 2, 7, 8], [2]), (22, [0, 2, 5], [2]), (54, [0, 2, 7, 8, 9, 10], [2]), (62, [2], [2])] }
noncomputable def code_28_ : Code := (Try.f28.body).getD .skip
noncomputable def code_30_ : Code := (Try.f30.body).getD .skip
noncomputable def code_34_ : Code := (Try.f34.body).getD .skip
noncomputable def code_44_ : Code := (Try.f44.body).getD .skip
noncomputable def code_45_ : Code := (Try.f45.body).getD .skip
noncomputable def code_46_ : Code := (Try.f46.body).getD .skip
noncomputable def code_49_ : Code := (Try.f49.body).getD .skip
noncomputable def code_52_ : Code := (Try.f52.body).getD .skip
noncomputable def code_53_ : Code := (Try.f53.body).getD .skip
noncomputable def code_58_ : Code := (Try.f58.body).getD .skip
noncomputable def code_61_ : Code := (Try.f61.body).getD .skip
noncomputable def code_46_1_1 : Code := codeAt code_46_ [1, 1]
noncomputable def code_61_1_1 : Code := codeAt code_61_ [1, 1]
noncomputable def code_30_1_1_1 : Code := codeAt code_30_ [1, 1, 1]
noncomputable def code_45_1_1_1 : Code := codeAt code_45_ [1, 1, 1]
noncomputable def code_58_1_1_1 : Code := codeAt code_58_ [1, 1, 1]
noncomputable def code_44_1_1_1_1 : Code := codeAt code_44_ [1, 1, 1, 1]
noncomputable def code_46_1_1_1_1 : Code := codeAt code_46_ [1, 1, 1, 1]
noncomputable def code_61_1_0_1_0_0 : Code := codeAt code_61_ [1, 0, 1, 0, 0]
noncomputable def code_58_1_1_0_1_0_0 : Code := codeAt code_58_ [1, 1, 0, 1, 0, 0]
noncomputable def code_30_1_1_1_1_1_1_1 : Code := codeAt code_30_ [1, 1, 1, 1, 1, 1, 1]
noncomputable def code_44_1_1_1_0_1_0_0 : Code := codeAt code_44_ [1, 1, 1, 0, 1, 0, 0]
noncomputable def code_45_1_1_1_1_1_1_1 : Code := codeAt code_45_ [1, 1, 1, 1, 1, 1, 1]
noncomputable def code_46_1_0_1_0_1_1_1 : Code := codeAt code_46_ [1, 0, 1, 0, 1, 1, 1]
noncomputable def code_46_1_1_1_0_1_0_0 : Code := codeAt code_46_ [1, 1, 1, 0, 1, 0, 0]
noncomputable def code_30_1_1_0_1_1_0_1_1 : Code := codeAt code_30_ [1, 1, 0, 1, 1, 0, 1, 1]
noncomputable def code_45_1_1_0_1_0_1_1_1 : Code := codeAt code_45_ [1, 1, 0, 1, 0, 1, 1, 1]
noncomputable def code_45_1_1_1_1_1_1_0_0_0 : Code := codeAt code_45_ [1, 1, 1, 1, 1, 1, 0, 0, 0]
noncomputable def code_30_1_1_1_1_1_1_0_1_0_0 : Code := codeAt code_30_ [1, 1, 1, 1, 1, 1, 0, 1, 0, 0]
noncomputable def code_46_1_0_1_0_1_1_0_1_0_0 : Code := codeAt code_46_ [1, 0, 1, 0, 1, 1, 0, 1, 0, 0]
noncomputable def code_30_1_1_0_1_1_0_1_0_1_0_0 : Code := codeAt code_30_ [1, 1, 0, 1, 1, 0, 1, 0, 1, 0, 0]
noncomputable def code_45_1_1_0_1_0_1_1_0_1_0_0 : Code := codeAt code_45_ [1, 1, 0, 1, 0, 1, 1, 0, 1, 0, 0]
noncomputable def code_45_1_1_1_1_1_1_0_0_0_1_0_1_1_1 : Code := codeAt code_45_ [1, 1, 1, 1, 1, 1, 0, 0, 0, 1, 0, 1, 1, 1]
theorem thing_r (k n : Int) (s : Txt) (Q : AVal → Sto → Prop) : vc Try.prog cThing code_49_ (endK Try.prog Try.f49.results.toList Q) (St.start Try.f49.ntmps [.agg [.int .i64 k, .int .i64 n, .str s]] (Sto.empty)) =
  (brV (hold (k == (1 : Int))) true (brV (hold (s == [])) true (Q (AVal.iface 3 (AVal.int IntKind.i64 n)) Sto.empty) (brV (hold (k == (2 : Int))) true (brV (hold (n == (0 : Int))) true (brV (hold (decide ((↑(List.length s) : Int) ≤ (200 : Int)))) true (Q (AVal.iface 9 (AVal.str s)) Sto.empty) (Q AVal.nilIface Sto.empty)) (Q AVal.nilIface Sto.empty)) (Q AVal.nilIface Sto.empty))) (brV (hold (k == (2 : Int))) true (brV (hold (n == (0 : Int))) true (brV (hold (decide ((↑(List.length s) : Int) ≤ (200 : Int)))) true (Q (AVal.iface 9 (AVal.str s)) Sto.empty) (Q AVal.nilIface Sto.empty)) (Q AVal.nilIface Sto.empty)) (Q AVal.nilIface Sto.empty))) := by kernel_rfl
theorem thing_i (k n : Int) (s : Txt) (Q : AVal → Sto → Prop) (ho : OrcOk Try.prog cThing) (h : brV (hold (k == (1 : Int))) true (brV (hold (s == [])) true (Q (AVal.iface 3 (AVal.int IntKind.i64 n)) Sto.empty) (brV (hold (k == (2 : Int))) true (brV (hold (n == (0 : Int))) true (brV (hold (decide ((↑(List.length s) : Int) ≤ (200 : Int)))) true (Q (AVal.iface 9 (AVal.str s)) Sto.empty) (Q AVal.nilIface Sto.empty)) (Q AVal.nilIface Sto.empty)) (Q AVal.nilIface Sto.empty))) (brV (hold (k == (2 : Int))) true (brV (hold (n == (0 : Int))) true (brV (hold (decide ((↑(List.length s) : Int) ≤ (200 : Int)))) true (Q (AVal.iface 9 (AVal.str s)) Sto.empty) (Q AVal.nilIface Sto.empty)) (Q AVal.nilIface Sto.empty)) (Q AVal.nilIface Sto.empty))) : ACall Try.prog 49 [.agg [.int .i64 k, .int .i64 n, .str s]] (Sto.empty) Q :=
  ACall.intro hmix Try.func49 (c := code_49_) (by kernel_rfl) cThing ho (Nat.le_of_ble_eq_true (by kernel_rfl)) (by rw [thing_r]; exact h)
theorem right1_r (k n : Int) (s : Txt) (Q : AVal → Sto → Prop) : vc Try.prog cRight1 code_53_ (endK Try.prog Try.f53.results.toList Q) (St.start Try.f53.ntmps [.agg [.int .i64 k, .int .i64 n, .str s]] (Sto.empty)) =
  (brV (hold (decide (k = (1 : Int) ∧ List.length s = 0))) true (Q (AVal.bool false) Sto.empty) (brV (hold (decide (k = (2 : Int) ∧ n = (0 : Int) ∧ List.length s ≤ 200))) true (Q (AVal.bool false) Sto.empty) (Q (AVal.bool true) Sto.empty))) := by kernel_rfl
theorem right1_i (k n : Int) (s : Txt) (Q : AVal → Sto → Prop) (ho : OrcOk Try.prog cRight1) (h : brV (hold (decide (k = (1 : Int) ∧ List.length s = 0))) true (Q (AVal.bool false) Sto.empty) (brV (hold (decide (k = (2 : Int) ∧ n = (0 : Int) ∧ List.length s ≤ 200))) true (Q (AVal.bool false) Sto.empty) (Q (AVal.bool true) Sto.empty))) : ACall Try.prog 53 [.agg [.int .i64 k, .int .i64 n, .str s]] (Sto.empty) Q :=
  ACall.intro hmix Try.func53 (c := code_53_) (by kernel_rfl) cRight1 ho (Nat.le_of_ble_eq_true (by kernel_rfl)) (by rw [right1_r]; exact h)
theorem indexF_r (l : List Vl) (Q : AVal → Sto → Prop) : vc Try.prog cIndexF code_61_ (endK Try.prog Try.f61.results.toList Q) (St.start Try.f61.ntmps [.slice (vlv l) 3 .ro, .func (.func 53) [] []] (Sto.empty)) =
  (loopV (fun s => St.norm [] [0, 1, 7, 8] [] s) (vc Try.prog cIndexF code_61_1_0_1_0_0) (blockK 0 (thenK (vc Try.prog cIndexF code_61_1_1 (endK Try.prog (Array.toList (Go.Func.results Try.f61)) Q)) (endK Try.prog (Array.toList (Go.Func.results Try.f61)) Q))) (St.mk 19 [(0, AVal.slice (vlv l) 3 Tag.ro), (1, AVal.func (Go.Fn.func 53) [] []), (7, AVal.int IntKind.i64 (↑(List.length (vlv l)) : Int)), (8, AVal.int IntKind.i64 (0 : Int))] [] [] Sto.empty)) := by kernel_rfl
theorem indexF_i (l : List Vl) (Q : AVal → Sto → Prop) (ho : OrcOk Try.prog cIndexF) (h : loopV (fun s => St.norm [] [0, 1, 7, 8] [] s) (vc Try.prog cIndexF code_61_1_0_1_0_0) (blockK 0 (thenK (vc Try.prog cIndexF code_61_1_1 (endK Try.prog (Array.toList (Go.Func.results Try.f61)) Q)) (endK Try.prog (Array.toList (Go.Func.results Try.f61)) Q))) (St.mk 19 [(0, AVal.slice (vlv l) 3 Tag.ro), (1, AVal.func (Go.Fn.func 53) [] []), (7, AVal.int IntKind.i64 (↑(List.length (vlv l)) : Int)), (8, AVal.int IntKind.i64 (0 : Int))] [] [] Sto.empty)) : ACall Try.prog 61 [.slice (vlv l) 3 .ro, .func (.func 53) [] []] (Sto.empty) Q :=
  ACall.intro hmix Try.func61 (c := code_61_) (by kernel_rfl) cIndexF ho (Nat.le_of_ble_eq_true (by kernel_rfl)) (by rw [indexF_r]; exact h)
noncomputable def indexFL_S (l : List Vl) (n i : Nat) : St := St.mk 19 [(0, .slice (vlv l) 3 .ro), (1, .func (.func 53) [] []), (7, .int .i64 (n : Int)), (8, .int .i64 (i : Int))] [] [] (Sto.empty)
noncomputable abbrev indexFL_C : Code := code_61_1_0_1_0_0
theorem indexFL_r (l : List Vl) (n i : Nat) (L : St → Prop) (K : Exit → St → Prop) : vc Try.prog cIndexF code_61_1_0_1_0_0 (thenK (fun s => L (St.norm [] [0, 1, 7, 8] [] s)) K) (St.mk 19 [(0, .slice (vlv l) 3 .ro), (1, .func (.func 53) [] []), (7, .int .i64 (n : Int)), (8, .int .i64 (i : Int))] [] [] (Sto.empty)) =
  (brV (hold (decide ((↑i : Int) < (↑n : Int)))) true (gb (decide ((0 : Int) ≤ (↑i : Int) ∧ (↑i : Int) < (↑(List.length (vlv l)) : Int))) (gb (decide (3 ≤ List.length (elemAt (vlv l) (↑i : Int)) ∧ 0 < 3) && (etaOk (Sh.int IntKind.i64) (List.getD (elemAt (vlv l) (↑i : Int)) 0 AVal.undef) && (etaOk (Sh.int IntKind.i64) (List.getD (elemAt (vlv l) (↑i : Int)) 1 AVal.undef) && (etaOk Sh.str (List.getD (elemAt (vlv l) (↑i : Int)) 2 AVal.undef) && true)))) (brV (hold !okV (Vl.mk (AVal.intOf (List.getD (elemAt (vlv l) (↑i : Int)) 0 AVal.undef)) (AVal.intOf (List.getD (elemAt (vlv l) (↑i : Int)) 1 AVal.undef)) (AVal.strOf (List.getD (elemAt (vlv l) (↑i : Int)) 2 AVal.undef)))) true (K Exit.ret (St.mk 19 [(0, AVal.slice (vlv l) 3 Tag.ro), (1, AVal.func (Go.Fn.func 53) [] []), (7, AVal.int IntKind.i64 (↑n : Int)), (8, AVal.int IntKind.i64 (↑i : Int)), (9, AVal.bool (hold (decide ((↑i : Int) < (↑n : Int))))), (5, AVal.int IntKind.i64 (↑i : Int)), (16, AVal.bool (hold !okV (Vl.mk (AVal.intOf (List.getD (elemAt (vlv l) (↑i : Int)) 0 AVal.undef)) (AVal.intOf (List.getD (elemAt (vlv l) (↑i : Int)) 1 AVal.undef)) (AVal.strOf (List.getD (elemAt (vlv l) (↑i : Int)) 2 AVal.undef))))), (4, AVal.int IntKind.i64 (↑i : Int))] [] [] Sto.empty)) (L (St.mk 19 [(0, AVal.slice (vlv l) 3 Tag.ro), (1, AVal.func (Go.Fn.func 53) [] []), (7, AVal.int IntKind.i64 (↑n : Int)), (8, AVal.int IntKind.i64 (IntKind.wrap IntKind.i64 ((↑i : Int) + (1 : Int))))] [] [] Sto.empty))))) (K (Exit.exit 0) (St.mk 19 [(0, AVal.slice (vlv l) 3 Tag.ro), (1, AVal.func (Go.Fn.func 53) [] []), (7, AVal.int IntKind.i64 (↑n : Int)), (8, AVal.int IntKind.i64 (↑i : Int)), (9, AVal.bool (hold (decide ((↑i : Int) < (↑n : Int)))))] [] [] Sto.empty))) := by kernel_rfl
theorem containsF_r (l : List Vl) (Q : AVal → Sto → Prop) : vc Try.prog cContainsF code_52_ (endK Try.prog Try.f52.results.toList Q) (St.start Try.f52.ntmps [.slice (vlv l) 3 .ro, .func (.func 53) [] []] (Sto.empty)) =
  (∀ (y : Bool), y = List.all (List.map vlOf (vlv l)) okV → ∀ (y_1 : Int), (y_1 = if y = true then (-1 : Int) else (↑(List.findIdx (fun (x : Vl) ↦ !okV x) (List.map vlOf (vlv l))) : Int)) → gb (vlsOk (vlv l) 3) (Q (AVal.bool (hold (decide ((0 : Int) ≤ y_1)))) Sto.empty)) := by kernel_rfl
theorem containsF_i (l : List Vl) (Q : AVal → Sto → Prop) (ho : OrcOk Try.prog cContainsF) (h : ∀ (y : Bool), y = List.all (List.map vlOf (vlv l)) okV → ∀ (y_1 : Int), (y_1 = if y = true then (-1 : Int) else (↑(List.findIdx (fun (x : Vl) ↦ !okV x) (List.map vlOf (vlv l))) : Int)) → gb (vlsOk (vlv l) 3) (Q (AVal.bool (hold (decide ((0 : Int) ≤ y_1)))) Sto.empty)) : ACall Try.prog 52 [.slice (vlv l) 3 .ro, .func (.func 53) [] []] (Sto.empty) Q :=
  ACall.intro hmix Try.func52 (c := code_52_) (by kernel_rfl) cContainsF ho (Nat.le_of_ble_eq_true (by kernel_rfl)) (by rw [containsF_r]; exact h)
theorem right_r (l : List Vl) (Q : AVal → Sto → Prop) : vc Try.prog cRight code_34_ (endK Try.prog Try.f34.results.toList Q) (St.start Try.f34.ntmps [.slice (vlv l) 3 .ro] (Sto.empty)) =
  (gb (vlsOk (vlv l) 3) (Q (AVal.bool !hold !List.all (List.map vlOf (vlv l)) okV) Sto.empty)) := by kernel_rfl
theorem right_i (l : List Vl) (Q : AVal → Sto → Prop) (ho : OrcOk Try.prog cRight) (h : gb (vlsOk (vlv l) 3) (Q (AVal.bool !hold !List.all (List.map vlOf (vlv l)) okV) Sto.empty)) : ACall Try.prog 34 [.slice (vlv l) 3 .ro] (Sto.empty) Q :=
  ACall.intro hmix Try.func34 (c := code_34_) (by kernel_rfl) cRight ho (Nat.le_of_ble_eq_true (by kernel_rfl)) (by rw [right_r]; exact h)
theorem bytes_r (k n : Int) (s : Txt) (Q : AVal → Sto → Prop) : vc Try.prog cBytes code_30_ (endK Try.prog Try.f30.results.toList Q) (St.start Try.f30.ntmps [.agg [.int .i64 k, .int .i64 n, .str s]] (Sto.empty)) =
  (brV (hold (decide (k = (1 : Int) ∧ List.length s = 0))) true (loopV (fun s => St.norm [(7, 1), (11, 1)] [4, 5, 7, 8] [] s) (vc Try.prog cBytes code_30_1_1_0_1_1_0_1_0_1_0_0) (blockK 0 (thenK (fun s => cutV (vc Try.prog cBytes code_30_1_1_0_1_1_0_1_1 (thenK (vc Try.prog cBytes code_30_1_1_1 (endK Try.prog (Array.toList (Go.Func.results Try.f30)) Q)) (endK Try.prog (Array.toList (Go.Func.results Try.f30)) Q))) (St.norm [(7, 1), (11, 1)] [4, 7] [] s)) (thenK (vc Try.prog cBytes code_30_1_1_1 (endK Try.prog (Array.toList (Go.Func.results Try.f30)) Q)) (endK Try.prog (Array.toList (Go.Func.results Try.f30)) Q)))) (St.mk 66 [(4, AVal.iface 3 (AVal.int IntKind.i64 n)), (5, AVal.int IntKind.i64 n), (7, AVal.slice [AVal.int IntKind.u8 (1 : Int)] 1 (Tag.own 0)), (8, AVal.int IntKind.i64 (56 : Int))] [] [] (Sto.pushOwn Sto.empty 1))) (brV (hold (decide (k = (2 : Int) ∧ n = (0 : Int) ∧ List.length s ≤ 200))) true (loopV (fun s => St.norm [(7, 1), (11, 1)] [9, 11, 45, 46] [] s) (vc Try.prog cBytes code_30_1_1_1_1_1_1_0_1_0_0) (blockK 2 (thenK (fun s => cutV (vc Try.prog cBytes code_30_1_1_1_1_1_1_1 (endK Try.prog (Array.toList (Go.Func.results Try.f30)) Q)) (St.norm [(7, 1), (11, 1)] [11] [] s)) (endK Try.prog (Array.toList (Go.Func.results Try.f30)) Q))) (St.mk 66 [(9, AVal.str s), (11, AVal.slice [AVal.int IntKind.u8 (2 : Int)] 1 (Tag.own 0)), (45, AVal.int IntKind.i64 (↑(List.length s) : Int)), (46, AVal.int IntKind.i64 (0 : Int))] [] [] (Sto.pushOwn Sto.empty 1))) (Q (AVal.tuple [AVal.slice [] 0 Tag.nil, AVal.int IntKind.i64 (22 : Int)]) Sto.empty))) := by kernel_rfl
theorem bytes_i (k n : Int) (s : Txt) (Q : AVal → Sto → Prop) (ho : OrcOk Try.prog cBytes) (h : brV (hold (decide (k = (1 : Int) ∧ List.length s = 0))) true (loopV (fun s => St.norm [(7, 1), (11, 1)] [4, 5, 7, 8] [] s) (vc Try.prog cBytes code_30_1_1_0_1_1_0_1_0_1_0_0) (blockK 0 (thenK (fun s => cutV (vc Try.prog cBytes code_30_1_1_0_1_1_0_1_1 (thenK (vc Try.prog cBytes code_30_1_1_1 (endK Try.prog (Array.toList (Go.Func.results Try.f30)) Q)) (endK Try.prog (Array.toList (Go.Func.results Try.f30)) Q))) (St.norm [(7, 1), (11, 1)] [4, 7] [] s)) (thenK (vc Try.prog cBytes code_30_1_1_1 (endK Try.prog (Array.toList (Go.Func.results Try.f30)) Q)) (endK Try.prog (Array.toList (Go.Func.results Try.f30)) Q)))) (St.mk 66 [(4, AVal.iface 3 (AVal.int IntKind.i64 n)), (5, AVal.int IntKind.i64 n), (7, AVal.slice [AVal.int IntKind.u8 (1 : Int)] 1 (Tag.own 0)), (8, AVal.int IntKind.i64 (56 : Int))] [] [] (Sto.pushOwn Sto.empty 1))) (brV (hold (decide (k = (2 : Int) ∧ n = (0 : Int) ∧ List.length s ≤ 200))) true (loopV (fun s => St.norm [(7, 1), (11, 1)] [9, 11, 45, 46] [] s) (vc Try.prog cBytes code_30_1_1_1_1_1_1_0_1_0_0) (blockK 2 (thenK (fun s => cutV (vc Try.prog cBytes code_30_1_1_1_1_1_1_1 (endK Try.prog (Array.toList (Go.Func.results Try.f30)) Q)) (St.norm [(7, 1), (11, 1)] [11] [] s)) (endK Try.prog (Array.toList (Go.Func.results Try.f30)) Q))) (St.mk 66 [(9, AVal.str s), (11, AVal.slice [AVal.int IntKind.u8 (2 : Int)] 1 (Tag.own 0)), (45, AVal.int IntKind.i64 (↑(List.length s) : Int)), (46, AVal.int IntKind.i64 (0 : Int))] [] [] (Sto.pushOwn Sto.empty 1))) (Q (AVal.tuple [AVal.slice [] 0 Tag.nil, AVal.int IntKind.i64 (22 : Int)]) Sto.empty))) : ACall Try.prog 30 [.agg [.int .i64 k, .int .i64 n, .str s]] (Sto.empty) Q :=
  ACall.intro hmix Try.func30 (c := code_30_) (by kernel_rfl) cBytes ho (Nat.le_of_ble_eq_true (by kernel_rfl)) (by rw [bytes_r]; exact h)
noncomputable def bytesN_S (n : Int) (o : Txt) (i : Int) : St := St.mk 66 [(4, .iface 3 (.int .i64 n)), (5, .int .i64 n), (7, .slice (bw o) 1 (.own 0)), (8, .int .i64 i)] [] [] (Sto.pushOwn Sto.empty (bw o).length)
noncomputable abbrev bytesN_C : Code := code_30_1_1_0_1_1_0_1_0_1_0_0
theorem bytesN_r (n : Int) (o : Txt) (i : Int) (L : St → Prop) (K : Exit → St → Prop) : vc Try.prog cBytes code_30_1_1_0_1_1_0_1_0_1_0_0 (thenK (fun s => L (St.norm [(7, 1), (11, 1)] [4, 5, 7, 8] [] s)) K) (St.mk 66 [(4, .iface 3 (.int .i64 n)), (5, .int .i64 n), (7, .slice (bw o) 1 (.own 0)), (8, .int .i64 i)] [] [] (Sto.pushOwn Sto.empty (bw o).length)) =
  (brV (hold (decide ((0 : Int) ≤ i))) true (gb (decide ((0 : Int) ≤ i)) (gb (decide (decide (true = true ∧ some (List.length (bw o)) = some (List.length (bw o)) ∧ (List.length (bw o) + 1) * 1 ≤ 140737488355328 ∧ List.length (bw o) + 1 ≤ 9223372036854775807) = true ∧ true = true)) (L (St.mk 66 [(4, AVal.iface 3 (AVal.int IntKind.i64 n)), (5, AVal.int IntKind.i64 n), (7, AVal.slice (bw o ++ [AVal.int IntKind.u8 (IntKind.wrap IntKind.u8 (Int.fdiv (Go.bits Go.BinOp.xor IntKind.u64 (IntKind.wrap IntKind.u64 n) (9223372036854775808 : Int)) ((2 : Int) ^ Min.min (Int.toNat i) 64)))]) 1 (Tag.own 0)), (8, AVal.int IntKind.i64 (IntKind.wrap IntKind.i64 (i - (8 : Int))))] [] [] (Sto.setOwn (Sto.pushOwn Sto.empty (List.length (bw o))) 0 (List.length (bw o) + 1)))))) (K (Exit.exit 0) (St.mk 66 [(4, AVal.iface 3 (AVal.int IntKind.i64 n)), (5, AVal.int IntKind.i64 n), (7, AVal.slice (bw o) 1 (Tag.own 0)), (8, AVal.int IntKind.i64 i), (23, AVal.bool (hold (decide ((0 : Int) ≤ i))))] [] [] (Sto.pushOwn Sto.empty (List.length (bw o)))))) := by kernel_rfl
noncomputable def bytesT_S (s o : Txt) (n i : Nat) : St := St.mk 66 [(9, .str s), (11, .slice (bw o) 1 (.own 0)), (45, .int .i64 (n : Int)), (46, .int .i64 (i : Int))] [] [] (Sto.pushOwn Sto.empty (bw o).length)
noncomputable abbrev bytesT_C : Code := code_30_1_1_1_1_1_1_0_1_0_0
theorem bytesT_r (s o : Txt) (n i : Nat) (L : St → Prop) (K : Exit → St → Prop) : vc Try.prog cBytes code_30_1_1_1_1_1_1_0_1_0_0 (thenK (fun s => L (St.norm [(7, 1), (11, 1)] [9, 11, 45, 46] [] s)) K) (St.mk 66 [(9, .str s), (11, .slice (bw o) 1 (.own 0)), (45, .int .i64 (n : Int)), (46, .int .i64 (i : Int))] [] [] (Sto.pushOwn Sto.empty (bw o).length)) =
  (brV (hold (decide ((↑i : Int) < (↑n : Int)))) true (gb (decide ((0 : Int) ≤ (↑i : Int) ∧ (↑i : Int) < (↑(List.length s) : Int))) (gb (decide (decide (true = true ∧ some (List.length (bw o)) = some (List.length (bw o)) ∧ (List.length (bw o) + 1) * 1 ≤ 140737488355328 ∧ List.length (bw o) + 1 ≤ 9223372036854775807) = true ∧ true = true)) (gb (decide ((0 : Int) ≤ (↑i : Int) ∧ (↑i : Int) < (↑(List.length s) : Int))) (brV (hold ((↑(UInt8.toNat (List.getD s (Int.toNat (↑i : Int)) (0 : UInt8))) : Int) == (0 : Int))) true (gb (decide (decide (true = true ∧ some (List.length (bw o) + 1) = some (List.length (bw o ++ [AVal.int IntKind.u8 (↑(UInt8.toNat (List.getD s (Int.toNat (↑i : Int)) (0 : UInt8))) : Int)])) ∧ (List.length (bw o ++ [AVal.int IntKind.u8 (↑(UInt8.toNat (List.getD s (Int.toNat (↑i : Int)) (0 : UInt8))) : Int)]) + 1) * 1 ≤ 140737488355328 ∧ List.length (bw o ++ [AVal.int IntKind.u8 (↑(UInt8.toNat (List.getD s (Int.toNat (↑i : Int)) (0 : UInt8))) : Int)]) + 1 ≤ 9223372036854775807) = true ∧ true = true)) (L (St.mk 66 [(9, AVal.str s), (11, AVal.slice (bw o ++ [AVal.int IntKind.u8 (↑(UInt8.toNat (List.getD s (Int.toNat (↑i : Int)) (0 : UInt8))) : Int)] ++ [AVal.int IntKind.u8 (255 : Int)]) 1 (Tag.own 0)), (45, AVal.int IntKind.i64 (↑n : Int)), (46, AVal.int IntKind.i64 (IntKind.wrap IntKind.i64 ((↑i : Int) + (1 : Int))))] [] [] (Sto.setOwn (Sto.setOwn (Sto.pushOwn Sto.empty (List.length (bw o))) 0 (List.length (bw o) + 1)) 0 (List.length (bw o ++ [AVal.int IntKind.u8 (↑(UInt8.toNat (List.getD s (Int.toNat (↑i : Int)) (0 : UInt8))) : Int)]) + 1))))) (L (St.mk 66 [(9, AVal.str s), (11, AVal.slice (bw o ++ [AVal.int IntKind.u8 (↑(UInt8.toNat (List.getD s (Int.toNat (↑i : Int)) (0 : UInt8))) : Int)]) 1 (Tag.own 0)), (45, AVal.int IntKind.i64 (↑n : Int)), (46, AVal.int IntKind.i64 (IntKind.wrap IntKind.i64 ((↑i : Int) + (1 : Int))))] [] [] (Sto.setOwn (Sto.pushOwn Sto.empty (List.length (bw o))) 0 (List.length (bw o) + 1)))))))) (K (Exit.exit 2) (St.mk 66 [(9, AVal.str s), (11, AVal.slice (bw o) 1 (Tag.own 0)), (45, AVal.int IntKind.i64 (↑n : Int)), (46, AVal.int IntKind.i64 (↑i : Int)), (47, AVal.bool (hold (decide ((↑i : Int) < (↑n : Int)))))] [] [] (Sto.pushOwn Sto.empty (List.length (bw o)))))) := by kernel_rfl
noncomputable def bytesNF_S (n : Int) (o : Txt) : St := St.mk 66 [(4, .iface 3 (.int .i64 n)), (7, .slice (bw o) 1 (.own 0))] [] [] (Sto.pushOwn Sto.empty (bw o).length)
noncomputable abbrev bytesNF_C : Code := code_30_1_1_0_1_1_0_1_1
theorem bytesNF_r (n : Int) (o : Txt) (K : Exit → St → Prop) : vc Try.prog cBytes code_30_1_1_0_1_1_0_1_1 K (St.mk 66 [(4, .iface 3 (.int .i64 n)), (7, .slice (bw o) 1 (.own 0))] [] [] (Sto.pushOwn Sto.empty (bw o).length)) =
  (K Exit.ret (St.mk 66 [(4, AVal.iface 3 (AVal.int IntKind.i64 n)), (7, AVal.slice (bw o) 1 (Tag.own 0)), (2, AVal.slice (bw o) 1 (Tag.own 0)), (3, AVal.int IntKind.i64 (0 : Int))] [] [] (Sto.pushOwn Sto.empty (List.length (bw o))))) := by kernel_rfl
noncomputable def bytesTF_S (o : Txt) : St := St.mk 66 [(11, .slice (bw o) 1 (.own 0))] [] [] (Sto.pushOwn Sto.empty (bw o).length)
noncomputable abbrev bytesTF_C : Code := code_30_1_1_1_1_1_1_1
theorem bytesTF_r (o : Txt) (Q : AVal → Sto → Prop) : vc Try.prog cBytes code_30_1_1_1_1_1_1_1 (endK Try.prog Try.f30.results.toList Q) (St.mk 66 [(11, .slice (bw o) 1 (.own 0))] [] [] (Sto.pushOwn Sto.empty (bw o).length)) =
  (gb (decide (decide (true = true ∧ some (List.length (bw o)) = some (List.length (bw o)) ∧ (List.length (bw o) + 2) * 1 ≤ 140737488355328 ∧ List.length (bw o) + 2 ≤ 9223372036854775807) = true ∧ true = true)) (Q (AVal.tuple [AVal.slice (bw o ++ [AVal.int IntKind.u8 (0 : Int), AVal.int IntKind.u8 (0 : Int)]) 1 (Tag.own 0), AVal.int IntKind.i64 (0 : Int)]) (Sto.setOwn (Sto.pushOwn Sto.empty (List.length (bw o))) 0 (List.length (bw o) + 2)))) := by kernel_rfl
theorem vtext_r (b : Txt) (Q : AVal → Sto → Prop) : vc Try.prog cText code_58_ (endK Try.prog Try.f58.results.toList Q) (St.start Try.f58.ntmps [.slice (bw b) 1 .ro] (Sto.empty)) =
  (loopV (fun s => St.norm [(5, 1)] [0, 2, 5, 6] [2] s) (vc Try.prog cText code_58_1_1_0_1_0_0) (blockK 0 (thenK (fun s => cutV (vc Try.prog cText code_58_1_1_1 (endK Try.prog (Array.toList (Go.Func.results Try.f58)) Q)) (St.norm [(5, 1)] [2] [2] s)) (endK Try.prog (Array.toList (Go.Func.results Try.f58)) Q))) (St.mk 61 [(0, AVal.slice (bw b) 1 Tag.ro), (2, AVal.ptr (Oid.loc 2) 0), (5, AVal.slice [] 1 (Tag.own 0)), (6, AVal.int IntKind.i64 (1 : Int))] [] [(2, AObj.cells [AVal.int IntKind.i64 (0 : Int), AVal.int IntKind.i64 (0 : Int), AVal.str []])] (Sto.pushOwn Sto.empty 0))) := by kernel_rfl
theorem vtext_i (b : Txt) (Q : AVal → Sto → Prop) (ho : OrcOk Try.prog cText) (h : loopV (fun s => St.norm [(5, 1)] [0, 2, 5, 6] [2] s) (vc Try.prog cText code_58_1_1_0_1_0_0) (blockK 0 (thenK (fun s => cutV (vc Try.prog cText code_58_1_1_1 (endK Try.prog (Array.toList (Go.Func.results Try.f58)) Q)) (St.norm [(5, 1)] [2] [2] s)) (endK Try.prog (Array.toList (Go.Func.results Try.f58)) Q))) (St.mk 61 [(0, AVal.slice (bw b) 1 Tag.ro), (2, AVal.ptr (Oid.loc 2) 0), (5, AVal.slice [] 1 (Tag.own 0)), (6, AVal.int IntKind.i64 (1 : Int))] [] [(2, AObj.cells [AVal.int IntKind.i64 (0 : Int), AVal.int IntKind.i64 (0 : Int), AVal.str []])] (Sto.pushOwn Sto.empty 0))) : ACall Try.prog 58 [.slice (bw b) 1 .ro] (Sto.empty) Q :=
  ACall.intro hmix Try.func58 (c := code_58_) (by kernel_rfl) cText ho (Nat.le_of_ble_eq_true (by kernel_rfl)) (by rw [vtext_r]; exact h)
noncomputable def vtextL_S (b a : Txt) (i : Nat) : St := St.mk 61 [(0, .slice (bw b) 1 .ro), (2, .ptr (.loc 2) 0), (5, .slice (bw a) 1 (.own 0)), (6, .int .i64 (i : Int))] [] [(2, .cells [.int .i64 0, .int .i64 0, .str []])] (Sto.pushOwn Sto.empty (bw a).length)
noncomputable abbrev vtextL_C : Code := code_58_1_1_0_1_0_0
theorem vtextL_r (b a : Txt) (i : Nat) (L : St → Prop) (K : Exit → St → Prop) : vc Try.prog cText code_58_1_1_0_1_0_0 (thenK (fun s => L (St.norm [(5, 1)] [0, 2, 5, 6] [2] s)) K) (St.mk 61 [(0, .slice (bw b) 1 .ro), (2, .ptr (.loc 2) 0), (5, .slice (bw a) 1 (.own 0)), (6, .int .i64 (i : Int))] [] [(2, .cells [.int .i64 0, .int .i64 0, .str []])] (Sto.pushOwn Sto.empty (bw a).length)) =
  (brV (hold (decide ((↑i : Int) < (↑(List.length (bw b)) : Int)))) true (gb (decide ((0 : Int) ≤ (↑i : Int) ∧ (↑i : Int) < (↑(List.length (bw b)) : Int))) (gb (decide (1 ≤ List.length (elemAt (bw b) (↑i : Int)) ∧ 0 < 1) && etaOk (Sh.int IntKind.u8) (List.getD (elemAt (bw b) (↑i : Int)) 0 AVal.undef)) (brV (hold (AVal.intOf (List.getD (elemAt (bw b) (↑i : Int)) 0 AVal.undef) == (0 : Int))) true (brV (hold (IntKind.wrap IntKind.i64 ((↑i : Int) + (1 : Int)) == (↑(List.length (bw b)) : Int))) true (K Exit.ret (St.mk 61 [(0, AVal.slice (bw b) 1 Tag.ro), (2, AVal.ptr (Oid.loc 2) 0), (5, AVal.slice (bw a) 1 (Tag.own 0)), (6, AVal.int IntKind.i64 (↑i : Int)), (10, AVal.bool (hold (decide ((↑i : Int) < (↑(List.length (bw b)) : Int))))), (17, AVal.bool (hold (AVal.intOf (List.getD (elemAt (bw b) (↑i : Int)) 0 AVal.undef) == (0 : Int)))), (22, AVal.bool (hold (IntKind.wrap IntKind.i64 ((↑i : Int) + (1 : Int)) == (↑(List.length (bw b)) : Int)))), (3, AVal.int IntKind.i64 (0 : Int)), (4, AVal.int IntKind.i64 (20 : Int))] [] [(2, AObj.cells [AVal.int IntKind.i64 (0 : Int), AVal.int IntKind.i64 (0 : Int), AVal.str []])] (Sto.pushOwn Sto.empty (List.length (bw a))))) (gb (decide ((0 : Int) ≤ IntKind.wrap IntKind.i64 ((↑i : Int) + (1 : Int)) ∧ IntKind.wrap IntKind.i64 ((↑i : Int) + (1 : Int)) < (↑(List.length (bw b)) : Int))) (gb (decide (1 ≤ List.length (elemAt (bw b) (IntKind.wrap IntKind.i64 ((↑i : Int) + (1 : Int)))) ∧ 0 < 1) && etaOk (Sh.int IntKind.u8) (List.getD (elemAt (bw b) (IntKind.wrap IntKind.i64 ((↑i : Int) + (1 : Int)))) 0 AVal.undef)) (brV (hold (AVal.intOf (List.getD (elemAt (bw b) (IntKind.wrap IntKind.i64 ((↑i : Int) + (1 : Int)))) 0 AVal.undef) == (0 : Int))) true (gb (decide (List.all (bw a) isU8 = true)) (K Exit.ret (St.mk 61 [(0, AVal.slice (bw b) 1 Tag.ro), (2, AVal.ptr (Oid.loc 2) 0), (5, AVal.slice (bw a) 1 (Tag.own 0)), (6, AVal.int IntKind.i64 (IntKind.wrap IntKind.i64 ((↑i : Int) + (1 : Int)))), (10, AVal.bool (hold (decide ((↑i : Int) < (↑(List.length (bw b)) : Int))))), (17, AVal.bool (hold (AVal.intOf (List.getD (elemAt (bw b) (↑i : Int)) 0 AVal.undef) == (0 : Int)))), (22, AVal.bool (hold (IntKind.wrap IntKind.i64 ((↑i : Int) + (1 : Int)) == (↑(List.length (bw b)) : Int)))), (30, AVal.bool (hold (AVal.intOf (List.getD (elemAt (bw b) (IntKind.wrap IntKind.i64 ((↑i : Int) + (1 : Int)))) 0 AVal.undef) == (0 : Int)))), (3, AVal.int IntKind.i64 (IntKind.wrap IntKind.i64 (IntKind.wrap IntKind.i64 ((↑i : Int) + (1 : Int)) + (1 : Int)))), (4, AVal.int IntKind.i64 (0 : Int))] [] [(2, AObj.cells [AVal.int IntKind.i64 (2 : Int), AVal.int IntKind.i64 (0 : Int), AVal.str (List.map AL.byteOf (bw a))])] (Sto.pushOwn Sto.empty (List.length (bw a)))))) (gb (decide ((0 : Int) ≤ IntKind.wrap IntKind.i64 ((↑i : Int) + (1 : Int)) ∧ IntKind.wrap IntKind.i64 ((↑i : Int) + (1 : Int)) < (↑(List.length (bw b)) : Int))) (gb (decide (1 ≤ List.length (elemAt (bw b) (IntKind.wrap IntKind.i64 ((↑i : Int) + (1 : Int)))) ∧ 0 < 1) && etaOk (Sh.int IntKind.u8) (List.getD (elemAt (bw b) (IntKind.wrap IntKind.i64 ((↑i : Int) + (1 : Int)))) 0 AVal.undef)) (brV (hold (AVal.intOf (List.getD (elemAt (bw b) (IntKind.wrap IntKind.i64 ((↑i : Int) + (1 : Int)))) 0 AVal.undef) != (255 : Int))) true (K Exit.ret (St.mk 61 [(0, AVal.slice (bw b) 1 Tag.ro), (2, AVal.ptr (Oid.loc 2) 0), (5, AVal.slice (bw a) 1 (Tag.own 0)), (6, AVal.int IntKind.i64 (IntKind.wrap IntKind.i64 ((↑i : Int) + (1 : Int)))), (10, AVal.bool (hold (decide ((↑i : Int) < (↑(List.length (bw b)) : Int))))), (17, AVal.bool (hold (AVal.intOf (List.getD (elemAt (bw b) (↑i : Int)) 0 AVal.undef) == (0 : Int)))), (22, AVal.bool (hold (IntKind.wrap IntKind.i64 ((↑i : Int) + (1 : Int)) == (↑(List.length (bw b)) : Int)))), (30, AVal.bool (hold (AVal.intOf (List.getD (elemAt (bw b) (IntKind.wrap IntKind.i64 ((↑i : Int) + (1 : Int)))) 0 AVal.undef) == (0 : Int)))), (40, AVal.bool (hold (AVal.intOf (List.getD (elemAt (bw b) (IntKind.wrap IntKind.i64 ((↑i : Int) + (1 : Int)))) 0 AVal.undef) != (255 : Int)))), (3, AVal.int IntKind.i64 (0 : Int)), (4, AVal.int IntKind.i64 (10 : Int))] [] [(2, AObj.cells [AVal.int IntKind.i64 (0 : Int), AVal.int IntKind.i64 (0 : Int), AVal.str []])] (Sto.pushOwn Sto.empty (List.length (bw a))))) (brV (hold ((↑(List.length (bw a)) : Int) == (200 : Int))) true (K Exit.ret (St.mk 61 [(0, AVal.slice (bw b) 1 Tag.ro), (2, AVal.ptr (Oid.loc 2) 0), (5, AVal.slice (bw a) 1 (Tag.own 0)), (6, AVal.int IntKind.i64 (IntKind.wrap IntKind.i64 ((↑i : Int) + (1 : Int)))), (10, AVal.bool (hold (decide ((↑i : Int) < (↑(List.length (bw b)) : Int))))), (17, AVal.bool (hold (AVal.intOf (List.getD (elemAt (bw b) (↑i : Int)) 0 AVal.undef) == (0 : Int)))), (22, AVal.bool (hold (IntKind.wrap IntKind.i64 ((↑i : Int) + (1 : Int)) == (↑(List.length (bw b)) : Int)))), (30, AVal.bool (hold (AVal.intOf (List.getD (elemAt (bw b) (IntKind.wrap IntKind.i64 ((↑i : Int) + (1 : Int)))) 0 AVal.undef) == (0 : Int)))), (40, AVal.bool (hold (AVal.intOf (List.getD (elemAt (bw b) (IntKind.wrap IntKind.i64 ((↑i : Int) + (1 : Int)))) 0 AVal.undef) != (255 : Int)))), (44, AVal.bool (hold ((↑(List.length (bw a)) : Int) == (200 : Int)))), (3, AVal.int IntKind.i64 (0 : Int)), (4, AVal.int IntKind.i64 (32 : Int))] [] [(2, AObj.cells [AVal.int IntKind.i64 (0 : Int), AVal.int IntKind.i64 (0 : Int), AVal.str []])] (Sto.pushOwn Sto.empty (List.length (bw a))))) (gb (decide (decide (true = true ∧ some (List.length (bw a)) = some (List.length (bw a)) ∧ (List.length (bw a) + 1) * 1 ≤ 140737488355328 ∧ List.length (bw a) + 1 ≤ 9223372036854775807) = true ∧ true = true)) (L (St.mk 61 [(0, AVal.slice (bw b) 1 Tag.ro), (2, AVal.ptr (Oid.loc 2) 0), (5, AVal.slice (bw a ++ [AVal.int IntKind.u8 (0 : Int)]) 1 (Tag.own 0)), (6, AVal.int IntKind.i64 (IntKind.wrap IntKind.i64 (IntKind.wrap IntKind.i64 ((↑i : Int) + (1 : Int)) + (1 : Int))))] [] [(2, AObj.cells [AVal.int IntKind.i64 (0 : Int), AVal.int IntKind.i64 (0 : Int), AVal.str []])] (Sto.setOwn (Sto.pushOwn Sto.empty (List.length (bw a))) 0 (List.length (bw a) + 1))))))))))))) (brV (hold ((↑(List.length (bw a)) : Int) == (200 : Int))) true (K Exit.ret (St.mk 61 [(0, AVal.slice (bw b) 1 Tag.ro), (2, AVal.ptr (Oid.loc 2) 0), (5, AVal.slice (bw a) 1 (Tag.own 0)), (6, AVal.int IntKind.i64 (↑i : Int)), (10, AVal.bool (hold (decide ((↑i : Int) < (↑(List.length (bw b)) : Int))))), (17, AVal.bool (hold (AVal.intOf (List.getD (elemAt (bw b) (↑i : Int)) 0 AVal.undef) == (0 : Int)))), (51, AVal.bool (hold ((↑(List.length (bw a)) : Int) == (200 : Int)))), (3, AVal.int IntKind.i64 (0 : Int)), (4, AVal.int IntKind.i64 (32 : Int))] [] [(2, AObj.cells [AVal.int IntKind.i64 (0 : Int), AVal.int IntKind.i64 (0 : Int), AVal.str []])] (Sto.pushOwn Sto.empty (List.length (bw a))))) (gb (decide ((0 : Int) ≤ (↑i : Int) ∧ (↑i : Int) < (↑(List.length (bw b)) : Int))) (gb (decide (1 ≤ List.length (elemAt (bw b) (↑i : Int)) ∧ 0 < 1) && etaOk (Sh.int IntKind.u8) (List.getD (elemAt (bw b) (↑i : Int)) 0 AVal.undef)) (gb (decide (decide (true = true ∧ some (List.length (bw a)) = some (List.length (bw a)) ∧ (List.length (bw a) + 1) * 1 ≤ 140737488355328 ∧ List.length (bw a) + 1 ≤ 9223372036854775807) = true ∧ true = true)) (L (St.mk 61 [(0, AVal.slice (bw b) 1 Tag.ro), (2, AVal.ptr (Oid.loc 2) 0), (5, AVal.slice (bw a ++ [AVal.int IntKind.u8 (AVal.intOf (List.getD (elemAt (bw b) (↑i : Int)) 0 AVal.undef))]) 1 (Tag.own 0)), (6, AVal.int IntKind.i64 (IntKind.wrap IntKind.i64 ((↑i : Int) + (1 : Int))))] [] [(2, AObj.cells [AVal.int IntKind.i64 (0 : Int), AVal.int IntKind.i64 (0 : Int), AVal.str []])] (Sto.setOwn (Sto.pushOwn Sto.empty (List.length (bw a))) 0 (List.length (bw a) + 1))))))))))) (K (Exit.exit 0) (St.mk 61 [(0, AVal.slice (bw b) 1 Tag.ro), (2, AVal.ptr (Oid.loc 2) 0), (5, AVal.slice (bw a) 1 (Tag.own 0)), (6, AVal.int IntKind.i64 (↑i : Int)), (10, AVal.bool (hold (decide ((↑i : Int) < (↑(List.length (bw b)) : Int)))))] [] [(2, AObj.cells [AVal.int IntKind.i64 (0 : Int), AVal.int IntKind.i64 (0 : Int), AVal.str []])] (Sto.pushOwn Sto.empty (List.length (bw a)))))) := by kernel_rfl
noncomputable def vtextF_S (m : Nat) : St := St.mk 61 [(2, .ptr (.loc 2) 0)] [] [(2, .cells [.int .i64 0, .int .i64 0, .str []])] (Sto.pushOwn Sto.empty m)
noncomputable abbrev vtextF_C : Code := code_58_1_1_1
theorem vtextF_r (m : Nat) (Q : AVal → Sto → Prop) : vc Try.prog cText code_58_1_1_1 (endK Try.prog Try.f58.results.toList Q) (St.mk 61 [(2, .ptr (.loc 2) 0)] [] [(2, .cells [.int .i64 0, .int .i64 0, .str []])] (Sto.pushOwn Sto.empty m)) =
  (Q (AVal.tuple [AVal.agg [AVal.int IntKind.i64 (0 : Int), AVal.int IntKind.i64 (0 : Int), AVal.str []], AVal.int IntKind.i64 (0 : Int), AVal.int IntKind.i64 (20 : Int)]) (Sto.pushOwn Sto.empty m)) := by kernel_rfl
theorem take_r (b : Txt) (Q : AVal → Sto → Prop) : vc Try.prog cTake code_44_ (endK Try.prog Try.f44.results.toList Q) (St.start Try.f44.ntmps [.slice (bw b) 1 .ro] (Sto.empty)) =
  (brV (hold ((↑(List.length (bw b)) : Int) == (0 : Int))) true (Q (AVal.tuple [AVal.agg [AVal.int IntKind.i64 (0 : Int), AVal.int IntKind.i64 (0 : Int), AVal.str []], AVal.int IntKind.i64 (0 : Int), AVal.int IntKind.i64 (20 : Int)]) Sto.empty) (gb (decide ((0 : Int) ≤ (0 : Int) ∧ (0 : Int) < (↑(List.length (bw b)) : Int))) (gb (decide (1 ≤ List.length (elemAt (bw b) (0 : Int)) ∧ 0 < 1) && etaOk (Sh.int IntKind.u8) (List.getD (elemAt (bw b) (0 : Int)) 0 AVal.undef)) (brV (hold (AVal.intOf (List.getD (elemAt (bw b) (0 : Int)) 0 AVal.undef) == (2 : Int))) true (∀ (y : Txt × Nat × Int), y = txtV (List.drop 1 (List.map AL.byteOf (bw b))) [] 1 → gb (List.all (bw b) byteIs && hold (decide (List.length (bw b) ≤ 1000000))) (Q (AVal.tuple [AVal.agg [AVal.int IntKind.i64 (if Prod.snd (Prod.snd y) = (0 : Int) then (2 : Int) else (0 : Int)), AVal.int IntKind.i64 (0 : Int), AVal.str (if Prod.snd (Prod.snd y) = (0 : Int) then Prod.fst y else [])], AVal.int IntKind.i64 (↑(Prod.fst (Prod.snd y)) : Int), AVal.int IntKind.i64 (Prod.snd (Prod.snd y))]) Sto.empty)) (gb (decide ((0 : Int) ≤ (0 : Int) ∧ (0 : Int) < (↑(List.length (bw b)) : Int))) (gb (decide (1 ≤ List.length (elemAt (bw b) (0 : Int)) ∧ 0 < 1) && etaOk (Sh.int IntKind.u8) (List.getD (elemAt (bw b) (0 : Int)) 0 AVal.undef)) (brV (hold (AVal.intOf (List.getD (elemAt (bw b) (0 : Int)) 0 AVal.undef) != (1 : Int))) true (Q (AVal.tuple [AVal.agg [AVal.int IntKind.i64 (0 : Int), AVal.int IntKind.i64 (0 : Int), AVal.str []], AVal.int IntKind.i64 (0 : Int), AVal.int IntKind.i64 (22 : Int)]) Sto.empty) (brV (hold (decide ((↑(List.length (bw b)) : Int) < (9 : Int)))) true (Q (AVal.tuple [AVal.agg [AVal.int IntKind.i64 (0 : Int), AVal.int IntKind.i64 (0 : Int), AVal.str []], AVal.int IntKind.i64 (0 : Int), AVal.int IntKind.i64 (20 : Int)]) Sto.empty) (gb (decide ((0 : Int) ≤ (1 : Int) ∧ (1 : Int) ≤ (9 : Int) ∧ (9 : Int) ≤ (↑(List.length (bw b)) : Int))) (loopV (fun s => St.norm [] [2, 5, 35, 36, 37] [2] s) (vc Try.prog cTake code_44_1_1_1_0_1_0_0) (blockK 1 (thenK (fun s => cutV (vc Try.prog cTake code_44_1_1_1_1 (endK Try.prog (Array.toList (Go.Func.results Try.f44)) Q)) (St.norm [] [2, 5] [2] s)) (endK Try.prog (Array.toList (Go.Func.results Try.f44)) Q))) (St.mk 51 [(2, AVal.ptr (Oid.loc 2) 0), (5, AVal.int IntKind.u64 (0 : Int)), (35, AVal.slice (List.take 8 (List.drop 1 (bw b))) 1 Tag.ro), (36, AVal.int IntKind.i64 (↑(List.length (List.take 8 (List.drop 1 (bw b)))) : Int)), (37, AVal.int IntKind.i64 (0 : Int))] [] [(2, AObj.cells [AVal.int IntKind.i64 (0 : Int), AVal.int IntKind.i64 (0 : Int), AVal.str []])] Sto.empty))))))))))) := by kernel_rfl
theorem take_i (b : Txt) (Q : AVal → Sto → Prop) (ho : OrcOk Try.prog cTake) (h : brV (hold ((↑(List.length (bw b)) : Int) == (0 : Int))) true (Q (AVal.tuple [AVal.agg [AVal.int IntKind.i64 (0 : Int), AVal.int IntKind.i64 (0 : Int), AVal.str []], AVal.int IntKind.i64 (0 : Int), AVal.int IntKind.i64 (20 : Int)]) Sto.empty) (gb (decide ((0 : Int) ≤ (0 : Int) ∧ (0 : Int) < (↑(List.length (bw b)) : Int))) (gb (decide (1 ≤ List.length (elemAt (bw b) (0 : Int)) ∧ 0 < 1) && etaOk (Sh.int IntKind.u8) (List.getD (elemAt (bw b) (0 : Int)) 0 AVal.undef)) (brV (hold (AVal.intOf (List.getD (elemAt (bw b) (0 : Int)) 0 AVal.undef) == (2 : Int))) true (∀ (y : Txt × Nat × Int), y = txtV (List.drop 1 (List.map AL.byteOf (bw b))) [] 1 → gb (List.all (bw b) byteIs && hold (decide (List.length (bw b) ≤ 1000000))) (Q (AVal.tuple [AVal.agg [AVal.int IntKind.i64 (if Prod.snd (Prod.snd y) = (0 : Int) then (2 : Int) else (0 : Int)), AVal.int IntKind.i64 (0 : Int), AVal.str (if Prod.snd (Prod.snd y) = (0 : Int) then Prod.fst y else [])], AVal.int IntKind.i64 (↑(Prod.fst (Prod.snd y)) : Int), AVal.int IntKind.i64 (Prod.snd (Prod.snd y))]) Sto.empty)) (gb (decide ((0 : Int) ≤ (0 : Int) ∧ (0 : Int) < (↑(List.length (bw b)) : Int))) (gb (decide (1 ≤ List.length (elemAt (bw b) (0 : Int)) ∧ 0 < 1) && etaOk (Sh.int IntKind.u8) (List.getD (elemAt (bw b) (0 : Int)) 0 AVal.undef)) (brV (hold (AVal.intOf (List.getD (elemAt (bw b) (0 : Int)) 0 AVal.undef) != (1 : Int))) true (Q (AVal.tuple [AVal.agg [AVal.int IntKind.i64 (0 : Int), AVal.int IntKind.i64 (0 : Int), AVal.str []], AVal.int IntKind.i64 (0 : Int), AVal.int IntKind.i64 (22 : Int)]) Sto.empty) (brV (hold (decide ((↑(List.length (bw b)) : Int) < (9 : Int)))) true (Q (AVal.tuple [AVal.agg [AVal.int IntKind.i64 (0 : Int), AVal.int IntKind.i64 (0 : Int), AVal.str []], AVal.int IntKind.i64 (0 : Int), AVal.int IntKind.i64 (20 : Int)]) Sto.empty) (gb (decide ((0 : Int) ≤ (1 : Int) ∧ (1 : Int) ≤ (9 : Int) ∧ (9 : Int) ≤ (↑(List.length (bw b)) : Int))) (loopV (fun s => St.norm [] [2, 5, 35, 36, 37] [2] s) (vc Try.prog cTake code_44_1_1_1_0_1_0_0) (blockK 1 (thenK (fun s => cutV (vc Try.prog cTake code_44_1_1_1_1 (endK Try.prog (Array.toList (Go.Func.results Try.f44)) Q)) (St.norm [] [2, 5] [2] s)) (endK Try.prog (Array.toList (Go.Func.results Try.f44)) Q))) (St.mk 51 [(2, AVal.ptr (Oid.loc 2) 0), (5, AVal.int IntKind.u64 (0 : Int)), (35, AVal.slice (List.take 8 (List.drop 1 (bw b))) 1 Tag.ro), (36, AVal.int IntKind.i64 (↑(List.length (List.take 8 (List.drop 1 (bw b)))) : Int)), (37, AVal.int IntKind.i64 (0 : Int))] [] [(2, AObj.cells [AVal.int IntKind.i64 (0 : Int), AVal.int IntKind.i64 (0 : Int), AVal.str []])] Sto.empty))))))))))) : ACall Try.prog 44 [.slice (bw b) 1 .ro] (Sto.empty) Q :=
  ACall.intro hmix Try.func44 (c := code_44_) (by kernel_rfl) cTake ho (Nat.le_of_ble_eq_true (by kernel_rfl)) (by rw [take_r]; exact h)
noncomputable def takeL_S (b : Txt) (u n i : Nat) : St := St.mk 51 [(2, .ptr (.loc 2) 0), (5, .int .u64 (u : Int)), (35, .slice (bw b) 1 .ro), (36, .int .i64 (n : Int)), (37, .int .i64 (i : Int))] [] [(2, .cells [.int .i64 0, .int .i64 0, .str []])] (Sto.empty)
noncomputable abbrev takeL_C : Code := code_44_1_1_1_0_1_0_0
theorem takeL_r (b : Txt) (u n i : Nat) (L : St → Prop) (K : Exit → St → Prop) : vc Try.prog cTake code_44_1_1_1_0_1_0_0 (thenK (fun s => L (St.norm [] [2, 5, 35, 36, 37] [2] s)) K) (St.mk 51 [(2, .ptr (.loc 2) 0), (5, .int .u64 (u : Int)), (35, .slice (bw b) 1 .ro), (36, .int .i64 (n : Int)), (37, .int .i64 (i : Int))] [] [(2, .cells [.int .i64 0, .int .i64 0, .str []])] (Sto.empty)) =
  (brV (hold (decide ((↑i : Int) < (↑n : Int)))) true (gb (decide ((0 : Int) ≤ (↑i : Int) ∧ (↑i : Int) < (↑(List.length (bw b)) : Int))) (gb (decide (1 ≤ List.length (elemAt (bw b) (↑i : Int)) ∧ 0 < 1) && etaOk (Sh.int IntKind.u8) (List.getD (elemAt (bw b) (↑i : Int)) 0 AVal.undef)) (L (St.mk 51 [(2, AVal.ptr (Oid.loc 2) 0), (5, AVal.int IntKind.u64 (Go.bits Go.BinOp.or IntKind.u64 (IntKind.wrap IntKind.u64 ((↑u : Int) * (256 : Int))) (IntKind.wrap IntKind.u64 (AVal.intOf (List.getD (elemAt (bw b) (↑i : Int)) 0 AVal.undef))))), (35, AVal.slice (bw b) 1 Tag.ro), (36, AVal.int IntKind.i64 (↑n : Int)), (37, AVal.int IntKind.i64 (IntKind.wrap IntKind.i64 ((↑i : Int) + (1 : Int))))] [] [(2, AObj.cells [AVal.int IntKind.i64 (0 : Int), AVal.int IntKind.i64 (0 : Int), AVal.str []])] Sto.empty)))) (K (Exit.exit 1) (St.mk 51 [(2, AVal.ptr (Oid.loc 2) 0), (5, AVal.int IntKind.u64 (↑u : Int)), (35, AVal.slice (bw b) 1 Tag.ro), (36, AVal.int IntKind.i64 (↑n : Int)), (37, AVal.int IntKind.i64 (↑i : Int)), (38, AVal.bool (hold (decide ((↑i : Int) < (↑n : Int)))))] [] [(2, AObj.cells [AVal.int IntKind.i64 (0 : Int), AVal.int IntKind.i64 (0 : Int), AVal.str []])] Sto.empty))) := by kernel_rfl
noncomputable def takeF_S (u : Nat) : St := St.mk 51 [(2, .ptr (.loc 2) 0), (5, .int .u64 (u : Int))] [] [(2, .cells [.int .i64 0, .int .i64 0, .str []])] (Sto.empty)
noncomputable abbrev takeF_C : Code := code_44_1_1_1_1
theorem takeF_r (u : Nat) (Q : AVal → Sto → Prop) : vc Try.prog cTake code_44_1_1_1_1 (endK Try.prog Try.f44.results.toList Q) (St.mk 51 [(2, .ptr (.loc 2) 0), (5, .int .u64 (u : Int))] [] [(2, .cells [.int .i64 0, .int .i64 0, .str []])] (Sto.empty)) =
  (Q (AVal.tuple [AVal.agg [AVal.int IntKind.i64 (1 : Int), AVal.int IntKind.i64 (IntKind.wrap IntKind.i64 (Go.bits Go.BinOp.xor IntKind.u64 (↑u : Int) (9223372036854775808 : Int))), AVal.str []], AVal.int IntKind.i64 (9 : Int), AVal.int IntKind.i64 (0 : Int)]) Sto.empty) := by kernel_rfl
theorem rightR_r (k n : Int) (s : Txt) (Q : AVal → Sto → Prop) : vc Try.prog cRightR code_28_ (endK Try.prog Try.f28.results.toList Q) (St.start Try.f28.ntmps [.agg [.int .i64 k, .int .i64 n, .str s]] (Sto.empty)) =
  (brV (hold (k == (1 : Int))) true (brV (hold (s == [])) false (brV (hold (k == (2 : Int))) true (brV (hold (n == (0 : Int))) true (Q (AVal.bool (hold (decide ((↑(List.length s) : Int) ≤ (200 : Int))))) Sto.empty) (Q (AVal.bool false) Sto.empty)) (Q (AVal.bool false) Sto.empty)) (Q (AVal.bool true) Sto.empty)) (brV (hold (k == (2 : Int))) true (brV (hold (n == (0 : Int))) true (Q (AVal.bool (hold (decide ((↑(List.length s) : Int) ≤ (200 : Int))))) Sto.empty) (Q (AVal.bool false) Sto.empty)) (Q (AVal.bool false) Sto.empty))) := by kernel_rfl
theorem rightR_i (k n : Int) (s : Txt) (Q : AVal → Sto → Prop) (ho : OrcOk Try.prog cRightR) (h : brV (hold (k == (1 : Int))) true (brV (hold (s == [])) false (brV (hold (k == (2 : Int))) true (brV (hold (n == (0 : Int))) true (Q (AVal.bool (hold (decide ((↑(List.length s) : Int) ≤ (200 : Int))))) Sto.empty) (Q (AVal.bool false) Sto.empty)) (Q (AVal.bool false) Sto.empty)) (Q (AVal.bool true) Sto.empty)) (brV (hold (k == (2 : Int))) true (brV (hold (n == (0 : Int))) true (Q (AVal.bool (hold (decide ((↑(List.length s) : Int) ≤ (200 : Int))))) Sto.empty) (Q (AVal.bool false) Sto.empty)) (Q (AVal.bool false) Sto.empty))) : ACall Try.prog 28 [.agg [.int .i64 k, .int .i64 n, .str s]] (Sto.empty) Q :=
  ACall.intro hmix Try.func28 (c := code_28_) (by kernel_rfl) cRightR ho (Nat.le_of_ble_eq_true (by kernel_rfl)) (by rw [rightR_r]; exact h)
theorem bytesR_r (k n : Int) (s : Txt) (Q : AVal → Sto → Prop) : vc Try.prog cBytesR code_46_ (endK Try.prog Try.f46.results.toList Q) (St.start Try.f46.ntmps [.agg [.int .i64 k, .int .i64 n, .str s]] (Sto.empty)) =
  (brV (hold (k == (1 : Int))) true (loopV (fun s => St.norm [(4, 1001), (6, 1)] [1, 3, 4, 5] [1] s) (vc Try.prog cBytesR code_46_1_0_1_0_1_1_0_1_0_0) (blockK 0 (thenK (fun s => cutV (vc Try.prog cBytesR code_46_1_0_1_0_1_1_1 (thenK (vc Try.prog cBytesR code_46_1_1 (endK Try.prog (Array.toList (Go.Func.results Try.f46)) Q)) (endK Try.prog (Array.toList (Go.Func.results Try.f46)) Q))) (St.norm [(4, 1001), (6, 1)] [1, 4] [1] s)) (thenK (vc Try.prog cBytesR code_46_1_1 (endK Try.prog (Array.toList (Go.Func.results Try.f46)) Q)) (endK Try.prog (Array.toList (Go.Func.results Try.f46)) Q)))) (St.mk 56 [(1, AVal.ptr (Oid.loc 1) 0), (3, AVal.int IntKind.u64 (IntKind.wrap IntKind.u64 (IntKind.wrap IntKind.u64 n + (9223372036854775808 : Int)))), (4, AVal.slice [] 1 Tag.ro), (5, AVal.int IntKind.i64 (0 : Int))] [] [(1, AObj.cells [AVal.int IntKind.i64 k, AVal.int IntKind.i64 n, AVal.str s])] Sto.empty)) (loopV (fun s => St.norm [(4, 1001), (6, 1)] [1, 6, 7] [1] s) (vc Try.prog cBytesR code_46_1_1_1_0_1_0_0) (blockK 2 (thenK (fun s => cutV (vc Try.prog cBytesR code_46_1_1_1_1 (endK Try.prog (Array.toList (Go.Func.results Try.f46)) Q)) (St.norm [(4, 1001), (6, 1)] [6] [] s)) (endK Try.prog (Array.toList (Go.Func.results Try.f46)) Q))) (St.mk 56 [(1, AVal.ptr (Oid.loc 1) 0), (6, AVal.slice [AVal.int IntKind.u8 (2 : Int)] 1 (Tag.own 0)), (7, AVal.int IntKind.i64 (0 : Int))] [] [(1, AObj.cells [AVal.int IntKind.i64 k, AVal.int IntKind.i64 n, AVal.str s])] (Sto.pushOwn Sto.empty 1)))) := by kernel_rfl
theorem bytesR_i (k n : Int) (s : Txt) (Q : AVal → Sto → Prop) (ho : OrcOk Try.prog cBytesR) (h : brV (hold (k == (1 : Int))) true (loopV (fun s => St.norm [(4, 1001), (6, 1)] [1, 3, 4, 5] [1] s) (vc Try.prog cBytesR code_46_1_0_1_0_1_1_0_1_0_0) (blockK 0 (thenK (fun s => cutV (vc Try.prog cBytesR code_46_1_0_1_0_1_1_1 (thenK (vc Try.prog cBytesR code_46_1_1 (endK Try.prog (Array.toList (Go.Func.results Try.f46)) Q)) (endK Try.prog (Array.toList (Go.Func.results Try.f46)) Q))) (St.norm [(4, 1001), (6, 1)] [1, 4] [1] s)) (thenK (vc Try.prog cBytesR code_46_1_1 (endK Try.prog (Array.toList (Go.Func.results Try.f46)) Q)) (endK Try.prog (Array.toList (Go.Func.results Try.f46)) Q)))) (St.mk 56 [(1, AVal.ptr (Oid.loc 1) 0), (3, AVal.int IntKind.u64 (IntKind.wrap IntKind.u64 (IntKind.wrap IntKind.u64 n + (9223372036854775808 : Int)))), (4, AVal.slice [] 1 Tag.ro), (5, AVal.int IntKind.i64 (0 : Int))] [] [(1, AObj.cells [AVal.int IntKind.i64 k, AVal.int IntKind.i64 n, AVal.str s])] Sto.empty)) (loopV (fun s => St.norm [(4, 1001), (6, 1)] [1, 6, 7] [1] s) (vc Try.prog cBytesR code_46_1_1_1_0_1_0_0) (blockK 2 (thenK (fun s => cutV (vc Try.prog cBytesR code_46_1_1_1_1 (endK Try.prog (Array.toList (Go.Func.results Try.f46)) Q)) (St.norm [(4, 1001), (6, 1)] [6] [] s)) (endK Try.prog (Array.toList (Go.Func.results Try.f46)) Q))) (St.mk 56 [(1, AVal.ptr (Oid.loc 1) 0), (6, AVal.slice [AVal.int IntKind.u8 (2 : Int)] 1 (Tag.own 0)), (7, AVal.int IntKind.i64 (0 : Int))] [] [(1, AObj.cells [AVal.int IntKind.i64 k, AVal.int IntKind.i64 n, AVal.str s])] (Sto.pushOwn Sto.empty 1)))) : ACall Try.prog 46 [.agg [.int .i64 k, .int .i64 n, .str s]] (Sto.empty) Q :=
  ACall.intro hmix Try.func46 (c := code_46_) (by kernel_rfl) cBytesR ho (Nat.le_of_ble_eq_true (by kernel_rfl)) (by rw [bytesR_r]; exact h)
noncomputable def bytesRN_S (k n : Int) (s o : Txt) (u i : Nat) : St := St.mk 56 [(1, .ptr (.loc 1) 0), (3, .int .u64 (u : Int)), (4, .slice (bw o) 1 .ro), (5, .int .i64 (i : Int))] [] [(1, .cells [.int .i64 k, .int .i64 n, .str s])] (Sto.empty)
noncomputable abbrev bytesRN_C : Code := code_46_1_0_1_0_1_1_0_1_0_0
theorem bytesRN_r (k n : Int) (s o : Txt) (u i : Nat) (L : St → Prop) (K : Exit → St → Prop) : vc Try.prog cBytesR code_46_1_0_1_0_1_1_0_1_0_0 (thenK (fun s => L (St.norm [(4, 1001), (6, 1)] [1, 3, 4, 5] [1] s)) K) (St.mk 56 [(1, .ptr (.loc 1) 0), (3, .int .u64 (u : Int)), (4, .slice (bw o) 1 .ro), (5, .int .i64 (i : Int))] [] [(1, .cells [.int .i64 k, .int .i64 n, .str s])] (Sto.empty)) =
  (brV (hold (decide ((↑i : Int) < (8 : Int)))) true (gb (decide (decide (true = true ∧ (1 + List.length (bw o)) * 1 ≤ 140737488355328 ∧ 1 + List.length (bw o) ≤ 9223372036854775807) = true ∧ true = true)) (L (St.mk 56 [(1, AVal.ptr (Oid.loc 1) 0), (3, AVal.int IntKind.u64 (IntKind.wrap IntKind.u64 (Int.tdiv (↑u : Int) (256 : Int)))), (4, AVal.slice ([AVal.int IntKind.u8 (IntKind.wrap IntKind.u8 (Int.tmod (↑u : Int) (256 : Int)))] ++ bw o) 1 Tag.ro), (5, AVal.int IntKind.i64 (IntKind.wrap IntKind.i64 ((↑i : Int) + (1 : Int))))] [] [(1, AObj.cells [AVal.int IntKind.i64 k, AVal.int IntKind.i64 n, AVal.str s])] Sto.empty))) (K (Exit.exit 0) (St.mk 56 [(1, AVal.ptr (Oid.loc 1) 0), (3, AVal.int IntKind.u64 (↑u : Int)), (4, AVal.slice (bw o) 1 Tag.ro), (5, AVal.int IntKind.i64 (↑i : Int)), (16, AVal.bool (hold (decide ((↑i : Int) < (8 : Int)))))] [] [(1, AObj.cells [AVal.int IntKind.i64 k, AVal.int IntKind.i64 n, AVal.str s])] Sto.empty))) := by kernel_rfl
noncomputable def bytesRT_S (k n : Int) (s o : Txt) (i : Nat) : St := St.mk 56 [(1, .ptr (.loc 1) 0), (6, .slice (bw o) 1 (.own 0)), (7, .int .i64 (i : Int))] [] [(1, .cells [.int .i64 k, .int .i64 n, .str s])] (Sto.pushOwn Sto.empty (bw o).length)
noncomputable abbrev bytesRT_C : Code := code_46_1_1_1_0_1_0_0
theorem bytesRT_r (k n : Int) (s o : Txt) (i : Nat) (L : St → Prop) (K : Exit → St → Prop) : vc Try.prog cBytesR code_46_1_1_1_0_1_0_0 (thenK (fun s => L (St.norm [(4, 1001), (6, 1)] [1, 6, 7] [1] s)) K) (St.mk 56 [(1, .ptr (.loc 1) 0), (6, .slice (bw o) 1 (.own 0)), (7, .int .i64 (i : Int))] [] [(1, .cells [.int .i64 k, .int .i64 n, .str s])] (Sto.pushOwn Sto.empty (bw o).length)) =
  (brV (hold (decide ((↑i : Int) < (↑(List.length s) : Int)))) true (gb (decide ((0 : Int) ≤ (↑i : Int) ∧ (↑i : Int) < (↑(List.length s) : Int))) (brV (hold ((↑(UInt8.toNat (List.getD s (Int.toNat (↑i : Int)) (0 : UInt8))) : Int) == (0 : Int))) true (gb (decide (decide (true = true ∧ some (List.length (bw o)) = some (List.length (bw o)) ∧ (List.length (bw o) + 2) * 1 ≤ 140737488355328 ∧ List.length (bw o) + 2 ≤ 9223372036854775807) = true ∧ true = true)) (L (St.mk 56 [(1, AVal.ptr (Oid.loc 1) 0), (6, AVal.slice (bw o ++ [AVal.int IntKind.u8 (0 : Int), AVal.int IntKind.u8 (255 : Int)]) 1 (Tag.own 0)), (7, AVal.int IntKind.i64 (IntKind.wrap IntKind.i64 ((↑i : Int) + (1 : Int))))] [] [(1, AObj.cells [AVal.int IntKind.i64 k, AVal.int IntKind.i64 n, AVal.str s])] (Sto.setOwn (Sto.pushOwn Sto.empty (List.length (bw o))) 0 (List.length (bw o) + 2))))) (gb (decide ((0 : Int) ≤ (↑i : Int) ∧ (↑i : Int) < (↑(List.length s) : Int))) (gb (decide (decide (true = true ∧ some (List.length (bw o)) = some (List.length (bw o)) ∧ (List.length (bw o) + 1) * 1 ≤ 140737488355328 ∧ List.length (bw o) + 1 ≤ 9223372036854775807) = true ∧ true = true)) (L (St.mk 56 [(1, AVal.ptr (Oid.loc 1) 0), (6, AVal.slice (bw o ++ [AVal.int IntKind.u8 (↑(UInt8.toNat (List.getD s (Int.toNat (↑i : Int)) (0 : UInt8))) : Int)]) 1 (Tag.own 0)), (7, AVal.int IntKind.i64 (IntKind.wrap IntKind.i64 ((↑i : Int) + (1 : Int))))] [] [(1, AObj.cells [AVal.int IntKind.i64 k, AVal.int IntKind.i64 n, AVal.str s])] (Sto.setOwn (Sto.pushOwn Sto.empty (List.length (bw o))) 0 (List.length (bw o) + 1)))))))) (K (Exit.exit 2) (St.mk 56 [(1, AVal.ptr (Oid.loc 1) 0), (6, AVal.slice (bw o) 1 (Tag.own 0)), (7, AVal.int IntKind.i64 (↑i : Int)), (35, AVal.bool (hold (decide ((↑i : Int) < (↑(List.length s) : Int)))))] [] [(1, AObj.cells [AVal.int IntKind.i64 k, AVal.int IntKind.i64 n, AVal.str s])] (Sto.pushOwn Sto.empty (List.length (bw o)))))) := by kernel_rfl
noncomputable def bytesRNF_S (k n : Int) (s o : Txt) : St := St.mk 56 [(1, .ptr (.loc 1) 0), (4, .slice (bw o) 1 .ro)] [] [(1, .cells [.int .i64 k, .int .i64 n, .str s])] (Sto.empty)
noncomputable abbrev bytesRNF_C : Code := code_46_1_0_1_0_1_1_1
theorem bytesRNF_r (k n : Int) (s o : Txt) (K : Exit → St → Prop) : vc Try.prog cBytesR code_46_1_0_1_0_1_1_1 K (St.mk 56 [(1, .ptr (.loc 1) 0), (4, .slice (bw o) 1 .ro)] [] [(1, .cells [.int .i64 k, .int .i64 n, .str s])] (Sto.empty)) =
  (gb (decide (decide (true = true ∧ (1 + List.length (bw o)) * 1 ≤ 140737488355328 ∧ 1 + List.length (bw o) ≤ 9223372036854775807) = true ∧ true = true)) (K Exit.ret (St.mk 56 [(1, AVal.ptr (Oid.loc 1) 0), (4, AVal.slice (bw o) 1 Tag.ro), (2, AVal.slice ([AVal.int IntKind.u8 (1 : Int)] ++ bw o) 1 Tag.ro)] [] [(1, AObj.cells [AVal.int IntKind.i64 k, AVal.int IntKind.i64 n, AVal.str s])] Sto.empty))) := by kernel_rfl
noncomputable def bytesRTF_S (o : Txt) : St := St.mk 56 [(6, .slice (bw o) 1 (.own 0))] [] [] (Sto.pushOwn Sto.empty (bw o).length)
noncomputable abbrev bytesRTF_C : Code := code_46_1_1_1_1
theorem bytesRTF_r (o : Txt) (Q : AVal → Sto → Prop) : vc Try.prog cBytesR code_46_1_1_1_1 (endK Try.prog Try.f46.results.toList Q) (St.mk 56 [(6, .slice (bw o) 1 (.own 0))] [] [] (Sto.pushOwn Sto.empty (bw o).length)) =
  (gb (decide (decide (true = true ∧ some (List.length (bw o)) = some (List.length (bw o)) ∧ (List.length (bw o) + 2) * 1 ≤ 140737488355328 ∧ List.length (bw o) + 2 ≤ 9223372036854775807) = true ∧ true = true)) (Q (AVal.slice (bw o ++ [AVal.int IntKind.u8 (0 : Int), AVal.int IntKind.u8 (0 : Int)]) 1 (Tag.own 0)) (Sto.setOwn (Sto.pushOwn Sto.empty (List.length (bw o))) 0 (List.length (bw o) + 2)))) := by kernel_rfl
theorem takeR_r (b : Txt) (Q : AVal → Sto → Prop) : vc Try.prog cTakeR code_45_ (endK Try.prog Try.f45.results.toList Q) (St.start Try.f45.ntmps [.slice (bw b) 1 .ro] (Sto.empty)) =
  (brV (hold ((↑(List.length (bw b)) : Int) == (0 : Int))) true (Q (AVal.tuple [AVal.agg [AVal.int IntKind.i64 (0 : Int), AVal.int IntKind.i64 (0 : Int), AVal.str []], AVal.int IntKind.i64 (0 : Int), AVal.int IntKind.i64 (20 : Int)]) Sto.empty) (gb (decide ((0 : Int) ≤ (0 : Int) ∧ (0 : Int) < (↑(List.length (bw b)) : Int))) (gb (decide (1 ≤ List.length (elemAt (bw b) (0 : Int)) ∧ 0 < 1) && etaOk (Sh.int IntKind.u8) (List.getD (elemAt (bw b) (0 : Int)) 0 AVal.undef)) (brV (hold (AVal.intOf (List.getD (elemAt (bw b) (0 : Int)) 0 AVal.undef) == (1 : Int))) true (brV (hold (decide ((↑(List.length (bw b)) : Int) < (9 : Int)))) true (Q (AVal.tuple [AVal.agg [AVal.int IntKind.i64 (0 : Int), AVal.int IntKind.i64 (0 : Int), AVal.str []], AVal.int IntKind.i64 (0 : Int), AVal.int IntKind.i64 (20 : Int)]) Sto.empty) (loopV (fun s => St.norm [] [0, 2, 5, 6] [2] s) (vc Try.prog cTakeR code_45_1_1_0_1_0_1_1_0_1_0_0) (blockK 0 (thenK (fun s => cutV (vc Try.prog cTakeR code_45_1_1_0_1_0_1_1_1 (thenK (vc Try.prog cTakeR code_45_1_1_1 (endK Try.prog (Array.toList (Go.Func.results Try.f45)) Q)) (endK Try.prog (Array.toList (Go.Func.results Try.f45)) Q))) (St.norm [] [0, 2, 5] [2] s)) (thenK (vc Try.prog cTakeR code_45_1_1_1 (endK Try.prog (Array.toList (Go.Func.results Try.f45)) Q)) (endK Try.prog (Array.toList (Go.Func.results Try.f45)) Q)))) (St.mk 93 [(0, AVal.slice (bw b) 1 Tag.ro), (2, AVal.ptr (Oid.loc 2) 0), (5, AVal.int IntKind.u64 (0 : Int)), (6, AVal.int IntKind.i64 (1 : Int))] [] [(2, AObj.cells [AVal.int IntKind.i64 (0 : Int), AVal.int IntKind.i64 (0 : Int), AVal.str []])] Sto.empty))) (gb (decide ((0 : Int) ≤ (0 : Int) ∧ (0 : Int) < (↑(List.length (bw b)) : Int))) (gb (decide (1 ≤ List.length (elemAt (bw b) (0 : Int)) ∧ 0 < 1) && etaOk (Sh.int IntKind.u8) (List.getD (elemAt (bw b) (0 : Int)) 0 AVal.undef)) (brV (hold (AVal.intOf (List.getD (elemAt (bw b) (0 : Int)) 0 AVal.undef) != (2 : Int))) true (Q (AVal.tuple [AVal.agg [AVal.int IntKind.i64 (0 : Int), AVal.int IntKind.i64 (0 : Int), AVal.str []], AVal.int IntKind.i64 (0 : Int), AVal.int IntKind.i64 (22 : Int)]) Sto.empty) (loopV (fun s => St.norm [] [0, 2, 7, 8] [2] s) (vc Try.prog cTakeR code_45_1_1_1_1_1_1_0_0_0) (blockK 2 (thenK (fun s => cutV (vc Try.prog cTakeR code_45_1_1_1_1_1_1_1 (endK Try.prog (Array.toList (Go.Func.results Try.f45)) Q)) (St.norm [] [2] [2] s)) (endK Try.prog (Array.toList (Go.Func.results Try.f45)) Q))) (St.mk 93 [(0, AVal.slice (bw b) 1 Tag.ro), (2, AVal.ptr (Oid.loc 2) 0), (7, AVal.str []), (8, AVal.int IntKind.i64 (1 : Int))] [] [(2, AObj.cells [AVal.int IntKind.i64 (0 : Int), AVal.int IntKind.i64 (0 : Int), AVal.str []])] Sto.empty))))))))) := by kernel_rfl
theorem takeR_i (b : Txt) (Q : AVal → Sto → Prop) (ho : OrcOk Try.prog cTakeR) (h : brV (hold ((↑(List.length (bw b)) : Int) == (0 : Int))) true (Q (AVal.tuple [AVal.agg [AVal.int IntKind.i64 (0 : Int), AVal.int IntKind.i64 (0 : Int), AVal.str []], AVal.int IntKind.i64 (0 : Int), AVal.int IntKind.i64 (20 : Int)]) Sto.empty) (gb (decide ((0 : Int) ≤ (0 : Int) ∧ (0 : Int) < (↑(List.length (bw b)) : Int))) (gb (decide (1 ≤ List.length (elemAt (bw b) (0 : Int)) ∧ 0 < 1) && etaOk (Sh.int IntKind.u8) (List.getD (elemAt (bw b) (0 : Int)) 0 AVal.undef)) (brV (hold (AVal.intOf (List.getD (elemAt (bw b) (0 : Int)) 0 AVal.undef) == (1 : Int))) true (brV (hold (decide ((↑(List.length (bw b)) : Int) < (9 : Int)))) true (Q (AVal.tuple [AVal.agg [AVal.int IntKind.i64 (0 : Int), AVal.int IntKind.i64 (0 : Int), AVal.str []], AVal.int IntKind.i64 (0 : Int), AVal.int IntKind.i64 (20 : Int)]) Sto.empty) (loopV (fun s => St.norm [] [0, 2, 5, 6] [2] s) (vc Try.prog cTakeR code_45_1_1_0_1_0_1_1_0_1_0_0) (blockK 0 (thenK (fun s => cutV (vc Try.prog cTakeR code_45_1_1_0_1_0_1_1_1 (thenK (vc Try.prog cTakeR code_45_1_1_1 (endK Try.prog (Array.toList (Go.Func.results Try.f45)) Q)) (endK Try.prog (Array.toList (Go.Func.results Try.f45)) Q))) (St.norm [] [0, 2, 5] [2] s)) (thenK (vc Try.prog cTakeR code_45_1_1_1 (endK Try.prog (Array.toList (Go.Func.results Try.f45)) Q)) (endK Try.prog (Array.toList (Go.Func.results Try.f45)) Q)))) (St.mk 93 [(0, AVal.slice (bw b) 1 Tag.ro), (2, AVal.ptr (Oid.loc 2) 0), (5, AVal.int IntKind.u64 (0 : Int)), (6, AVal.int IntKind.i64 (1 : Int))] [] [(2, AObj.cells [AVal.int IntKind.i64 (0 : Int), AVal.int IntKind.i64 (0 : Int), AVal.str []])] Sto.empty))) (gb (decide ((0 : Int) ≤ (0 : Int) ∧ (0 : Int) < (↑(List.length (bw b)) : Int))) (gb (decide (1 ≤ List.length (elemAt (bw b) (0 : Int)) ∧ 0 < 1) && etaOk (Sh.int IntKind.u8) (List.getD (elemAt (bw b) (0 : Int)) 0 AVal.undef)) (brV (hold (AVal.intOf (List.getD (elemAt (bw b) (0 : Int)) 0 AVal.undef) != (2 : Int))) true (Q (AVal.tuple [AVal.agg [AVal.int IntKind.i64 (0 : Int), AVal.int IntKind.i64 (0 : Int), AVal.str []], AVal.int IntKind.i64 (0 : Int), AVal.int IntKind.i64 (22 : Int)]) Sto.empty) (loopV (fun s => St.norm [] [0, 2, 7, 8] [2] s) (vc Try.prog cTakeR code_45_1_1_1_1_1_1_0_0_0) (blockK 2 (thenK (fun s => cutV (vc Try.prog cTakeR code_45_1_1_1_1_1_1_1 (endK Try.prog (Array.toList (Go.Func.results Try.f45)) Q)) (St.norm [] [2] [2] s)) (endK Try.prog (Array.toList (Go.Func.results Try.f45)) Q))) (St.mk 93 [(0, AVal.slice (bw b) 1 Tag.ro), (2, AVal.ptr (Oid.loc 2) 0), (7, AVal.str []), (8, AVal.int IntKind.i64 (1 : Int))] [] [(2, AObj.cells [AVal.int IntKind.i64 (0 : Int), AVal.int IntKind.i64 (0 : Int), AVal.str []])] Sto.empty))))))))) : ACall Try.prog 45 [.slice (bw b) 1 .ro] (Sto.empty) Q :=
  ACall.intro hmix Try.func45 (c := code_45_) (by kernel_rfl) cTakeR ho (Nat.le_of_ble_eq_true (by kernel_rfl)) (by rw [takeR_r]; exact h)
noncomputable def takeRN_S (b : Txt) (u i : Nat) : St := St.mk 93 [(0, .slice (bw b) 1 .ro), (2, .ptr (.loc 2) 0), (5, .int .u64 (u : Int)), (6, .int .i64 (i : Int))] [] [(2, .cells [.int .i64 0, .int .i64 0, .str []])] (Sto.empty)
noncomputable abbrev takeRN_C : Code := code_45_1_1_0_1_0_1_1_0_1_0_0
theorem takeRN_r (b : Txt) (u i : Nat) (L : St → Prop) (K : Exit → St → Prop) : vc Try.prog cTakeR code_45_1_1_0_1_0_1_1_0_1_0_0 (thenK (fun s => L (St.norm [] [0, 2, 5, 6] [2] s)) K) (St.mk 93 [(0, .slice (bw b) 1 .ro), (2, .ptr (.loc 2) 0), (5, .int .u64 (u : Int)), (6, .int .i64 (i : Int))] [] [(2, .cells [.int .i64 0, .int .i64 0, .str []])] (Sto.empty)) =
  (brV (hold (decide ((↑i : Int) < (9 : Int)))) true (gb (decide ((0 : Int) ≤ (↑i : Int) ∧ (↑i : Int) < (↑(List.length (bw b)) : Int))) (gb (decide (1 ≤ List.length (elemAt (bw b) (↑i : Int)) ∧ 0 < 1) && etaOk (Sh.int IntKind.u8) (List.getD (elemAt (bw b) (↑i : Int)) 0 AVal.undef)) (L (St.mk 93 [(0, AVal.slice (bw b) 1 Tag.ro), (2, AVal.ptr (Oid.loc 2) 0), (5, AVal.int IntKind.u64 (IntKind.wrap IntKind.u64 (IntKind.wrap IntKind.u64 ((↑u : Int) * (256 : Int)) + IntKind.wrap IntKind.u64 (AVal.intOf (List.getD (elemAt (bw b) (↑i : Int)) 0 AVal.undef))))), (6, AVal.int IntKind.i64 (IntKind.wrap IntKind.i64 ((↑i : Int) + (1 : Int))))] [] [(2, AObj.cells [AVal.int IntKind.i64 (0 : Int), AVal.int IntKind.i64 (0 : Int), AVal.str []])] Sto.empty)))) (K (Exit.exit 0) (St.mk 93 [(0, AVal.slice (bw b) 1 Tag.ro), (2, AVal.ptr (Oid.loc 2) 0), (5, AVal.int IntKind.u64 (↑u : Int)), (6, AVal.int IntKind.i64 (↑i : Int)), (24, AVal.bool (hold (decide ((↑i : Int) < (9 : Int)))))] [] [(2, AObj.cells [AVal.int IntKind.i64 (0 : Int), AVal.int IntKind.i64 (0 : Int), AVal.str []])] Sto.empty))) := by kernel_rfl
noncomputable def takeRT_S (b a : Txt) (i : Nat) : St := St.mk 93 [(0, .slice (bw b) 1 .ro), (2, .ptr (.loc 2) 0), (7, .str a), (8, .int .i64 (i : Int))] [] [(2, .cells [.int .i64 0, .int .i64 0, .str []])] (Sto.empty)
noncomputable abbrev takeRT_C : Code := code_45_1_1_1_1_1_1_0_0_0
theorem takeRT_r (b a : Txt) (i : Nat) (L : St → Prop) (K : Exit → St → Prop) : vc Try.prog cTakeR code_45_1_1_1_1_1_1_0_0_0 (thenK (fun s => L (St.norm [] [0, 2, 7, 8] [2] s)) K) (St.mk 93 [(0, .slice (bw b) 1 .ro), (2, .ptr (.loc 2) 0), (7, .str a), (8, .int .i64 (i : Int))] [] [(2, .cells [.int .i64 0, .int .i64 0, .str []])] (Sto.empty)) =
  (brV (hold (decide ((↑i : Int) < (↑(List.length (bw b)) : Int)))) true (gb (decide ((0 : Int) ≤ (↑i : Int) ∧ (↑i : Int) < (↑(List.length (bw b)) : Int))) (gb (decide (1 ≤ List.length (elemAt (bw b) (↑i : Int)) ∧ 0 < 1) && etaOk (Sh.int IntKind.u8) (List.getD (elemAt (bw b) (↑i : Int)) 0 AVal.undef)) (gb (decide ((0 : Int) ≤ (↑i : Int) ∧ (↑i : Int) < (↑(List.length (bw b)) : Int))) (gb (decide (1 ≤ List.length (elemAt (bw b) (↑i : Int)) ∧ 0 < 1) && etaOk (Sh.int IntKind.u8) (List.getD (elemAt (bw b) (↑i : Int)) 0 AVal.undef)) (brV (hold (AVal.intOf (List.getD (elemAt (bw b) (↑i : Int)) 0 AVal.undef) == (0 : Int))) true (brV (hold (decide ((↑(List.length (bw b)) : Int) ≤ IntKind.wrap IntKind.i64 ((↑i : Int) + (1 : Int))))) true (K Exit.ret (St.mk 93 [(0, AVal.slice (bw b) 1 Tag.ro), (2, AVal.ptr (Oid.loc 2) 0), (7, AVal.str a), (8, AVal.int IntKind.i64 (↑i : Int)), (47, AVal.bool (hold (decide ((↑i : Int) < (↑(List.length (bw b)) : Int))))), (9, AVal.str (List.map AL.byteOf [AVal.int IntKind.u8 (AVal.intOf (List.getD (elemAt (bw b) (↑i : Int)) 0 AVal.undef))])), (10, AVal.int IntKind.i64 (1 : Int)), (58, AVal.bool (hold (AVal.intOf (List.getD (elemAt (bw b) (↑i : Int)) 0 AVal.undef) == (0 : Int)))), (63, AVal.bool (hold (decide ((↑(List.length (bw b)) : Int) ≤ IntKind.wrap IntKind.i64 ((↑i : Int) + (1 : Int)))))), (3, AVal.int IntKind.i64 (0 : Int)), (4, AVal.int IntKind.i64 (20 : Int))] [] [(2, AObj.cells [AVal.int IntKind.i64 (0 : Int), AVal.int IntKind.i64 (0 : Int), AVal.str []])] Sto.empty)) (gb (decide ((0 : Int) ≤ IntKind.wrap IntKind.i64 ((↑i : Int) + (1 : Int)) ∧ IntKind.wrap IntKind.i64 ((↑i : Int) + (1 : Int)) < (↑(List.length (bw b)) : Int))) (gb (decide (1 ≤ List.length (elemAt (bw b) (IntKind.wrap IntKind.i64 ((↑i : Int) + (1 : Int)))) ∧ 0 < 1) && etaOk (Sh.int IntKind.u8) (List.getD (elemAt (bw b) (IntKind.wrap IntKind.i64 ((↑i : Int) + (1 : Int)))) 0 AVal.undef)) (brV (hold (AVal.intOf (List.getD (elemAt (bw b) (IntKind.wrap IntKind.i64 ((↑i : Int) + (1 : Int)))) 0 AVal.undef) == (0 : Int))) true (K Exit.ret (St.mk 93 [(0, AVal.slice (bw b) 1 Tag.ro), (2, AVal.ptr (Oid.loc 2) 0), (7, AVal.str a), (8, AVal.int IntKind.i64 (↑i : Int)), (47, AVal.bool (hold (decide ((↑i : Int) < (↑(List.length (bw b)) : Int))))), (9, AVal.str (List.map AL.byteOf [AVal.int IntKind.u8 (AVal.intOf (List.getD (elemAt (bw b) (↑i : Int)) 0 AVal.undef))])), (10, AVal.int IntKind.i64 (1 : Int)), (58, AVal.bool (hold (AVal.intOf (List.getD (elemAt (bw b) (↑i : Int)) 0 AVal.undef) == (0 : Int)))), (63, AVal.bool (hold (decide ((↑(List.length (bw b)) : Int) ≤ IntKind.wrap IntKind.i64 ((↑i : Int) + (1 : Int)))))), (70, AVal.bool (hold (AVal.intOf (List.getD (elemAt (bw b) (IntKind.wrap IntKind.i64 ((↑i : Int) + (1 : Int)))) 0 AVal.undef) == (0 : Int)))), (3, AVal.int IntKind.i64 (IntKind.wrap IntKind.i64 ((↑i : Int) + (2 : Int)))), (4, AVal.int IntKind.i64 (0 : Int))] [] [(2, AObj.cells [AVal.int IntKind.i64 (2 : Int), AVal.int IntKind.i64 (0 : Int), AVal.str a])] Sto.empty)) (gb (decide ((0 : Int) ≤ IntKind.wrap IntKind.i64 ((↑i : Int) + (1 : Int)) ∧ IntKind.wrap IntKind.i64 ((↑i : Int) + (1 : Int)) < (↑(List.length (bw b)) : Int))) (gb (decide (1 ≤ List.length (elemAt (bw b) (IntKind.wrap IntKind.i64 ((↑i : Int) + (1 : Int)))) ∧ 0 < 1) && etaOk (Sh.int IntKind.u8) (List.getD (elemAt (bw b) (IntKind.wrap IntKind.i64 ((↑i : Int) + (1 : Int)))) 0 AVal.undef)) (brV (hold (AVal.intOf (List.getD (elemAt (bw b) (IntKind.wrap IntKind.i64 ((↑i : Int) + (1 : Int)))) 0 AVal.undef) != (255 : Int))) true (K Exit.ret (St.mk 93 [(0, AVal.slice (bw b) 1 Tag.ro), (2, AVal.ptr (Oid.loc 2) 0), (7, AVal.str a), (8, AVal.int IntKind.i64 (↑i : Int)), (47, AVal.bool (hold (decide ((↑i : Int) < (↑(List.length (bw b)) : Int))))), (9, AVal.str (List.map AL.byteOf [AVal.int IntKind.u8 (AVal.intOf (List.getD (elemAt (bw b) (↑i : Int)) 0 AVal.undef))])), (10, AVal.int IntKind.i64 (1 : Int)), (58, AVal.bool (hold (AVal.intOf (List.getD (elemAt (bw b) (↑i : Int)) 0 AVal.undef) == (0 : Int)))), (63, AVal.bool (hold (decide ((↑(List.length (bw b)) : Int) ≤ IntKind.wrap IntKind.i64 ((↑i : Int) + (1 : Int)))))), (70, AVal.bool (hold (AVal.intOf (List.getD (elemAt (bw b) (IntKind.wrap IntKind.i64 ((↑i : Int) + (1 : Int)))) 0 AVal.undef) == (0 : Int)))), (80, AVal.bool (hold (AVal.intOf (List.getD (elemAt (bw b) (IntKind.wrap IntKind.i64 ((↑i : Int) + (1 : Int)))) 0 AVal.undef) != (255 : Int)))), (3, AVal.int IntKind.i64 (0 : Int)), (4, AVal.int IntKind.i64 (10 : Int))] [] [(2, AObj.cells [AVal.int IntKind.i64 (0 : Int), AVal.int IntKind.i64 (0 : Int), AVal.str []])] Sto.empty)) (cutV (vc Try.prog cTakeR code_45_1_1_1_1_1_1_0_0_0_1_0_1_1_1 (blockK 3 (thenK (fun s => L (St.norm [] [0, 2, 7, 8] [2] s)) K))) (St.mk 93 [(0, AVal.slice (bw b) 1 Tag.ro), (2, AVal.ptr (Oid.loc 2) 0), (7, AVal.str a), (8, AVal.int IntKind.i64 (↑i : Int)), (9, AVal.str (List.map AL.byteOf [AVal.int IntKind.u8 (AVal.intOf (List.getD (elemAt (bw b) (↑i : Int)) 0 AVal.undef))])), (10, AVal.int IntKind.i64 (2 : Int))] [] [(2, AObj.cells [AVal.int IntKind.i64 (0 : Int), AVal.int IntKind.i64 (0 : Int), AVal.str []])] Sto.empty))))))))) (cutV (vc Try.prog cTakeR code_45_1_1_1_1_1_1_0_0_0_1_0_1_1_1 (blockK 3 (thenK (fun s => L (St.norm [] [0, 2, 7, 8] [2] s)) K))) (St.mk 93 [(0, AVal.slice (bw b) 1 Tag.ro), (2, AVal.ptr (Oid.loc 2) 0), (7, AVal.str a), (8, AVal.int IntKind.i64 (↑i : Int)), (9, AVal.str (List.map AL.byteOf [AVal.int IntKind.u8 (AVal.intOf (List.getD (elemAt (bw b) (↑i : Int)) 0 AVal.undef))])), (10, AVal.int IntKind.i64 (1 : Int))] [] [(2, AObj.cells [AVal.int IntKind.i64 (0 : Int), AVal.int IntKind.i64 (0 : Int), AVal.str []])] Sto.empty))))))) (K (Exit.exit 2) (St.mk 93 [(0, AVal.slice (bw b) 1 Tag.ro), (2, AVal.ptr (Oid.loc 2) 0), (7, AVal.str a), (8, AVal.int IntKind.i64 (↑i : Int)), (47, AVal.bool (hold (decide ((↑i : Int) < (↑(List.length (bw b)) : Int)))))] [] [(2, AObj.cells [AVal.int IntKind.i64 (0 : Int), AVal.int IntKind.i64 (0 : Int), AVal.str []])] Sto.empty))) := by kernel_rfl
noncomputable def takeRS_S (b a c : Txt) (i k : Nat) : St := St.mk 93 [(0, .slice (bw b) 1 .ro), (2, .ptr (.loc 2) 0), (7, .str a), (8, .int .i64 (i : Int)), (9, .str c), (10, .int .i64 (k : Int))] [] [(2, .cells [.int .i64 0, .int .i64 0, .str []])] (Sto.empty)
noncomputable abbrev takeRS_C : Code := code_45_1_1_1_1_1_1_0_0_0_1_0_1_1_1
theorem takeRS_r (b a c : Txt) (i k : Nat) (K : Exit → St → Prop) : vc Try.prog cTakeR code_45_1_1_1_1_1_1_0_0_0_1_0_1_1_1 K (St.mk 93 [(0, .slice (bw b) 1 .ro), (2, .ptr (.loc 2) 0), (7, .str a), (8, .int .i64 (i : Int)), (9, .str c), (10, .int .i64 (k : Int))] [] [(2, .cells [.int .i64 0, .int .i64 0, .str []])] (Sto.empty)) =
  (brV (hold (decide ((200 : Int) ≤ (↑(List.length a) : Int)))) true (K Exit.ret (St.mk 93 [(0, AVal.slice (bw b) 1 Tag.ro), (2, AVal.ptr (Oid.loc 2) 0), (7, AVal.str a), (8, AVal.int IntKind.i64 (↑i : Int)), (9, AVal.str c), (10, AVal.int IntKind.i64 (↑k : Int)), (84, AVal.bool (hold (decide ((200 : Int) ≤ (↑(List.length a) : Int))))), (3, AVal.int IntKind.i64 (0 : Int)), (4, AVal.int IntKind.i64 (32 : Int))] [] [(2, AObj.cells [AVal.int IntKind.i64 (0 : Int), AVal.int IntKind.i64 (0 : Int), AVal.str []])] Sto.empty)) (gb (decide (List.length a + List.length c ≤ 9223372036854775807)) (K Exit.normal (St.mk 93 [(0, AVal.slice (bw b) 1 Tag.ro), (2, AVal.ptr (Oid.loc 2) 0), (7, AVal.str (a ++ c)), (8, AVal.int IntKind.i64 (IntKind.wrap IntKind.i64 ((↑i : Int) + (↑k : Int)))), (9, AVal.str c), (10, AVal.int IntKind.i64 (↑k : Int)), (84, AVal.bool (hold (decide ((200 : Int) ≤ (↑(List.length a) : Int)))))] [] [(2, AObj.cells [AVal.int IntKind.i64 (0 : Int), AVal.int IntKind.i64 (0 : Int), AVal.str []])] Sto.empty)))) := by kernel_rfl
noncomputable def takeRNF_S (b : Txt) (u : Nat) : St := St.mk 93 [(0, .slice (bw b) 1 .ro), (2, .ptr (.loc 2) 0), (5, .int .u64 (u : Int))] [] [(2, .cells [.int .i64 0, .int .i64 0, .str []])] (Sto.empty)
noncomputable abbrev takeRNF_C : Code := code_45_1_1_0_1_0_1_1_1
theorem takeRNF_r (b : Txt) (u : Nat) (K : Exit → St → Prop) : vc Try.prog cTakeR code_45_1_1_0_1_0_1_1_1 K (St.mk 93 [(0, .slice (bw b) 1 .ro), (2, .ptr (.loc 2) 0), (5, .int .u64 (u : Int))] [] [(2, .cells [.int .i64 0, .int .i64 0, .str []])] (Sto.empty)) =
  (K Exit.ret (St.mk 93 [(0, AVal.slice (bw b) 1 Tag.ro), (2, AVal.ptr (Oid.loc 2) 0), (5, AVal.int IntKind.u64 (↑u : Int)), (3, AVal.int IntKind.i64 (9 : Int)), (4, AVal.int IntKind.i64 (0 : Int))] [] [(2, AObj.cells [AVal.int IntKind.i64 (1 : Int), AVal.int IntKind.i64 (IntKind.wrap IntKind.i64 (IntKind.wrap IntKind.u64 ((↑u : Int) - (9223372036854775808 : Int)))), AVal.str []])] Sto.empty)) := by kernel_rfl
noncomputable def takeRTF_S  : St := St.mk 93 [(2, .ptr (.loc 2) 0)] [] [(2, .cells [.int .i64 0, .int .i64 0, .str []])] (Sto.empty)
noncomputable abbrev takeRTF_C : Code := code_45_1_1_1_1_1_1_1
theorem takeRTF_r  (Q : AVal → Sto → Prop) : vc Try.prog cTakeR code_45_1_1_1_1_1_1_1 (endK Try.prog Try.f45.results.toList Q) (St.mk 93 [(2, .ptr (.loc 2) 0)] [] [(2, .cells [.int .i64 0, .int .i64 0, .str []])] (Sto.empty)) =
  (Q (AVal.tuple [AVal.agg [AVal.int IntKind.i64 (0 : Int), AVal.int IntKind.i64 (0 : Int), AVal.str []], AVal.int IntKind.i64 (0 : Int), AVal.int IntKind.i64 (20 : Int)]) Sto.empty) := by kernel_rfl
end Go.Proofs.Ytbghpjamahgegaa.V
end

section
namespace Go.AL
set_option linter.unusedSimpArgs false
set_option linter.unusedVariables false
@[simp] theorem vlv_length (l : List Vl) : (vlv l).length = l.length := by simp [vlv]
theorem elemAt_vlv (l : List Vl) (i : Nat) (h : i < l.length) : elemAt (vlv l) (i : Int) = [.int .i64 l[i].k, .int .i64 l[i].n, .str l[i].s] := elemAt_map Vl.a l i h
@[simp] theorem vlv_is (l : List Vl) : (vlv l).all isVl = true := by simp [vlv, isVl, Vl.a]
@[simp] theorem map_vlOf_vlv (l : List Vl) : (vlv l).map vlOf = l := by
  simp only [vlv, List.map_map]
  conv => rhs; rw [← List.map_id l]
  exact List.map_congr_left fun b _ => rfl
theorem vl_of1 {e : AVal} (h : isVl e = true) : (vlOf e).a = e := by
  unfold isVl at h
  split at h
  · rfl
  · cases h
theorem vl_of {es : List AVal} (h : es.all isVl = true) : es = vlv (es.map vlOf) := by
  unfold vlv
  rw [List.map_map]
  conv => lhs; rw [← List.map_id es]
  exact List.map_congr_left fun e he => (vl_of1 (List.all_eq_true.1 h e he)).symm
theorem wk_vlv {s : Nat} {es : List AVal} (t : Tag) (hn : okW 3 s es = true) (h : es.all isVl = true) : Wk (.slice es s t) (.slice (vlv (es.map vlOf)) 3 .ro) := by
  rw [← vl_of h]
  exact wkW t hn
theorem vlv_noOut (n : Nat) (l : List Vl) : noOutL n (vlv l) = true := noOutL_map n (fun _ => rfl) l
theorem vlv_noTok (n : Nat) (l : List Vl) : noTokL n (vlv l) = true := noTokL_map n (fun _ => rfl) l
theorem vlv_noLoc (l : List Vl) : noLocL (vlv l) = true := noLocL_map (fun _ => rfl) l
theorem getD_at (l : Txt) (i : Nat) (h : i < l.length) : l.getD i 0 = l[i] := by simp [List.getD, List.getElem?_eq_getElem h]
theorem cmpV_k {k n k' n' : Int} {s s' : Txt} (h : k ≠ k') : cmpV ⟨k, n, s⟩ ⟨k', n', s'⟩ = sgI k k' := by
  have a1 := sgI_cases k k'
  unfold cmpV
  simp only
  rw [if_pos (by omega)]
theorem cmpV_n {k n n' : Int} {s s' : Txt} (h : n ≠ n') : cmpV ⟨k, n, s⟩ ⟨k, n', s'⟩ = sgI n n' := by
  have a1 := sgI_cases k k
  have a2 := sgI_cases n n'
  unfold cmpV
  simp only
  rw [if_neg (by omega), if_pos (by omega)]
theorem cmpV_s {k n : Int} {s s' : Txt} : cmpV ⟨k, n, s⟩ ⟨k, n, s'⟩ = cmpB s s' := by
  have a1 := sgI_cases k k
  have a2 := sgI_cases n n
  unfold cmpV
  simp only
  rw [if_neg (by omega), if_neg (by omega)]
theorem sgn_if {a b : Int} (h : a ≠ b) : (if decide (a < b) = true then (-1 : Int) else 1) = sgI a b := by
  unfold sgI
  by_cases hlt : a < b
  · rw [if_pos (decide_eq_true hlt), if_pos hlt]
  · rw [if_neg (by rw [decide_eq_true_eq]; exact hlt), if_neg hlt, if_pos (by omega)]
theorem wk_eq {x y : AVal} (h : x = y) : Wk x y := by rw [h]; exact Wk.refl _
theorem okV_iff (k n : Int) (s : Txt) : okV ⟨k, n, s⟩ = true ↔ k = 1 ∧ s = [] ∨ k = 2 ∧ n = 0 ∧ s.length ≤ 200 := by
  unfold okV; rw [decide_eq_true_eq]; rfl
end Go.AL
namespace Go.Proofs.Ytbghpjamahgegaa.V
open Go.AL
set_option linter.unusedSimpArgs false
set_option linter.unusedVariables false
set_option maxHeartbeats 2000000
set_option maxRecDepth 20000
theorem and_tt {a b : Bool} (h1 : a = true) (h2 : b = true) : (a && b) = true := by rw [h1, h2]; rfl
theorem thenN {f : St → Prop} {K : Exit → St → Prop} {st : St} (h : f st) : thenK f K .normal st := h
theorem lenOk_of {n : Nat} (h : lenOk n = true) : n ≤ 140737488351232 := by simpa [lenOk] using h
theorem lenOk_mk {n : Nat} (h : n ≤ 140737488351232) : lenOk n = true := by simpa [lenOk] using h
theorem lenT_of {s : Txt} (h : lenT s = true) : s.length ≤ 1000000 := by simpa [lenT] using h
theorem lenT_mk {s : Txt} (h : s.length ≤ 1000000) : lenT s = true := by simpa [lenT] using h
theorem i64r_of {n : Int} (h : i64r n = true) : -9223372036854775808 ≤ n ∧ n ≤ 9223372036854775807 := by
  unfold i64r at h; rw [hold_eq] at h; exact @of_decide_eq_true _ (_) h
theorem i64r_mk {n : Int} (h : -9223372036854775808 ≤ n ∧ n ≤ 9223372036854775807) : i64r n = true := by
  unfold i64r; rw [hold_eq]; exact @decide_eq_true _ (_) h
theorem brT {b : Bool} {A B : Prop} (hb : b = true) (h : A) : brV b true A B := by subst hb; exact brV_by (fun _ => h) (fun h => by cases h)
theorem brF {b : Bool} {A B : Prop} (hb : b = false) (h : B) : brV b true A B := by subst hb; exact brV_by (fun h => by cases h) (fun _ => h)

/-! ### Things -/
noncomputable def thingA (k n : Int) (s : Txt) : AVal := if k = 1 ∧ s.length = 0 then .iface 3 (.int .i64 n) else if k = 2 ∧ n = 0 ∧ s.length ≤ 200 then .iface 9 (.str s) else .nilIface
theorem thing_c (k n : Int) (s : Txt) : ACall Try.prog 49 [.agg [.int .i64 k, .int .i64 n, .str s]] Sto.empty fun r _ => Wk r (thingA k n s) := by
  refine thing_i k n s _ (.of_none rfl) ?_
  have e : (s == []) = (s.length == 0) := by cases s <;> rfl
  simp only [hold_eq, e]
  repeat' (refine brV_by (fun h => ?_) (fun h => ?_))
  all_goals
    refine wk_eq ?_
    simp only [beq_iff_eq, beq_eq_false_iff_ne, decide_eq_true_eq, decide_eq_false_iff_not, ne_eq] at *
    unfold thingA
    by_cases c1 : k = 1 ∧ s.length = 0
    · rw [if_pos c1]
      all_goals first
        | rfl
        | (exfalso; omega)
    · rw [if_neg c1]
      by_cases c2 : k = 2 ∧ n = 0 ∧ s.length ≤ 200
      · rw [if_pos c2]
        all_goals first
          | rfl
          | (exfalso; omega)
      · rw [if_neg c2]
        all_goals first
          | rfl
          | (exfalso; omega)
theorem thing_ok : EntOk Try.prog thingE := by
  intro xs σ; simp only [thingE]; split
  · rename_i k n s
    have h := thing_c k n s
    refine ⟨fun h1 _ => ?_, fun h1 => ⟨fun h2 _ => ?_, fun h2 _ => ?_⟩⟩
    · rw [hold_eq] at h1
      rw [thingA, if_pos (of_decide_eq_true h1)] at h
      exact pcall_of (.refl _) h rfl rfl rfl rfl
    · rw [hold_eq] at h1 h2
      rw [thingA, if_neg (of_decide_eq_false h1), if_pos (of_decide_eq_true h2)] at h
      exact pcall_of (.refl _) h rfl rfl rfl rfl
    · rw [hold_eq] at h1 h2
      rw [thingA, if_neg (of_decide_eq_false h1), if_neg (of_decide_eq_false h2)] at h
      exact pcall_of (.refl _) h rfl rfl rfl rfl
  · trivial
theorem okV_b (k n : Int) (s : Txt) : okV ⟨k, n, s⟩ = (decide (k = 1 ∧ s.length = 0) || decide (k = 2 ∧ n = 0 ∧ s.length ≤ 200)) := by
  rw [Bool.eq_iff_iff, okV_iff, Bool.or_eq_true, decide_eq_true_eq, decide_eq_true_eq, List.length_eq_zero_iff]
theorem right1_c (k n : Int) (s : Txt) : ACall Try.prog 53 [.agg [.int .i64 k, .int .i64 n, .str s]] Sto.empty fun r _ => Wk r (.bool (!okV ⟨k, n, s⟩)) := by
  refine right1_i k n s _ (.of [thingE] rfl ⟨thing_ok, trivial⟩) ?_
  simp only [hold_eq]
  refine brV_by (fun h => ?_) (fun h => brV_by (fun h2 => ?_) (fun h2 => ?_))
  · rw [okV_b, h]; exact Wk.refl _
  · rw [okV_b, h, h2]; exact Wk.refl _
  · rw [okV_b, h, h2]; exact Wk.refl _
theorem right1_ok : EntOk Try.prog right1E := by
  intro xs σ; simp only [right1E]; split
  · intro _
    exact pcall_of (.refl _) (by rw [hold_eq]; exact right1_c _ _ _) rfl rfl rfl rfl
  · trivial
theorem vlsOk_of {es : List AVal} {s : Nat} (h : vlsOk es s = true) : okW 3 s es = true ∧ es.all isVl = true ∧ es.length ≤ 140737488351232 := by
  unfold vlsOk at h
  simp only [Bool.and_eq_true] at h
  exact ⟨h.1, h.2.1, lenOk_of h.2.2⟩
theorem vlsOk_mk {l : List Vl} (h : l.length ≤ 140737488351232) : vlsOk (vlv l) 3 = true := and_tt (okW_same _ _) (and_tt (vlv_is _) (lenOk_mk (by simpa using h)))
theorem indexF_c (l : List Vl) (hl : l.length ≤ 140737488351232) : ACall Try.prog 61 [.slice (vlv l) 3 .ro, .func (.func 53) [] []] Sto.empty fun r _ => Wk r (.int .i64 (if l.all okV then -1 else (l.findIdx (fun x => !okV x) : Int))) := by
  refine indexF_i l _ (.of [right1E] rfl ⟨right1_ok, trivial⟩) ?_
  have hn : (vlv l).length = l.length := vlv_length l
  refine loopV_intro (α := Nat) (fun i => indexFL_S l (vlv l).length i) (fun i => i ≤ l.length ∧ ∀ j (h : j < l.length), j < i → okV l[j] = true) (fun i => l.length - i) ?_ 0 ⟨Nat.zero_le _, fun j _ h => by omega⟩
  rintro i ⟨hi, hpre⟩ L hL
  refine Eq.mpr (indexFL_r l (vlv l).length i L _) ?_
  simp only [hold_eq]
  refine brV_by (fun h => ?_) (fun h => ?_)
  · have hlt : i < l.length := by have := of_decide_eq_true h; omega
    rw [i64_succ hlt hl, elemAt_vlv l i hlt]
    have e : (⟨AVal.intOf (List.getD [AVal.int .i64 l[i].k, .int .i64 l[i].n, .str l[i].s] 0 .undef), AVal.intOf (List.getD [AVal.int .i64 l[i].k, .int .i64 l[i].n, .str l[i].s] 1 .undef), AVal.strOf (List.getD [AVal.int .i64 l[i].k, .int .i64 l[i].n, .str l[i].s] 2 .undef)⟩ : Vl) = l[i] := rfl
    rw [e]
    refine gb_by (dt (by omega)) (gb_by rfl (brV_by (fun h => ?_) (fun h => ?_)))
    · have hb : okV l[i] = false := by simpa using h
      have h1 : ¬ l.all okV = true := fun ha => by have := List.all_eq_true.1 ha _ (List.getElem_mem hlt); rw [hb] at this; cases this
      have h2 : l.findIdx (fun x => !okV x) = i := by
        rw [List.findIdx_eq hlt]
        exact ⟨by rw [hb]; rfl, fun j hj => by have := hpre j (by omega) hj; simp [this]⟩
      rw [if_neg h1, h2]; exact Wk.refl _
    · have hb : okV l[i] = true := by simpa using h
      refine hL (i + 1) ⟨hlt, fun j hj hji => ?_⟩ (by omega)
      rcases Nat.lt_or_ge j i with h9 | h9
      · exact hpre j hj h9
      · obtain rfl : j = i := by omega
        exact hb
  · have hge : i = l.length := by have := of_decide_eq_false h; omega
    have ha : l.all okV = true := List.all_eq_true.2 fun x hx => by
      obtain ⟨j, hj, rfl⟩ := List.getElem_of_mem hx
      exact hpre j hj (by omega)
    rw [if_pos ha]; exact Wk.refl _
theorem indexF_ok : EntOk Try.prog indexFE := by
  intro xs σ; simp only [indexFE]; split
  · rename_i es s t g
    intro hc
    rw [Bool.and_eq_true] at hc
    obtain ⟨h0, hc⟩ := hc
    have h0 := Nat.eq_of_beq_eq_true h0
    subst h0
    obtain ⟨h1, h2, h3⟩ := vlsOk_of hc
    exact pcall_of (.cons (wk_vlv t h1 h2) (.refl _)) (indexF_c _ (by simpa using h3)) (by simp only [noOutL, AVal.noOut, vlv_noOut, Bool.and_true]) (by simp only [noTokL, AVal.noTok, vlv_noTok, Bool.and_true, Tag.below]) rfl rfl
  · trivial
theorem containsF_c (l : List Vl) (hl : l.length ≤ 140737488351232) : ACall Try.prog 52 [.slice (vlv l) 3 .ro, .func (.func 53) [] []] Sto.empty fun r _ => Wk r (.bool (!l.all okV)) := by
  refine containsF_i l _ (.of [indexFE] rfl ⟨indexF_ok, trivial⟩) ?_
  simp only [map_vlOf_vlv, hold_eq]
  intro y hy i hi
  refine gb_by (vlsOk_mk hl) ?_
  rw [← hy]
  have : decide (0 ≤ i) = !y := by
    cases y with
    | true => rw [hi]; rfl
    | false =>
      rw [hi]
      simp
  rw [this]; exact Wk.refl _
theorem containsF_ok : EntOk Try.prog containsFE := by
  intro xs σ; simp only [containsFE]; split
  · rename_i es s t g
    intro hc
    rw [Bool.and_eq_true] at hc
    obtain ⟨h0, hc⟩ := hc
    have h0 := Nat.eq_of_beq_eq_true h0
    subst h0
    obtain ⟨h1, h2, h3⟩ := vlsOk_of hc
    exact pcall_of (.cons (wk_vlv t h1 h2) (.refl _)) (by rw [hold_eq]; exact containsF_c _ (by simpa using h3)) (by simp only [noOutL, AVal.noOut, vlv_noOut, Bool.and_true]) (by simp only [noTokL, AVal.noTok, vlv_noTok, Bool.and_true, Tag.below]) rfl rfl
  · trivial
theorem right_c (l : List Vl) (hl : l.length ≤ 140737488351232) : ACall Try.prog 34 [.slice (vlv l) 3 .ro] Sto.empty fun r _ => Wk r (.bool (l.all okV)) := by
  refine right_i l _ (.of [containsFE] rfl ⟨containsF_ok, trivial⟩) ?_
  simp only [map_vlOf_vlv, hold_eq, Bool.not_not]
  exact gb_by (vlsOk_mk hl) (Wk.refl _)
theorem right_ok : EntOk Try.prog rightE := by
  intro xs σ; simp only [rightE]; split
  · rename_i es s t
    intro hc
    obtain ⟨h1, h2, h3⟩ := vlsOk_of hc
    exact pcall_of (.cons (wk_vlv t h1 h2) (.refl _)) (by rw [hold_eq]; exact right_c _ (by simpa using h3)) (by simp only [noOutL, AVal.noOut, vlv_noOut, Bool.and_true]) (by simp only [noTokL, AVal.noTok, vlv_noTok, Bool.and_true, Tag.below]) rfl rfl
  · trivial

/-! ### The order -/
theorem rightR_c (k n : Int) (s : Txt) : ACall Try.prog 28 [.agg [.int .i64 k, .int .i64 n, .str s]] Sto.empty fun r _ => Wk r (.bool (okV ⟨k, n, s⟩)) := by
  refine rightR_i k n s _ (.of_none rfl) ?_
  have e : (s == []) = (s.length == 0) := by cases s <;> rfl
  simp only [hold_eq, e]
  have hok : okV ⟨k, n, s⟩ = true ↔ k = 1 ∧ s.length = 0 ∨ k = 2 ∧ n = 0 ∧ s.length ≤ 200 := by rw [okV_iff, List.length_eq_zero_iff]
  repeat' (first | refine brV_by (fun h => ?_) (fun h => ?_) | refine brV_by' (fun h => ?_) (fun h => ?_))
  all_goals
    refine wk_eq (congrArg AVal.bool ?_)
    rw [Bool.eq_iff_iff, hok]
    simp only [beq_iff_eq, beq_eq_false_iff_ne, decide_eq_true_eq, decide_eq_false_iff_not, ne_eq, Bool.false_eq_true, false_iff, true_iff, iff_true, iff_false] at *
    omega
theorem rightR_ok : EntOk Try.prog rightRE := by
  intro xs σ; simp only [rightRE]; split
  · intro _
    exact pcall_of (.refl _) (by rw [hold_eq]; exact rightR_c _ _ _) rfl rfl rfl rfl
  · trivial
end Go.Proofs.Ytbghpjamahgegaa.V
end

section
namespace Go.AL
theorem be8_len (u : Nat) : (be8 u).length = 8 := rfl
theorem escT_append (a b : Txt) : escT (a ++ b) = escT a ++ escT b := by simp [escT]
theorem escT_take (s : Txt) (i : Nat) (h : i < s.length) : escT (s.take (i + 1)) = escT (s.take i) ++ escB s[i] := by
  rw [List.take_add_one, List.getElem?_eq_getElem h, escT_append]
  simp [escT]
theorem u8_zero {c : UInt8} (h : ((c.toNat : Int) == 0) = true) : c = 0 := by
  have h1 : (c.toNat : Int) = 0 := by simpa using h
  refine UInt8.toNat_inj.1 ?_
  show c.toNat = 0
  omega
theorem bw_one (c : UInt8) : [AVal.int .u8 (c.toNat : Int)] = bw [c] := rfl
theorem u8_byte (u j : Nat) : IntKind.u8.wrap ((u / 256 ^ j : Nat) : Int) = ((byteAt u j).toNat : Int) := by
  rw [byteAt_nat, IntKind.wrap_u8]
  omega
theorem be8_take (u i : Nat) (h : i < 8) : (be8 u).take (i + 1) = (be8 u).take i ++ [byteAt u (7 - i)] := by
  rw [List.take_add_one]
  match i, h with
  | 0, _ => rfl
  | 1, _ => rfl
  | 2, _ => rfl
  | 3, _ => rfl
  | 4, _ => rfl
  | 5, _ => rfl
  | 6, _ => rfl
  | 7, _ => rfl
theorem be8_drop (u i : Nat) (h : i < 8) : (be8 u).drop (7 - i) = byteAt u i :: (be8 u).drop (8 - i) := by
  match i, h with
  | 0, _ => rfl
  | 1, _ => rfl
  | 2, _ => rfl
  | 3, _ => rfl
  | 4, _ => rfl
  | 5, _ => rfl
  | 6, _ => rfl
  | 7, _ => rfl
end Go.AL
namespace Go.Proofs.Ytbghpjamahgegaa.V
open Go.AL
set_option linter.unusedSimpArgs false
set_option linter.unusedVariables false
set_option maxHeartbeats 2000000
set_option maxRecDepth 20000
theorem numOf_bound {n : Int} (h0 : -9223372036854775808 ≤ n) (h1 : n ≤ 9223372036854775807) : (n + 9223372036854775808).toNat < 18446744073709551616 := by omega
theorem bytes_c (k n : Int) (s : Txt) (h0 : -9223372036854775808 ≤ n) (h1 : n ≤ 9223372036854775807) : ACall Try.prog 30 [.agg [.int .i64 k, .int .i64 n, .str s]] Sto.empty
    fun r _ => Wk r (.tuple [.slice (bw (if okV ⟨k, n, s⟩ = true then bytesV ⟨k, n, s⟩ else [])) 1 .ro, .int .i64 (if okV ⟨k, n, s⟩ = true then 0 else 22)]) := by
  refine bytes_i k n s _ (.of [thingE] rfl ⟨thing_ok, trivial⟩) ?_
  have hb := okV_b k n s
  simp only [hold_eq]
  refine brV_by (fun h => ?_) (fun h => ?_)
  · have hk := of_decide_eq_true h
    have hok : okV ⟨k, n, s⟩ = true := by rw [hb, h]; rfl
    rw [if_pos hok, if_pos hok]
    have hbv : bytesV ⟨k, n, s⟩ = 1 :: be8 (n + 9223372036854775808).toNat := if_pos hk.1
    rw [hbv]
    have hU := numOf_bound h0 h1
    have hx := sign_num n h0 h1
    generalize (n + 9223372036854775808).toNat = U at *
    refine loopV_intro (α := Nat) (fun i => bytesN_S n (1 :: (be8 U).take i) (56 - 8 * (i : Int))) (fun i => i ≤ 8) (fun i => 8 - i) ?_ 0 (Nat.zero_le _)
    rintro i hi L hL
    refine Eq.mpr (bytesN_r n (1 :: (be8 U).take i) (56 - 8 * (i : Int)) L _) ?_
    simp only [hold_eq]
    have hl : (bw (1 :: (be8 U).take i)).length = i + 1 := by rw [bw_length, List.length_cons, List.length_take, be8_len]; omega
    refine brV_by (fun h => ?_) (fun h => ?_)
    · have hlt : i < 8 := by have := of_decide_eq_true h; omega
      have nxt := hL (i + 1) hlt (by omega)
      refine gb_by h (gb_by (dt ⟨dt ⟨trivial, trivial, by omega, by omega⟩, trivial⟩) ?_)
      rw [setOwn_e1]
      have e1 : IntKind.u8.wrap (Int.fdiv (bits .xor .u64 (IntKind.u64.wrap n) 9223372036854775808) (2 ^ min (Int.toNat (56 - 8 * (i : Int))) 64)) = ((byteAt U (7 - i)).toNat : Int) := by
        rw [hx, ← u8_byte]
        have t : Int.toNat (56 - 8 * (i : Int)) = 8 * (7 - i) := by omega
        rw [t, Nat.min_eq_left (by omega)]
        have p : (2 : Int) ^ (8 * (7 - i)) = ((256 ^ (7 - i) : Nat) : Int) := by
          rw [Int.natCast_pow, show (((256 : Nat) : Int)) = 2 ^ 8 by decide, ← Int.pow_mul]
        rw [p]
        rw [Int.fdiv_eq_ediv_of_nonneg _ (Int.natCast_nonneg _), ← Int.natCast_ediv]
      have e2 : IntKind.i64.wrap (56 - 8 * (i : Int) - 8) = 56 - 8 * ((i + 1 : Nat) : Int) := by rw [wrap_i64 (by omega) (by omega)]; omega
      have e3 : bw (1 :: (be8 U).take i) ++ [AVal.int .u8 ((byteAt U (7 - i)).toNat : Int)] = bw (1 :: (be8 U).take (i + 1)) := by
        rw [bw_one, ← bw_append, be8_take U i hlt]; rfl
      have e4 : (bw (1 :: (be8 U).take i)).length + 1 = (bw (1 :: (be8 U).take (i + 1))).length := by
        rw [hl, bw_length, List.length_cons, List.length_take, be8_len]; omega
      rw [e1, e2, e3, e4]
      exact nxt
    · have hge : i = 8 := by have := of_decide_eq_false h; omega
      subst hge
      refine leaveTo (toCut (Eq.mpr (bytesNF_r n _ _) ?_))
      have : (be8 U).take 8 = be8 U := List.take_of_length_le (by rw [be8_len]; omega)
      rw [this]
      exact Wk.tuple (.cons (Wk.ro _ _ _) (.refl _))
  · refine brV_by (fun h2 => ?_) (fun h2 => ?_)
    · have hk := of_decide_eq_true h2
      have hok : okV ⟨k, n, s⟩ = true := by rw [hb, h2, Bool.or_true]
      rw [if_pos hok, if_pos hok]
      have hbv : bytesV ⟨k, n, s⟩ = 2 :: (escT s ++ [0, 0]) := if_neg (by show ¬ k = 1; omega)
      rw [hbv]
      refine loopV_intro (α := Nat) (fun i => bytesT_S s (2 :: escT (s.take i)) s.length i) (fun i => i ≤ s.length) (fun i => s.length - i) ?_ 0 (Nat.zero_le _)
      rintro i hi L hL
      refine Eq.mpr (bytesT_r s (2 :: escT (s.take i)) s.length i L _) ?_
      simp only [hold_eq]
      have hel := escT_len (s.take i)
      rw [List.length_take] at hel
      have hl : (bw (2 :: escT (s.take i))).length = (escT (s.take i)).length + 1 := by rw [bw_length, List.length_cons]
      refine brV_by (fun h => ?_) (fun h => ?_)
      · have hlt : i < s.length := by have := of_decide_eq_true h; omega
        have t0 : Int.toNat (i : Int) = i := rfl
        rw [t0, getD_at _ _ hlt, i64_succ hlt (by omega)]
        have c1 := decide_eq_true (show (0 : Int) ≤ (i : Int) ∧ (i : Int) < (s.length : Int) by omega)
        have nxt := hL (i + 1) hlt (by omega)
        refine gb_by c1 (gb_by (dt ⟨dt ⟨trivial, trivial, by omega, by omega⟩, trivial⟩) (gb_by c1 (brV_by (fun h => ?_) (fun h => ?_))))
        · have hz : s[i] = 0 := u8_zero h
          have e3 : bw (2 :: escT (s.take i)) ++ [AVal.int .u8 (s[i].toNat : Int)] ++ [AVal.int .u8 255] = bw (2 :: escT (s.take (i + 1))) := by
            rw [escT_take s i hlt, hz]
            show _ = bw ((2 :: escT (s.take i)) ++ [0, 255])
            rw [bw_append, List.append_assoc]; rfl
          have e4 : (bw (2 :: escT (s.take (i + 1)))).length = (bw (2 :: escT (s.take i))).length + 2 := by rw [← e3]; simp
          refine gb_by (dt ⟨dt ⟨trivial, by simp, by simp; omega, by simp; omega⟩, trivial⟩) ?_
          rw [setOwn_e1, setOwn_e1, e3]
          have e5 : (bw (2 :: escT (s.take i)) ++ [AVal.int .u8 (s[i].toNat : Int)]).length + 1 = (bw (2 :: escT (s.take (i + 1)))).length := by rw [e4]; simp
          rw [e5]
          exact nxt
        · have hz : ¬ s[i] = 0 := fun hz => by rw [hz] at h; cases h
          have e3 : bw (2 :: escT (s.take i)) ++ [AVal.int .u8 (s[i].toNat : Int)] = bw (2 :: escT (s.take (i + 1))) := by
            rw [escT_take s i hlt, escB, if_neg hz]
            show _ = bw ((2 :: escT (s.take i)) ++ [s[i]])
            rw [bw_append, bw_one]
          rw [setOwn_e1, e3]
          have e5 : (bw (2 :: escT (s.take i))).length + 1 = (bw (2 :: escT (s.take (i + 1)))).length := by rw [← e3]; simp
          rw [e5]
          exact nxt
      · have hge : i = s.length := by have := of_decide_eq_false h; omega
        subst hge
        rw [List.take_length] at hl hel ⊢
        refine leaveTo (toCut (Eq.mpr (bytesTF_r _ _) ?_))
        refine gb_by (dt ⟨dt ⟨rfl, rfl, by omega, by omega⟩, rfl⟩) ?_
        have e3 : bw (2 :: escT s) ++ [AVal.int .u8 0, .int .u8 0] = bw (2 :: (escT s ++ [0, 0])) := by
          show _ = bw ((2 :: escT s) ++ [0, 0])
          rw [bw_append]; rfl
        rw [e3]
        exact Wk.tuple (.cons (Wk.ro _ _ _) (.refl _))
    · have hok : ¬ okV ⟨k, n, s⟩ = true := by rw [hb, h, h2]; decide
      rw [if_neg hok, if_neg hok]
      exact Wk.tuple (.cons (wkW .nil (okW_nil 1 0)) (.refl _))
theorem bytes_ok : EntOk Try.prog bytesE := by
  intro xs σ; simp only [bytesE]; split
  · rename_i k n s
    intro hc
    have hn := i64r_of hc
    exact pcall_of (v := .tuple [.slice _ 1 .ro, .int .i64 _]) (.refl _) (bytes_c k n s hn.1 hn.2) rfl rfl (by simp only [AVal.noOut, noOutL, bw_noOut, Bool.and_true]) (by simp only [AVal.noTok, noTokL, bw_noTok, Tag.below, Bool.and_true])
  · trivial
end Go.Proofs.Ytbghpjamahgegaa.V
end

section
namespace Go.AL
theorem txtV_ne {c : UInt8} (hc : c ≠ 0) (r a : Txt) (i : Nat) : txtV (c :: r) a i = if a.length = 200 then ([], 0, 32) else txtV r (a ++ [c]) (i + 1) := by
  cases r with
  | nil => simp only [txtV, hc, if_false]
  | cons d r => simp only [txtV, hc, if_false]
def resT (y : Txt × Nat × Int) : AVal := .tuple [.agg [.int .i64 (if y.2.2 = 0 then 2 else 0), .int .i64 0, .str (if y.2.2 = 0 then y.1 else [])], .int .i64 (y.2.1 : Int), .int .i64 y.2.2]
def resV (y : Vl × Nat × Int) : AVal := .tuple [.agg [.int .i64 y.1.k, .int .i64 y.1.n, .str y.1.s], .int .i64 (y.2.1 : Int), .int .i64 y.2.2]
theorem u8_ne {c : UInt8} {m : Nat} (h : ((c.toNat : Int) == (m : Int)) = false) (hm : m < 256) : c ≠ UInt8.ofNat m := fun e => by
  subst e
  have : (UInt8.ofNat m).toNat = m := by simp; omega
  rw [this] at h
  simp at h
theorem u8_eqn {c : UInt8} {m : Nat} (h : ((c.toNat : Int) == (m : Int)) = true) (hm : m < 256) : c = UInt8.ofNat m := by
  have h1 : (c.toNat : Int) = m := by simpa using h
  refine UInt8.toNat_inj.1 ?_
  have : (UInt8.ofNat m).toNat = m := by simp; omega
  rw [this]; omega
theorem take_txt (r : Txt) : resT (txtV r [] 1) = resV (takeV (2 :: r)) := by
  unfold takeV
  simp only [if_true]
  unfold resT resV
  by_cases h : (txtV r [] 1).2.2 = 0
  · simp only [h, if_true]
  · simp only [h, if_false]; rfl
theorem num8_snoc (b : Txt) (c : UInt8) : num8 (b ++ [c]) = num8 b * 256 + c.toNat := by simp [num8]
theorem num8_acc : ∀ (b : Txt) (n : Nat), b.foldl (fun n x => n * 256 + x.toNat) n < (n + 1) * 256 ^ b.length
  | [], n => by simp
  | c :: b, n => by
    have h := num8_acc b (n * 256 + c.toNat)
    have hc := c.toNat_lt
    have h2 : (n * 256 + c.toNat + 1) * 256 ^ b.length ≤ ((n + 1) * 256) * 256 ^ b.length := Nat.mul_le_mul_right _ (by omega)
    rw [List.foldl_cons, List.length_cons, Nat.pow_succ, Nat.mul_comm (256 ^ b.length) 256, ← Nat.mul_assoc]
    omega
theorem num8_lt (b : Txt) : num8 b < 256 ^ b.length := by
  have := num8_acc b 0
  simpa [num8] using this
end Go.AL
namespace Go.Proofs.Ytbghpjamahgegaa.V
open Go.AL
set_option linter.unusedSimpArgs false
set_option linter.unusedVariables false
set_option maxHeartbeats 2000000
set_option maxRecDepth 20000
theorem vtext_c (b : Txt) (hb : b.length ≤ 1000000) : ACall Try.prog 58 [.slice (bw b) 1 .ro] Sto.empty fun r _ => Wk r (resT (txtV (b.drop 1) [] 1)) := by
  refine vtext_i b _ (.of_none rfl) ?_
  generalize hX : txtV (b.drop 1) [] 1 = X
  refine loopV_intro (α := Txt × Nat) (fun x => vtextL_S b x.1 x.2) (fun x => 1 ≤ x.2 ∧ x.2 ≤ b.length + 1 ∧ x.1.length ≤ 200 ∧ X = txtV (b.drop x.2) x.1 x.2) (fun x => b.length - x.2) ?_ ([], 1) ⟨Nat.le_refl _, by simp, Nat.zero_le _, hX.symm⟩
  rintro ⟨a, i⟩ ⟨h1, hi, ha, hpre⟩ L hL
  simp only at h1 hi ha hpre
  refine Eq.mpr (vtextL_r b a i L _) ?_
  simp only [hold_eq]
  have hbl : (bw b).length = b.length := bw_length b
  have hal : (bw a).length = a.length := bw_length a
  refine brV_by (fun h => ?_) (fun h => ?_)
  · have hlt : i < b.length := by have := of_decide_eq_true h; omega
    rw [elemAt_bw b i hlt]
    have e0 : AVal.intOf (List.getD [AVal.int .u8 (b[i].toNat : Int)] 0 .undef) = (b[i].toNat : Int) := rfl
    rw [e0]
    have w1 : IntKind.i64.wrap ((i : Int) + 1) = ((i + 1 : Nat) : Int) := by rw [wrap_i64 (by omega) (by omega)]; omega
    rw [w1]
    have c0 := decide_eq_true (show (0 : Int) ≤ (i : Int) ∧ (i : Int) < ((bw b).length : Int) by omega)
    rw [List.drop_eq_getElem_cons hlt] at hpre
    refine gb_by c0 (gb_by rfl (brV_by (fun h => ?_) (fun h => ?_)))
    · have hz : b[i] = 0 := u8_zero h
      rw [hz] at hpre
      refine brV_by (fun h => ?_) (fun h => ?_)
      · have hl : i + 1 = b.length := by
          have : ((i + 1 : Nat) : Int) = ((bw b).length : Int) := by simpa using h
          omega
        rw [List.drop_of_length_le (by omega)] at hpre
        rw [hpre]
        exact Wk.refl _
      · have hl : i + 1 < b.length := by
          have : ¬ ((i + 1 : Nat) : Int) = ((bw b).length : Int) := by simpa using h
          omega
        have w2 : IntKind.i64.wrap (((i + 1 : Nat) : Int) + 1) = ((i + 2 : Nat) : Int) := by rw [wrap_i64 (by omega) (by omega)]; omega
        rw [elemAt_bw b (i + 1) hl, w2]
        have e1 : AVal.intOf (List.getD [AVal.int .u8 (b[i + 1].toNat : Int)] 0 .undef) = (b[i + 1].toNat : Int) := rfl
        rw [e1]
        have c1 := decide_eq_true (show (0 : Int) ≤ ((i + 1 : Nat) : Int) ∧ ((i + 1 : Nat) : Int) < ((bw b).length : Int) by omega)
        rw [List.drop_eq_getElem_cons hl, txtV, if_pos rfl] at hpre
        refine gb_by c1 (gb_by rfl (brV_by (fun h => ?_) (fun h => ?_)))
        · have hz : b[i + 1] = 0 := u8_zero h
          rw [if_pos hz] at hpre
          refine gb_by (dt (bw_isU8 a)) ?_
          rw [hpre, map_byteOf_bw]
          exact Wk.refl _
        · have hz : b[i + 1] ≠ 0 := u8_ne (m := 0) h (by decide)
          rw [if_neg hz] at hpre
          refine gb_by c1 (gb_by rfl (brV_by (fun h => ?_) (fun h => ?_)))
          · have hz : b[i + 1] ≠ 255 := u8_ne (m := 255) (by simpa using h) (by decide)
            rw [if_pos hz] at hpre
            rw [hpre]
            exact Wk.refl _
          · have hz : b[i + 1] = 255 := u8_eqn (m := 255) (by simpa using h) (by decide)
            rw [if_neg (by rw [hz]; decide)] at hpre
            rw [hal]
            refine brV_by (fun h => ?_) (fun h => ?_)
            · have h200 : (a.length : Int) = 200 := by simpa using h
              rw [if_pos (by omega)] at hpre
              rw [hpre]
              exact Wk.refl _
            · have h200 : ¬ (a.length : Int) = 200 := by simpa using h
              rw [if_neg (by omega)] at hpre
              refine gb_by (dt ⟨dt ⟨trivial, trivial, by omega, by omega⟩, trivial⟩) ?_
              have nxt := hL (a ++ [0], i + 2) ⟨by simp only; omega, by simp only; omega, by simp only [List.length_append, List.length_singleton]; omega, hpre⟩ (by simp only; omega)
              rw [setOwn_e1]
              have e3 : bw a ++ [AVal.int .u8 0] = bw (a ++ [0]) := by rw [bw_append]; rfl
              have e4 : a.length + 1 = (bw (a ++ [0])).length := by simp
              rw [e3, e4]
              exact nxt
    · have hz : b[i] ≠ 0 := u8_ne (m := 0) h (by decide)
      rw [txtV_ne hz] at hpre
      rw [hal]
      refine brV_by (fun h => ?_) (fun h => ?_)
      · have h200 : (a.length : Int) = 200 := by simpa using h
        rw [if_pos (by omega)] at hpre
        rw [hpre]
        exact Wk.refl _
      · have h200 : ¬ (a.length : Int) = 200 := by simpa using h
        rw [if_neg (by omega)] at hpre
        refine gb_by c0 (gb_by rfl (gb_by (dt ⟨dt ⟨trivial, trivial, by omega, by omega⟩, trivial⟩) ?_))
        have nxt := hL (a ++ [b[i]], i + 1) ⟨by simp only; omega, by simp only; omega, by simp only [List.length_append, List.length_singleton]; omega, hpre⟩ (by simp only; omega)
        rw [setOwn_e1]
        have e3 : bw a ++ [AVal.int .u8 (b[i].toNat : Int)] = bw (a ++ [b[i]]) := by rw [bw_append]; rfl
        have e4 : a.length + 1 = (bw (a ++ [b[i]])).length := by simp
        rw [e3, e4]
        exact nxt
  · have hge : b.length ≤ i := by have := of_decide_eq_false h; omega
    rw [List.drop_of_length_le hge] at hpre
    refine leaveTo (toCut (Eq.mpr (vtextF_r (bw a).length _) ?_))
    rw [hpre]
    exact Wk.refl _
theorem vtext_ok : EntOk Try.prog vtextE := by
  intro xs σ; simp only [vtextE]; split
  · rename_i es s t
    intro hc
    simp only [Bool.and_eq_true] at hc
    obtain ⟨h1, h2, h3⟩ := hc
    rw [hold_eq] at h3
    exact pcall_of (v := resT _) (.cons (wk_bw t h1 h2) (.refl _)) (vtext_c _ (by simpa using of_decide_eq_true h3)) (by simp only [noOutL, AVal.noOut, bw_noOut, Bool.and_true]) (by simp only [noTokL, AVal.noTok, bw_noTok, Bool.and_true, Tag.below]) rfl rfl
  · trivial
end Go.Proofs.Ytbghpjamahgegaa.V
end

section
namespace Go.AL
theorem takeV_num (r : Txt) (h : 8 ≤ r.length) : takeV (1 :: r) = (⟨1, (num8 (r.take 8) : Int) - 9223372036854775808, []⟩, 9, 0) := by
  unfold takeV
  simp only
  rw [if_neg (by decide), if_neg (by decide), if_neg (by omega)]
theorem takeV_short (r : Txt) (h : r.length < 8) : takeV (1 :: r) = (.zero, 0, 20) := by
  unfold takeV
  simp only
  rw [if_neg (by decide), if_neg (by decide), if_pos h]
theorem takeV_kind {c : UInt8} (r : Txt) (h1 : c ≠ 1) (h2 : c ≠ 2) : takeV (c :: r) = (.zero, 0, 22) := by
  unfold takeV
  simp only
  rw [if_neg h2, if_pos h1]
theorem num8_take (b : Txt) (i : Nat) (h : i < b.length) : num8 (b.take (i + 1)) = num8 (b.take i) * 256 + b[i].toNat := by
  rw [List.take_add_one, List.getElem?_eq_getElem h]
  exact num8_snoc _ _
end Go.AL
namespace Go.Proofs.Ytbghpjamahgegaa.V
open Go.AL
set_option linter.unusedSimpArgs false
set_option linter.unusedVariables false
set_option maxHeartbeats 2000000
set_option maxRecDepth 20000
theorem take_c (b : Txt) (hb : b.length ≤ 1000000) : ACall Try.prog 44 [.slice (bw b) 1 .ro] Sto.empty fun r _ => Wk r (resV (takeV b)) := by
  refine take_i b _ (.of [vtextE] rfl ⟨vtext_ok, trivial⟩) ?_
  simp only [hold_eq]
  cases b with
  | nil => exact brT rfl (Wk.refl _)
  | cons c r =>
    have hl : (bw (c :: r)).length = r.length + 1 := by simp
    rw [List.length_cons] at hb
    refine brF (by rw [hl]; have : ¬ ((r.length + 1 : Nat) : Int) = 0 := by omega
                   simpa using this) ?_
    have e0 : elemAt (bw (c :: r)) 0 = [.int .u8 (c.toNat : Int)] := elemAt_bw (c :: r) 0 (by simp)
    rw [e0]
    have e1 : AVal.intOf (List.getD [AVal.int .u8 (c.toNat : Int)] 0 .undef) = (c.toNat : Int) := rfl
    rw [e1]
    have c0 := decide_eq_true (show (0 : Int) ≤ 0 ∧ (0 : Int) < ((bw (c :: r)).length : Int) by omega)
    refine gb_by c0 (gb_by rfl (brV_by (fun h => ?_) (fun h => gb_by c0 (gb_by rfl (brV_by (fun h2 => ?_) (fun h2 => ?_))))))
    · have hc : c = 2 := u8_eqn (m := 2) h (by decide)
      subst hc
      intro y hy
      refine gb_by (and_tt (bw_byteIs _) (dt (by rw [hl]; omega))) ?_
      rw [map_byteOf_bw] at hy
      have : txtV r [] 1 = y := hy.symm
      rw [← take_txt, this]
      exact Wk.refl _
    · have hc2 : c ≠ 2 := u8_ne (m := 2) h (by decide)
      have hc1 : c ≠ 1 := u8_ne (m := 1) (by simpa using h2) (by decide)
      rw [takeV_kind r hc1 hc2]
      exact Wk.refl _
    · have hc1 : c = 1 := u8_eqn (m := 1) (by simpa using h2) (by decide)
      subst hc1
      rw [hl]
      refine brV_by (fun h => ?_) (fun h => ?_)
      · have h9 : r.length < 8 := by have := of_decide_eq_true h; omega
        rw [takeV_short r h9]
        exact Wk.refl _
      · have h9 : 8 ≤ r.length := by have := of_decide_eq_false h; omega
        rw [takeV_num r h9]
        refine gb_by (dt (by omega)) ?_
        have e2 : List.take 8 (List.drop 1 (bw (1 :: r))) = bw (r.take 8) := by rw [bw_take]; rfl
        rw [e2]
        have hq : (r.take 8).length = 8 := by rw [List.length_take]; omega
        generalize r.take 8 = q at *
        have hql : (bw q).length = 8 := by rw [bw_length, hq]
        refine loopV_intro (α := Nat) (fun i => takeL_S q (num8 (q.take i)) (bw q).length i) (fun i => i ≤ 8) (fun i => 8 - i) ?_ 0 (Nat.zero_le _)
        rintro i hi L hL
        refine Eq.mpr (takeL_r q (num8 (q.take i)) (bw q).length i L _) ?_
        simp only [hold_eq]
        have hu := num8_lt (q.take i)
        refine brV_by (fun h => ?_) (fun h => ?_)
        · have hlt : i < 8 := by have := of_decide_eq_true h; omega
          have hlq : i < q.length := by omega
          rw [elemAt_bw q i hlq, i64_succ hlt (by omega)]
          have e1 : AVal.intOf (List.getD [AVal.int .u8 (q[i].toNat : Int)] 0 .undef) = (q[i].toNat : Int) := rfl
          rw [e1]
          have hx := q[i].toNat_lt
          have hu7 : num8 (q.take i) < 72057594037927936 := by
            have h1 : (q.take i).length = i := by rw [List.length_take]; omega
            rw [h1] at hu
            have : 256 ^ i ≤ 256 ^ 7 := Nat.pow_le_pow_right (by decide) (by omega)
            omega
          have w1 : IntKind.u64.wrap ((num8 (q.take i) : Int) * 256) = ((num8 (q.take i) * 256 : Nat) : Int) := by rw [IntKind.wrap_u64]; omega
          have w2 : IntKind.u64.wrap (q[i].toNat : Int) = (q[i].toNat : Int) := by rw [IntKind.wrap_u64]; omega
          refine gb_by (dt (by omega)) (gb_by rfl ?_)
          rw [w1, w2, or8 _ _ hu7 hx, ← num8_take q i hlq]
          exact hL (i + 1) hlt (by omega)
        · have hge : i = 8 := by have := of_decide_eq_false h; omega
          subst hge
          have h8 : q.take 8 = q := List.take_of_length_le (by omega)
          rw [h8] at hu ⊢
          refine leaveTo (toCut (Eq.mpr (takeF_r (num8 q) _) ?_))
          rw [hq] at hu
          rw [num_sign _ (by omega)]
          exact Wk.refl _
theorem take_ok : EntOk Try.prog takeE := by
  intro xs σ; simp only [takeE]; split
  · rename_i es s t
    intro hc
    simp only [Bool.and_eq_true] at hc
    obtain ⟨h1, h2, h3⟩ := hc
    rw [hold_eq] at h3
    exact pcall_of (v := resV _) (.cons (wk_bw t h1 h2) (.refl _)) (take_c _ (by simpa using of_decide_eq_true h3)) (by simp only [noOutL, AVal.noOut, bw_noOut, Bool.and_true]) (by simp only [noTokL, AVal.noTok, bw_noTok, Bool.and_true, Tag.below]) rfl rfl
  · trivial
theorem takeR_c (b : Txt) (hb : b.length ≤ 1000000) : ACall Try.prog 45 [.slice (bw b) 1 .ro] Sto.empty fun r _ => Wk r (resV (takeV b)) := by
  refine takeR_i b _ (.of_none rfl) ?_
  simp only [hold_eq]
  cases b with
  | nil => exact brT rfl (Wk.refl _)
  | cons c r =>
    have hl : (bw (c :: r)).length = r.length + 1 := by simp
    rw [List.length_cons] at hb
    refine brF (by rw [hl]; have : ¬ ((r.length + 1 : Nat) : Int) = 0 := by omega
                   simpa using this) ?_
    have e0 : elemAt (bw (c :: r)) 0 = [.int .u8 (c.toNat : Int)] := elemAt_bw (c :: r) 0 (by simp)
    rw [e0]
    have e1 : AVal.intOf (List.getD [AVal.int .u8 (c.toNat : Int)] 0 .undef) = (c.toNat : Int) := rfl
    rw [e1]
    have c0 := decide_eq_true (show (0 : Int) ≤ 0 ∧ (0 : Int) < ((bw (c :: r)).length : Int) by omega)
    refine gb_by c0 (gb_by rfl (brV_by (fun h => ?_) (fun h => gb_by c0 (gb_by rfl (brV_by (fun h2 => ?_) (fun h2 => ?_))))))
    · have hc1 : c = 1 := u8_eqn (m := 1) h (by decide)
      subst hc1
      rw [hl]
      refine brV_by (fun h => ?_) (fun h => ?_)
      · have h9 : r.length < 8 := by have := of_decide_eq_true h; omega
        rw [takeV_short r h9]
        exact Wk.refl _
      · have h9 : 8 ≤ r.length := by have := of_decide_eq_false h; omega
        rw [takeV_num r h9]
        obtain ⟨q, hq0⟩ : ∃ q, r.take 8 = q := ⟨_, rfl⟩
        have hq : q.length = 8 := by rw [← hq0, List.length_take]; omega
        have hget : ∀ (i : Nat) (h1 : i < q.length) (h2 : i < r.length), r[i] = q[i] := fun i h1 h2 => by subst hq0; rw [List.getElem_take]
        rw [hq0]
        refine loopV_intro (α := Nat) (fun i => takeRN_S (1 :: r) (num8 (q.take i)) (i + 1)) (fun i => i ≤ 8) (fun i => 8 - i) ?_ 0 (Nat.zero_le _)
        rintro i hi L hL
        refine Eq.mpr (takeRN_r (1 :: r) (num8 (q.take i)) (i + 1) L _) ?_
        simp only [hold_eq]
        have hu := num8_lt (q.take i)
        refine brV_by (fun h => ?_) (fun h => ?_)
        · have hlt : i < 8 := by have := of_decide_eq_true h; omega
          have hlq : i < q.length := by omega
          rw [elemAt_bw (1 :: r) (i + 1) (by rw [List.length_cons]; omega), List.getElem_cons_succ, hget i hlq (by omega)]
          have e1 : AVal.intOf (List.getD [AVal.int .u8 (q[i].toNat : Int)] 0 .undef) = (q[i].toNat : Int) := rfl
          rw [e1]
          have hx := q[i].toNat_lt
          have hu7 : num8 (q.take i) < 72057594037927936 := by
            have h1 : (q.take i).length = i := by rw [List.length_take]; omega
            rw [h1] at hu
            have : 256 ^ i ≤ 256 ^ 7 := Nat.pow_le_pow_right (by decide) (by omega)
            omega
          have w1 : IntKind.u64.wrap (IntKind.u64.wrap ((num8 (q.take i) : Int) * 256) + IntKind.u64.wrap (q[i].toNat : Int)) = ((num8 (q.take i) * 256 + q[i].toNat : Nat) : Int) := by rw [IntKind.wrap_u64, IntKind.wrap_u64, IntKind.wrap_u64]; omega
          have w3 : IntKind.i64.wrap (((i + 1 : Nat) : Int) + 1) = ((i + 1 + 1 : Nat) : Int) := by rw [wrap_i64 (by omega) (by omega)]; omega
          refine gb_by (dt (by rw [hl]; omega)) (gb_by rfl ?_)
          rw [w1, w3, ← num8_take q i hlq]
          exact hL (i + 1) hlt (by omega)
        · have hge : i = 8 := by have := of_decide_eq_false h; omega
          subst hge
          have h8 : q.take 8 = q := List.take_of_length_le (by omega)
          rw [h8] at hu ⊢
          refine leaveTo (toCut (Eq.mpr (takeRNF_r (1 :: r) (num8 q) _) ?_))
          rw [hq] at hu
          have w1 : IntKind.i64.wrap (IntKind.u64.wrap ((num8 q : Int) - 9223372036854775808)) = (num8 q : Int) - 9223372036854775808 := by rw [IntKind.wrap_u64, IntKind.wrap_i64]; omega
          rw [w1]
          exact Wk.refl _
    · have hc1 : c ≠ 1 := u8_ne (m := 1) h (by decide)
      have hc2 : c ≠ 2 := u8_ne (m := 2) (by simpa using h2) (by decide)
      rw [takeV_kind r hc1 hc2]
      exact Wk.refl _
    · have hc : c = 2 := u8_eqn (m := 2) (by simpa using h2) (by decide)
      subst hc
      rw [← take_txt]
      generalize hX : txtV r [] 1 = X
      have hX : txtV (((2 : UInt8) :: r).drop 1) [] 1 = X := hX
      have hb : ((2 : UInt8) :: r).length ≤ 1000001 := by rw [List.length_cons]; omega
      clear hl c0 e0 e1 h2 h
      generalize (2 : UInt8) :: r = b at *
      have hbl : (bw b).length = b.length := bw_length b
      refine loopV_intro (α := Txt × Nat) (fun x => takeRT_S b x.1 x.2) (fun x => 1 ≤ x.2 ∧ x.1.length ≤ 200 ∧ X = txtV (b.drop x.2) x.1 x.2) (fun x => b.length - x.2) ?_ ([], 1) ⟨Nat.le_refl _, Nat.zero_le _, hX.symm⟩
      rintro ⟨a, i⟩ ⟨h1, ha, hpre⟩ L hL
      simp only at h1 ha hpre
      refine Eq.mpr (takeRT_r b a i L _) ?_
      simp only [hold_eq]
      refine brV_by (fun h => ?_) (fun h => ?_)
      · have hlt : i < b.length := by have := of_decide_eq_true h; omega
        rw [elemAt_bw b i hlt]
        have e0 : AVal.intOf (List.getD [AVal.int .u8 (b[i].toNat : Int)] 0 .undef) = (b[i].toNat : Int) := rfl
        rw [e0]
        have e9 : List.map AL.byteOf [AVal.int .u8 (b[i].toNat : Int)] = [b[i]] := map_byteOf_bw [b[i]]
        rw [e9]
        have w1 : IntKind.i64.wrap ((i : Int) + 1) = ((i + 1 : Nat) : Int) := by rw [wrap_i64 (by omega) (by omega)]; omega
        rw [w1]
        have c0 := decide_eq_true (show (0 : Int) ≤ (i : Int) ∧ (i : Int) < ((bw b).length : Int) by omega)
        rw [List.drop_eq_getElem_cons hlt] at hpre
        refine gb_by c0 (gb_by rfl (gb_by c0 (gb_by rfl (brV_by (fun h => ?_) (fun h => ?_)))))
        · have hz : b[i] = 0 := u8_zero h
          rw [hz] at hpre
          refine brV_by (fun h => ?_) (fun h => ?_)
          · have hl : b.length ≤ i + 1 := by have := of_decide_eq_true h; omega
            rw [List.drop_of_length_le (by omega)] at hpre
            rw [hpre]
            exact Wk.refl _
          · have hl : i + 1 < b.length := by have := of_decide_eq_false h; omega
            rw [elemAt_bw b (i + 1) hl]
            have e1 : AVal.intOf (List.getD [AVal.int .u8 (b[i + 1].toNat : Int)] 0 .undef) = (b[i + 1].toNat : Int) := rfl
            rw [e1]
            have w2 : IntKind.i64.wrap ((i : Int) + 2) = ((i + 2 : Nat) : Int) := by rw [wrap_i64 (by omega) (by omega)]; omega
            rw [w2]
            have c1 := decide_eq_true (show (0 : Int) ≤ ((i + 1 : Nat) : Int) ∧ ((i + 1 : Nat) : Int) < ((bw b).length : Int) by omega)
            rw [List.drop_eq_getElem_cons hl, txtV, if_pos rfl] at hpre
            refine gb_by c1 (gb_by rfl (brV_by (fun h => ?_) (fun h => ?_)))
            · have hz : b[i + 1] = 0 := u8_zero h
              rw [if_pos hz] at hpre
              rw [hpre]
              exact Wk.refl _
            · have hz : b[i + 1] ≠ 0 := u8_ne (m := 0) h (by decide)
              rw [if_neg hz] at hpre
              refine gb_by c1 (gb_by rfl (brV_by (fun h => ?_) (fun h => ?_)))
              · have hz : b[i + 1] ≠ 255 := u8_ne (m := 255) (by simpa using h) (by decide)
                rw [if_pos hz] at hpre
                rw [hpre]
                exact Wk.refl _
              · have hz : b[i + 1] = 255 := u8_eqn (m := 255) (by simpa using h) (by decide)
                rw [if_neg (by rw [hz]; decide)] at hpre
                refine toCut (Eq.mpr (takeRS_r b a _ i 2 _) ?_)
                simp only [hold_eq]
                refine brV_by (fun h => ?_) (fun h => ?_)
                · have h200 := of_decide_eq_true h
                  rw [if_pos (by omega)] at hpre
                  rw [hpre]
                  exact Wk.refl _
                · have h200 := of_decide_eq_false h
                  rw [if_neg (by omega)] at hpre
                  refine gb_by (dt (by simp; omega)) ?_
                  have nxt := hL (a ++ [0], i + 2) ⟨by simp only; omega, by simp only [List.length_append, List.length_singleton]; omega, hpre⟩ (by simp only; omega)
                  have w3 : IntKind.i64.wrap ((i : Int) + ((2 : Nat) : Int)) = ((i + 2 : Nat) : Int) := by rw [wrap_i64 (by omega) (by omega)]; omega
                  rw [w3, show b[i] = 0 from ‹b[i] = 0›]
                  exact nxt
        · have hz : b[i] ≠ 0 := u8_ne (m := 0) h (by decide)
          rw [txtV_ne hz] at hpre
          refine toCut (Eq.mpr (takeRS_r b a _ i 1 _) ?_)
          simp only [hold_eq]
          refine brV_by (fun h => ?_) (fun h => ?_)
          · have h200 := of_decide_eq_true h
            rw [if_pos (by omega)] at hpre
            rw [hpre]
            exact Wk.refl _
          · have h200 := of_decide_eq_false h
            rw [if_neg (by omega)] at hpre
            refine gb_by (dt (by simp; omega)) ?_
            have nxt := hL (a ++ [b[i]], i + 1) ⟨by simp only; omega, by simp only [List.length_append, List.length_singleton]; omega, hpre⟩ (by simp only; omega)
            have w3 : IntKind.i64.wrap ((i : Int) + ((1 : Nat) : Int)) = ((i + 1 : Nat) : Int) := by rw [wrap_i64 (by omega) (by omega)]; omega
            rw [w3]
            exact nxt
      · have hge : b.length ≤ i := by have := of_decide_eq_false h; omega
        rw [List.drop_of_length_le hge] at hpre
        refine leaveTo (toCut (Eq.mpr (takeRTF_r _) ?_))
        rw [hpre]
        exact Wk.refl _
theorem takeR_ok : EntOk Try.prog takeRE := by
  intro xs σ; simp only [takeRE]; split
  · rename_i es s t
    intro hc
    simp only [Bool.and_eq_true] at hc
    obtain ⟨h1, h2, h3⟩ := hc
    rw [hold_eq] at h3
    exact pcall_of (v := resV _) (.cons (wk_bw t h1 h2) (.refl _)) (takeR_c _ (by simpa using of_decide_eq_true h3)) (by simp only [noOutL, AVal.noOut, bw_noOut, Bool.and_true]) (by simp only [noTokL, AVal.noTok, bw_noTok, Bool.and_true, Tag.below]) rfl rfl
  · trivial
end Go.Proofs.Ytbghpjamahgegaa.V
end

section
namespace Go.Proofs.Ytbghpjamahgegaa.V
open Go.AL
set_option linter.unusedSimpArgs false
set_option linter.unusedVariables false
set_option maxHeartbeats 2000000
set_option maxRecDepth 20000
theorem bytesR_c (k n : Int) (s : Txt) (h0 : -9223372036854775808 ≤ n) (h1 : n ≤ 9223372036854775807) (hs : s.length ≤ 1000000) : ACall Try.prog 46 [.agg [.int .i64 k, .int .i64 n, .str s]] Sto.empty
    fun r _ => Wk r (.slice (bw (bytesV ⟨k, n, s⟩)) 1 .ro) := by
  refine bytesR_i k n s _ (.of_none rfl) ?_
  simp only [hold_eq]
  refine brV_by (fun h => ?_) (fun h => ?_)
  · have hk : k = 1 := by simpa using h
    have hbv : bytesV ⟨k, n, s⟩ = 1 :: be8 (n + 9223372036854775808).toNat := if_pos hk
    rw [hbv]
    have w0 : IntKind.u64.wrap (IntKind.u64.wrap n + 9223372036854775808) = ((n + 9223372036854775808).toNat : Int) := by rw [IntKind.wrap_u64, IntKind.wrap_u64]; omega
    rw [w0]
    have hU := numOf_bound h0 h1
    generalize (n + 9223372036854775808).toNat = U at *
    refine loopV_intro (α := Nat × Nat) (fun x => bytesRN_S k n s ((be8 U).drop (8 - x.2)) x.1 x.2) (fun x => x.2 ≤ 8 ∧ x.1 = U / 256 ^ x.2) (fun x => 8 - x.2) ?_ (U, 0) ⟨Nat.zero_le _, by rw [Nat.pow_zero, Nat.div_one]⟩
    rintro ⟨u, i⟩ ⟨hi, hu⟩ L hL
    simp only at hi hu
    subst hu
    refine Eq.mpr (bytesRN_r k n s ((be8 U).drop (8 - i)) (U / 256 ^ i) i L _) ?_
    simp only [hold_eq]
    have hl : (bw ((be8 U).drop (8 - i))).length = i := by rw [bw_length, List.length_drop, be8_len]; omega
    refine brV_by (fun h => ?_) (fun h => ?_)
    · have hlt : i < 8 := by have := of_decide_eq_true h; omega
      have nxt := hL (U / 256 ^ (i + 1), i + 1) ⟨hlt, rfl⟩ (by simp only; omega)
      refine gb_by (dt ⟨dt ⟨trivial, by omega, by omega⟩, trivial⟩) ?_
      have e1 : IntKind.u8.wrap (Int.tmod ((U / 256 ^ i : Nat) : Int) 256) = ((byteAt U i).toNat : Int) := by
        rw [byteAt_nat, IntKind.wrap_u8, Int.tmod_eq_emod_of_nonneg (Int.natCast_nonneg _)]
        omega
      have e2 : IntKind.u64.wrap (Int.tdiv ((U / 256 ^ i : Nat) : Int) 256) = ((U / 256 ^ (i + 1) : Nat) : Int) := by
        have key : ∀ q : Nat, q ≤ U → IntKind.u64.wrap (Int.tdiv (q : Int) 256) = ((q / 256 : Nat) : Int) := fun q hq => by
          rw [IntKind.wrap_u64, Int.tdiv_eq_ediv_of_nonneg (Int.natCast_nonneg _)]
          omega
        rw [Nat.pow_succ, ← Nat.div_div_eq_div_mul]
        exact key _ (Nat.div_le_self _ _)
      have e3 : [AVal.int .u8 ((byteAt U i).toNat : Int)] ++ bw ((be8 U).drop (8 - i)) = bw ((be8 U).drop (8 - (i + 1))) := by
        rw [show 8 - (i + 1) = 7 - i by omega, be8_drop U i hlt]; rfl
      rw [e1, e2, e3, i64_succ hlt (by omega)]
      exact nxt
    · have hge : i = 8 := by have := of_decide_eq_false h; omega
      subst hge
      refine leaveTo (toCut (Eq.mpr (bytesRNF_r k n s _ _) ?_))
      have : (be8 U).drop (8 - 8) = be8 U := rfl
      rw [this] at hl ⊢
      refine gb_by (dt ⟨dt ⟨rfl, by omega, by omega⟩, rfl⟩) ?_
      exact Wk.refl _
  · have hk : ¬ k = 1 := by simpa using h
    have hbv : bytesV ⟨k, n, s⟩ = 2 :: (escT s ++ [0, 0]) := if_neg hk
    rw [hbv]
    refine loopV_intro (α := Nat) (fun i => bytesRT_S k n s (2 :: escT (s.take i)) i) (fun i => i ≤ s.length) (fun i => s.length - i) ?_ 0 (Nat.zero_le _)
    rintro i hi L hL
    refine Eq.mpr (bytesRT_r k n s (2 :: escT (s.take i)) i L _) ?_
    simp only [hold_eq]
    have hel := escT_len (s.take i)
    have htl : (s.take i).length ≤ s.length := by rw [List.length_take]; omega
    have hl : (bw (2 :: escT (s.take i))).length = (escT (s.take i)).length + 1 := by rw [bw_length, List.length_cons]
    refine brV_by (fun h => ?_) (fun h => ?_)
    · have hlt : i < s.length := by have := of_decide_eq_true h; omega
      have t0 : Int.toNat (i : Int) = i := rfl
      rw [t0, getD_at _ _ hlt, i64_succ hlt (by omega)]
      have c1 := decide_eq_true (show (0 : Int) ≤ (i : Int) ∧ (i : Int) < (s.length : Int) by omega)
      have nxt := hL (i + 1) hlt (by omega)
      refine gb_by c1 (brV_by (fun h => ?_) (fun h => ?_))
      · have hz : s[i] = 0 := u8_zero h
        have e3 : bw (2 :: escT (s.take i)) ++ [AVal.int .u8 0, AVal.int .u8 255] = bw (2 :: escT (s.take (i + 1))) := by
          rw [escT_take s i hlt, hz]
          show _ = bw ((2 :: escT (s.take i)) ++ [0, 255])
          rw [bw_append]; rfl
        have e4 : (bw (2 :: escT (s.take i))).length + 2 = (bw (2 :: escT (s.take (i + 1)))).length := by rw [← e3]; simp
        refine gb_by (dt ⟨dt ⟨trivial, trivial, by omega, by omega⟩, trivial⟩) ?_
        rw [setOwn_e1, e3, e4]
        exact nxt
      · have hz : ¬ s[i] = 0 := fun hz => by rw [hz] at h; cases h
        have e3 : bw (2 :: escT (s.take i)) ++ [AVal.int .u8 (s[i].toNat : Int)] = bw (2 :: escT (s.take (i + 1))) := by
          rw [escT_take s i hlt, escB, if_neg hz]
          show _ = bw ((2 :: escT (s.take i)) ++ [s[i]])
          rw [bw_append, bw_one]
        have e5 : (bw (2 :: escT (s.take i))).length + 1 = (bw (2 :: escT (s.take (i + 1)))).length := by rw [← e3]; simp
        refine gb_by c1 (gb_by (dt ⟨dt ⟨trivial, trivial, by omega, by omega⟩, trivial⟩) ?_)
        rw [setOwn_e1, e3, e5]
        exact nxt
    · have hge : i = s.length := by have := of_decide_eq_false h; omega
      subst hge
      rw [List.take_length] at hl hel ⊢
      refine leaveTo (toCut (Eq.mpr (bytesRTF_r _ _) ?_))
      refine gb_by (dt ⟨dt ⟨rfl, rfl, by omega, by omega⟩, rfl⟩) ?_
      have e3 : bw (2 :: escT s) ++ [AVal.int .u8 0, .int .u8 0] = bw (2 :: (escT s ++ [0, 0])) := by
        show _ = bw ((2 :: escT s) ++ [0, 0])
        rw [bw_append]; rfl
      rw [e3]
      exact Wk.ro _ _ _
theorem bytesR_ok : EntOk Try.prog bytesRE := by
  intro xs σ; simp only [bytesRE]; split
  · rename_i k n s
    intro hc
    rw [Bool.and_eq_true] at hc
    have hn := i64r_of hc.1
    exact pcall_of (v := .slice _ 1 .ro) (.refl _) (bytesR_c k n s hn.1 hn.2 (lenT_of hc.2)) rfl rfl (by simp only [AVal.noOut, bw_noOut]) (by simp only [AVal.noTok, bw_noTok, Tag.below, Bool.and_true])
  · trivial
end Go.Proofs.Ytbghpjamahgegaa.V
end

section
namespace Go.AL
set_option linter.unusedSimpArgs false
set_option linter.unusedVariables false
/-- A property. -/
structure Pr where
  key : Txt
  v : Vl
  deriving DecidableEq
def Pr.a (p : Pr) : AVal := .agg [.str p.key, .int .i64 p.v.k, .int .i64 p.v.n, .str p.v.s]
def prv (l : List Pr) : List AVal := l.map Pr.a
def prOf : AVal → Pr
  | .agg [.str key, .int _ k, .int _ n, .str s] => ⟨key, ⟨k, n, s⟩⟩
  | _ => ⟨[], .zero⟩
def isPr : AVal → Bool
  | .agg [.str _, .int .i64 _, .int .i64 _, .str _] => true
  | _ => false
def Pr.fit (p : Pr) : Prop := p.key.length ≤ 1000000 ∧ p.v.s.length ≤ 1000000 ∧ p.v.fit
noncomputable def fitPs (l : List Pr) : Bool := @decide (l.length ≤ 1000000 ∧ ∀ p ∈ l, p.fit) (Classical.propDecidable _)
def cmpK (a b : Txt) : Int := cmpR (runeL a) (runeL b)
def okP (p : Pr) : Bool := nameT p.key && okV p.v
def incP : List Pr → Bool
  | [] => true
  | [p] => okP p
  | p :: q :: r => okP p && (decide (cmpK p.key q.key < 0) && incP (q :: r))
def rightP (l : List Pr) : Bool := incP l && decide (l.length ≤ 16)
/-- One more, into a list in order. -/
def putP : List Pr → Pr → List Pr
  | [], p => [p]
  | q :: l, p => if cmpK q.key p.key < 0 then q :: putP l p else if cmpK q.key p.key = 0 then p :: l else p :: q :: l
def laysP : List Pr → List Pr → List Pr × Int
  | out, [] => (out, 0)
  | out, p :: l => if nameT p.key = false then ([], 30) else if okV p.v = false then ([], 22) else laysP (putP out p) l
def setP (l news : List Pr) : List Pr × Int :=
  if rightP l = false then ([], 2) else if (laysP l news).2 ≠ 0 then ([], (laysP l news).2) else if 16 < (laysP l news).1.length then ([], 32) else ((laysP l news).1, 0)
def getP (l : List Pr) (key : Txt) : Option Pr := l.find? fun p => p.key == key
def dropP (l : List Pr) (keys : List Txt) : List Pr := l.filter fun p => !keys.contains p.key
def oneP (p : Pr) : Txt := UInt8.ofNat p.key.length :: (p.key ++ bytesV p.v)
def bytesP (l : List Pr) : Txt := UInt8.ofNat l.length :: l.flatMap oneP
/-- Properties out of bytes: how many are left, the name ahead, what has been read (in order), how many bytes. -/
def takesP (b : Txt) : Nat → List Pr → Nat → List Pr × Nat × Int
  | 0, acc, at_ => (acc, at_, 0)
  | n + 1, acc, at_ =>
    if b.length ≤ at_ then ([], 0, 20) else
    if b.length < at_ + 1 + (b.getD at_ 0).toNat then ([], 0, 20) else
    if nameT ((b.drop (at_ + 1)).take (b.getD at_ 0).toNat) = false ∨ (∃ q, acc.getLast? = some q ∧ 0 ≤ cmpK q.key ((b.drop (at_ + 1)).take (b.getD at_ 0).toNat)) then ([], 0, 30) else
    if (takeV (b.drop (at_ + 1 + (b.getD at_ 0).toNat))).2.2 ≠ 0 then ([], 0, (takeV (b.drop (at_ + 1 + (b.getD at_ 0).toNat))).2.2) else
    takesP b n (acc ++ [⟨(b.drop (at_ + 1)).take (b.getD at_ 0).toNat, (takeV (b.drop (at_ + 1 + (b.getD at_ 0).toNat))).1⟩]) (at_ + 1 + (b.getD at_ 0).toNat + (takeV (b.drop (at_ + 1 + (b.getD at_ 0).toNat))).2.1)
def takeP (b : Txt) : List Pr × Nat × Int :=
  match b with
  | [] => ([], 0, 20)
  | c :: r => if 16 < c.toNat then ([], 0, 10) else takesP (c :: r) c.toNat [] 1
@[simp] theorem prv_length (l : List Pr) : (prv l).length = l.length := by simp [prv]
theorem elemAt_prv (l : List Pr) (i : Nat) (h : i < l.length) : elemAt (prv l) (i : Int) = [.str l[i].key, .int .i64 l[i].v.k, .int .i64 l[i].v.n, .str l[i].v.s] := elemAt_map Pr.a l i h
@[simp] theorem prv_is (l : List Pr) : (prv l).all isPr = true := by simp [prv, isPr, Pr.a]
@[simp] theorem map_prOf_prv (l : List Pr) : (prv l).map prOf = l := by
  simp only [prv, List.map_map]
  conv => rhs; rw [← List.map_id l]
  exact List.map_congr_left fun b _ => rfl
theorem pr_of1 {e : AVal} (h : isPr e = true) : (prOf e).a = e := by
  unfold isPr at h
  split at h
  · rfl
  · cases h
theorem pr_of {es : List AVal} (h : es.all isPr = true) : es = prv (es.map prOf) := by
  unfold prv
  rw [List.map_map]
  conv => lhs; rw [← List.map_id es]
  exact List.map_congr_left fun e he => (pr_of1 (List.all_eq_true.1 h e he)).symm
theorem wk_prv {s : Nat} {es : List AVal} (t : Tag) (hn : okW 4 s es = true) (h : es.all isPr = true) : Wk (.slice es s t) (.slice (prv (es.map prOf)) 4 .ro) := by
  rw [← pr_of h]
  exact wkW t hn
theorem prv_noOut (n : Nat) (l : List Pr) : noOutL n (prv l) = true := noOutL_map n (fun _ => rfl) l
theorem prv_noTok (n : Nat) (l : List Pr) : noTokL n (prv l) = true := noTokL_map n (fun _ => rfl) l
theorem prv_noLoc (l : List Pr) : noLocL (prv l) = true := noLocL_map (fun _ => rfl) l
theorem fitPs_of {l : List Pr} (h : fitPs l = true) : l.length ≤ 1000000 ∧ ∀ p ∈ l, p.fit := @of_decide_eq_true _ (_) h
theorem fitPs_mk {l : List Pr} (h : l.length ≤ 1000000 ∧ ∀ p ∈ l, p.fit) : fitPs l = true := @decide_eq_true _ (_) h
end Go.AL
end

section
set_option linter.unusedVariables false
namespace Go.Proofs.Ytbghpjamahgegaa
open Go.AL
noncomputable section
def byE : Ent := (36, fun xs _ => match xs with
  | [.agg [.str key, .int .i64 k, .int .i64 n, .str s], .str b] => some (.nm (cmpK key b) fun y => .pure (Lt.lenT key && Lt.lenT b) (.int .i64 y))
  | _ => none)
def prsOk (es : List AVal) (s : Nat) : Bool := okW 4 s es && (es.all isPr && hold (fitPs (es.map prOf)))
def rightE : Ent := (20, fun xs _ => match xs with
  | [.slice es s t] => some (.nm (rightP (es.map prOf)) fun b => .pure (prsOk es s) (.bool (hold b)))
  | _ => none)
def isGet1 (g : FuncId) : Bool := Nat.beq g 42
def get1E : Ent := (42, fun xs _ => match xs with
  | [.agg [.str key, .int .i64 k, .int .i64 n, .str s], .iptr [.str b]] => some (.pure true (.bool (hold (key == b))))
  | _ => none)
def indexFE : Ent := (41, fun xs _ => match xs with
  | [.slice es s t, .func (.func g) [] [.iptr [.str key]]] => some (.nm ((es.map prOf).any fun p => p.key == key) fun y => .nm (if y then ((es.map prOf).findIdx (fun p => p.key == key) : Int) else -1) fun i => .pure (isGet1 g && prsOk es s) (.int .i64 i))
  | _ => none)
def getE : Ent := (18, fun xs _ => match xs with
  | [.slice es s t, .str key] => some (.nm (getP (es.map prOf) key) fun y => .nm (y.elim Vl.zero Pr.v) fun v => .pure (prsOk es s) (.tuple [.agg [.int .i64 v.k, .int .i64 v.n, .str v.s], .bool (hold y.isSome)]))
  | _ => none)
def equalE : Ent := (31, fun xs _ => match xs with
  | [.slice es s t, .slice fs s' t'] => some (.nm (decide (es.map prOf = fs.map prOf)) fun b => .pure (prsOk es s && prsOk fs s') (.bool (hold b)))
  | _ => none)
def sameE : Ent := (13, fun xs _ => match xs with
  | [.slice es s t, .slice fs s' t'] => some (.nm (decide (es.map prOf = fs.map prOf)) fun b => .pure (prsOk es s && prsOk fs s') (.bool (hold b)))
  | _ => none)
def bytesE : Ent := (11, fun xs _ => match xs with
  | [.slice es s t] => some (.nm (rightP (es.map prOf)) fun o => .nm (if o then bytesP (es.map prOf) else []) fun y => .pure (prsOk es s) (.tuple [.slice (bw y) 1 .ro, .int .i64 (if o then 0 else 2)]))
  | _ => none)
/-- The references. -/
def rightRE : Ent := (10, fun xs _ => match xs with
  | [.slice es s t] => some (.nm (rightP (es.map prOf)) fun b => .pure (prsOk es s) (.bool (hold b)))
  | _ => none)
def findRE : Ent := (16, fun xs _ => match xs with
  | [.slice es s t, .str key] => some (.nm ((es.map prOf).any fun p => p.key == key) fun y => .nm (if y then ((es.map prOf).findIdx (fun p => p.key == key) : Int) else -1) fun i => .pure (prsOk es s) (.int .i64 i))
  | _ => none)
def sameRE : Ent := (12, fun xs _ => match xs with
  | [.slice es s t, .slice fs s' t'] => some (.nm (decide (es.map prOf = fs.map prOf)) fun b => .pure (prsOk es s && prsOk fs s') (.bool (hold b)))
  | _ => none)
def putRE : Ent := (43, fun xs _ => match xs with
  | [.slice es s t, .agg [.str key, .int .i64 k, .int .i64 n, .str z]] => some (.nm (putP (es.map prOf) ⟨key, ⟨k, n, z⟩⟩) fun y => .pure (prsOk es s && (hold (incP (es.map prOf)) && Lt.lenT key)) (.slice (prv y) 4 .ro))
  | _ => none)
def dropRE : Ent := (21, fun xs _ => match xs with
  | [.slice es s t, .slice ks s' t'] => some (.nm (dropP (es.map prOf) (ks.map AVal.strOf)) fun y => .pure (prsOk es s && (okW 1 s' ks && (ks.all strIs && hold (decide (ks.length ≤ 1000000))))) (.slice (prv y) 4 .ro))
  | _ => none)
def bytesRE : Ent := (24, fun xs _ => match xs with
  | [.slice es s t] => some (.nm (bytesP (es.map prOf)) fun y => .pure (prsOk es s && hold (rightP (es.map prOf))) (.slice (bw y) 1 .ro))
  | _ => none)
end
end Go.Proofs.Ytbghpjamahgegaa
end
