/-
  The texts Vm, Vb, Ve, Vr, Vc, Vd, Vf, Vh, Vi of this seat, one behind the other.
-/
import Derived.Test.YtcijjgfadkflmaaDoorZ6
import Derived.KernelRfl
import Derived.Laws.BitsAllLaws

section
namespace Go.AL
set_option linter.unusedSimpArgs false
set_option linter.unusedVariables false

structure Vl where
  k : Int
  n : Int
  s : Txt
  deriving DecidableEq
def Vl.a (v : Vl) : AVal := .agg [.int .i64 v.k, .int .i64 v.n, .str v.s]
def Vl.zero : Vl := ⟨0, 0, []⟩
def Vl.ok (v : Vl) : Prop := v.k = 1 ∧ v.s = [] ∨ v.k = 2 ∧ v.n = 0 ∧ v.s.length ≤ 200
instance (v : Vl) : Decidable v.ok := inferInstanceAs (Decidable (_ ∨ _))
def Vl.fit (v : Vl) : Prop := -9223372036854775808 ≤ v.n ∧ v.n ≤ 9223372036854775807

/-! ### Bytes -/
def byteAt (u j : Nat) : UInt8 := UInt8.ofNat (u / 256 ^ j)
def be8 (u : Nat) : Txt := [byteAt u 7, byteAt u 6, byteAt u 5, byteAt u 4, byteAt u 3, byteAt u 2, byteAt u 1, byteAt u 0]
def num8 (b : Txt) : Nat := b.foldl (fun n x => n * 256 + x.toNat) 0
def escB (c : UInt8) : Txt := if c = 0 then [0, 255] else [c]
def escT (s : Txt) : Txt := s.flatMap escB
def numOf (v : Vl) : Nat := (v.n + 9223372036854775808).toNat
def bytesV (v : Vl) : Txt := if v.k = 1 then 1 :: be8 (numOf v) else 2 :: (escT v.s ++ [0, 0])
def txtV : Txt → Txt → Nat → Txt × Nat × Int
  | [], _, _ => ([], 0, 20)
  | [c], a, i => if c = 0 then ([], 0, 20) else if a.length = 200 then ([], 0, 32) else ([], 0, 20)
  | c :: d :: r, a, i =>
    if c = 0 then
      if d = 0 then (a, i + 2, 0) else if d ≠ 255 then ([], 0, 10) else if a.length = 200 then ([], 0, 32) else txtV r (a ++ [0]) (i + 2)
    else if a.length = 200 then ([], 0, 32) else txtV (d :: r) (a ++ [c]) (i + 1)
def takeV (b : Txt) : Vl × Nat × Int :=
  match b with
  | [] => (.zero, 0, 20)
  | c :: r =>
    if c = 2 then (if (txtV r [] 1).2.2 = 0 then ⟨2, 0, (txtV r [] 1).1⟩ else .zero, (txtV r [] 1).2.1, (txtV r [] 1).2.2)
    else if c ≠ 1 then (.zero, 0, 22) else if r.length < 8 then (.zero, 0, 20)
    else (⟨1, (num8 (r.take 8) : Int) - 9223372036854775808, []⟩, 9, 0)

/-! ### The order -/
def sgI (a b : Int) : Int := if a < b then -1 else if b < a then 1 else 0
def cmpB : Txt → Txt → Int
  | [], [] => 0
  | [], _ :: _ => -1
  | _ :: _, [] => 1
  | x :: a, y :: b => if x.toNat < y.toNat then -1 else if y.toNat < x.toNat then 1 else cmpB a b
def cmpV (v w : Vl) : Int := if sgI v.k w.k ≠ 0 then sgI v.k w.k else if sgI v.n w.n ≠ 0 then sgI v.n w.n else cmpB v.s w.s
def beN (u : Nat) : Nat → Txt
  | 0 => []
  | k + 1 => byteAt u k :: beN u k
end Go.AL
end

section
namespace Go.AL
end Go.AL
end

section
set_option linter.unusedVariables false
namespace Go.AL
def vlOf : AVal → Vl
  | .agg [.int _ k, .int _ n, .str s] => ⟨k, n, s⟩
  | _ => .zero
def isVl : AVal → Bool
  | .agg [.int .i64 _, .int .i64 _, .str _] => true
  | _ => false
def vlv (l : List Vl) : List AVal := l.map Vl.a
def okV (v : Vl) : Bool := decide v.ok
def firstNZ : List Int → Int
  | [] => 0
  | x :: l => if x = 0 then firstNZ l else x
end Go.AL
namespace Go.Proofs.YtcijjgfadkflmaaDoor.V
open Go.AL
noncomputable section
def lenT (s : Txt) : Bool := hold (decide (s.length ≤ 1000000))
def lenOk (n : Nat) : Bool := hold (decide (n ≤ 140737488351232))
def i64r (n : Int) : Bool := hold (@decide (-9223372036854775808 ≤ n ∧ n ≤ 9223372036854775807) (Classical.propDecidable _))
def thingE : Ent := (58, fun xs _ => match xs with
  | [.agg [.int .i64 k, .int .i64 n, .str s]] => some (.br (hold (decide (k = 1 ∧ s.length = 0))) (.pure true (.iface 3 (.int .i64 n))) (.br (hold (decide (k = 2 ∧ n = 0 ∧ s.length ≤ 200))) (.pure true (.iface 9 (.str s))) (.pure true .nilIface)))
  | _ => none)
def vlsOk (es : List AVal) (s : Nat) : Bool := okW 3 s es && (es.all isVl && lenOk es.length)
end
end Go.Proofs.YtcijjgfadkflmaaDoor.V
end

section
set_option maxRecDepth 100000
set_option maxHeartbeats 0
set_option linter.unusedVariables false
namespace Go.Proofs.YtcijjgfadkflmaaDoor.V
open Go.AL Go.Proofs
noncomputable def cThing : Cfg := { keep := [0, 1, 2, 3, 15], cut := [] }
noncomputable def code_58_ : Code := (Tryd.f58.body).getD .skip
theorem thing_i (k n : Int) (s : Txt) (Q : AVal → Sto → Prop) (ho : OrcOk Tryd.prog cThing) (h : brV (hold (k == (1 : Int))) true (brV (hold (s == [])) true (Q (AVal.iface 3 (AVal.int IntKind.i64 n)) Sto.empty) (brV (hold (k == (2 : Int))) true (brV (hold (n == (0 : Int))) true (brV (hold (decide ((↑(List.length s) : Int) ≤ (200 : Int)))) true (Q (AVal.iface 9 (AVal.str s)) Sto.empty) (Q AVal.nilIface Sto.empty)) (Q AVal.nilIface Sto.empty)) (Q AVal.nilIface Sto.empty))) (brV (hold (k == (2 : Int))) true (brV (hold (n == (0 : Int))) true (brV (hold (decide ((↑(List.length s) : Int) ≤ (200 : Int)))) true (Q (AVal.iface 9 (AVal.str s)) Sto.empty) (Q AVal.nilIface Sto.empty)) (Q AVal.nilIface Sto.empty)) (Q AVal.nilIface Sto.empty))) : ACall Tryd.prog 58 [.agg [.int .i64 k, .int .i64 n, .str s]] (Sto.empty) Q :=
  ACall.intro hmix Tryd.func58 (c := code_58_) (by kernel_rfl) cThing ho (Nat.le_of_ble_eq_true (by kernel_rfl)) (Eq.mpr (by kernel_rfl) h)
end Go.Proofs.YtcijjgfadkflmaaDoor.V
end

section
namespace Go.AL
set_option linter.unusedSimpArgs false
set_option linter.unusedVariables false
@[simp] theorem vlv_length (l : List Vl) : (vlv l).length = l.length := by simp [vlv]
@[simp] theorem vlv_is (l : List Vl) : (vlv l).all isVl = true := by simp [vlv, isVl, Vl.a]
@[simp] theorem map_vlOf_vlv (l : List Vl) : (vlv l).map vlOf = l := by
  simp only [vlv, List.map_map]
  conv => rhs; rw [← List.map_id l]
  exact List.map_congr_left fun b _ => rfl
theorem wk_eq {x y : AVal} (h : x = y) : Wk x y := by rw [h]; exact Wk.refl _
end Go.AL
namespace Go.Proofs.YtcijjgfadkflmaaDoor.V
open Go.AL
set_option linter.unusedSimpArgs false
set_option linter.unusedVariables false
set_option maxHeartbeats 2000000
set_option maxRecDepth 20000
theorem and_tt {a b : Bool} (h1 : a = true) (h2 : b = true) : (a && b) = true := by rw [h1, h2]; rfl
theorem thenN {f : St → Prop} {K : Exit → St → Prop} {st : St} (h : f st) : thenK f K .normal st := h
theorem lenOk_of {n : Nat} (h : lenOk n = true) : n ≤ 140737488351232 := by simpa [lenOk] using h
theorem lenOk_mk {n : Nat} (h : n ≤ 140737488351232) : lenOk n = true := by simpa [lenOk] using h
theorem lenT_of {s : Txt} (h : lenT s = true) : s.length ≤ 1000000 := by simpa [lenT] using h
theorem lenT_mk {s : Txt} (h : s.length ≤ 1000000) : lenT s = true := by simpa [lenT] using h
theorem i64r_of {n : Int} (h : i64r n = true) : -9223372036854775808 ≤ n ∧ n ≤ 9223372036854775807 := by
  unfold i64r at h; rw [hold_eq] at h; exact @of_decide_eq_true _ (_) h
theorem i64r_mk {n : Int} (h : -9223372036854775808 ≤ n ∧ n ≤ 9223372036854775807) : i64r n = true := by
  unfold i64r; rw [hold_eq]; exact @decide_eq_true _ (_) h
theorem brT {b : Bool} {A B : Prop} (hb : b = true) (h : A) : brV b true A B := by subst hb; exact brV_by (fun _ => h) (fun h => by cases h)
theorem brF {b : Bool} {A B : Prop} (hb : b = false) (h : B) : brV b true A B := by subst hb; exact brV_by (fun h => by cases h) (fun _ => h)

/-! ### Things -/
noncomputable def thingA (k n : Int) (s : Txt) : AVal := if k = 1 ∧ s.length = 0 then .iface 3 (.int .i64 n) else if k = 2 ∧ n = 0 ∧ s.length ≤ 200 then .iface 9 (.str s) else .nilIface
theorem thing_c (k n : Int) (s : Txt) : ACall Tryd.prog 58 [.agg [.int .i64 k, .int .i64 n, .str s]] Sto.empty fun r _ => Wk r (thingA k n s) := by
  refine thing_i k n s _ (.of_none rfl) ?_
  have e : (s == []) = (s.length == 0) := by cases s <;> rfl
  simp only [hold_eq, e]
  repeat' (refine brV_by (fun h => ?_) (fun h => ?_))
  all_goals
    refine wk_eq ?_
    simp only [beq_iff_eq, beq_eq_false_iff_ne, decide_eq_true_eq, decide_eq_false_iff_not, ne_eq] at *
    unfold thingA
    by_cases c1 : k = 1 ∧ s.length = 0
    · rw [if_pos c1]
      all_goals first
        | rfl
        | (exfalso; omega)
    · rw [if_neg c1]
      by_cases c2 : k = 2 ∧ n = 0 ∧ s.length ≤ 200
      · rw [if_pos c2]
        all_goals first
          | rfl
          | (exfalso; omega)
      · rw [if_neg c2]
        all_goals first
          | rfl
          | (exfalso; omega)
theorem thing_ok : EntOk Tryd.prog thingE := by
  intro xs σ; simp only [thingE]; split
  · rename_i k n s
    have h := thing_c k n s
    refine ⟨fun h1 _ => ?_, fun h1 => ⟨fun h2 _ => ?_, fun h2 _ => ?_⟩⟩
    · rw [hold_eq] at h1
      rw [thingA, if_pos (of_decide_eq_true h1)] at h
      exact pcall_of (.refl _) h rfl rfl rfl rfl
    · rw [hold_eq] at h1 h2
      rw [thingA, if_neg (of_decide_eq_false h1), if_pos (of_decide_eq_true h2)] at h
      exact pcall_of (.refl _) h rfl rfl rfl rfl
    · rw [hold_eq] at h1 h2
      rw [thingA, if_neg (of_decide_eq_false h1), if_neg (of_decide_eq_false h2)] at h
      exact pcall_of (.refl _) h rfl rfl rfl rfl
  · trivial
/-! ### The order -/
end Go.Proofs.YtcijjgfadkflmaaDoor.V
end

section
namespace Go.AL
end Go.AL
namespace Go.Proofs.YtcijjgfadkflmaaDoor.V
open Go.AL
set_option linter.unusedSimpArgs false
set_option linter.unusedVariables false
set_option maxHeartbeats 2000000
set_option maxRecDepth 20000
end Go.Proofs.YtcijjgfadkflmaaDoor.V
end

section
namespace Go.AL
def resT (y : Txt × Nat × Int) : AVal := .tuple [.agg [.int .i64 (if y.2.2 = 0 then 2 else 0), .int .i64 0, .str (if y.2.2 = 0 then y.1 else [])], .int .i64 (y.2.1 : Int), .int .i64 y.2.2]
def resV (y : Vl × Nat × Int) : AVal := .tuple [.agg [.int .i64 y.1.k, .int .i64 y.1.n, .str y.1.s], .int .i64 (y.2.1 : Int), .int .i64 y.2.2]
end Go.AL
namespace Go.Proofs.YtcijjgfadkflmaaDoor.V
open Go.AL
set_option linter.unusedSimpArgs false
set_option linter.unusedVariables false
set_option maxHeartbeats 2000000
set_option maxRecDepth 20000
end Go.Proofs.YtcijjgfadkflmaaDoor.V
end

section
namespace Go.AL
end Go.AL
namespace Go.Proofs.YtcijjgfadkflmaaDoor.V
open Go.AL
set_option linter.unusedSimpArgs false
set_option linter.unusedVariables false
set_option maxHeartbeats 2000000
set_option maxRecDepth 20000
end Go.Proofs.YtcijjgfadkflmaaDoor.V
end

section
namespace Go.Proofs.YtcijjgfadkflmaaDoor.V
open Go.AL
set_option linter.unusedSimpArgs false
set_option linter.unusedVariables false
set_option maxHeartbeats 2000000
set_option maxRecDepth 20000
end Go.Proofs.YtcijjgfadkflmaaDoor.V
end
