/-
  Seat 10 (chunk): what is told of calls.
-/
import Derived.Test.YtjdjecaclbdhhaaCm
set_option linter.unusedVariables false
namespace Go.Proofs.Ytjdjecaclbdhhaa
open Go.AL
/-- Is the store this one? -/
noncomputable def isSto (σ τ : Sto) : Bool := hold (@decide (σ = τ) (Classical.propDecidable _))
def remI (es : List AVal) (x : Int) : List Int := (es.map AVal.intOf).filter fun y => decide (y ≠ x)
def remR (l : List Int) (x : Int) : List Int := l.filter fun y => decide (y ≠ x)
/-- A number into a list, as the reference does it. -/
def putF (n : Int) : Bool → List Int → List Int
  | d, [] => if d then [] else [n]
  | d, x :: r => if n < x ∧ d = false then n :: x :: putF n true r else x :: putF n d r
def putR (l : List Int) (n : Int) : List Int := putF n false l
def smallC (l : List Ck) : Bool := decide (l.length ≤ 40 ∧ ∀ c ∈ l, c.2.1.length ≤ 20)
def riseI (l : List Int) : Bool := decide (l.Pairwise (· < ·))
noncomputable section
def lenOk (n : Nat) : Bool := hold (decide (n ≤ 140737488351232))
def lenM (n : Nat) : Bool := hold (decide (n ≤ 1000000))
/-- A chunk whose ids are not too many. -/
def ckM (v : AVal) : Bool := ckIs v && lenM (ckOf v).2.1.length
def nanE : Ent := (53, fun xs _ => match xs with
  | [.int .i64 a] => some (.pure true (.bool false))
  | _ => none)
def nan2E : Ent := (46, fun xs _ => match xs with
  | [.int .i64 a] => some (.pure true (.bool false))
  | _ => none)
def lessE : Ent := (45, fun xs _ => match xs with
  | [.int .i64 a, .int .i64 b] => some (.pure true (.bool (hold (decide (a < b)))))
  | _ => none)
def bsE : Ent := (30, fun xs _ => match xs with
  | [.slice es s t, .int .i64 x] => some (.nm (posI (es.map AVal.intOf) x) fun p => .nm ((es.map AVal.intOf).contains x) fun b => .pure (okW 1 s es && (es.all isI64 && (hold (riseI (es.map AVal.intOf)) && lenOk es.length))) (.tuple [.int .i64 (p : Int), .bool (hold b)]))
  | _ => none)
def indexIE : Ent := (44, fun xs _ => match xs with
  | [.slice es s t, .int .i64 n] => some (.nm ((es.map AVal.intOf).contains n) fun y => .nm (if y then ((es.map AVal.intOf).idxOf n : Int) else -1) fun i => .pure (okW 1 s es && (es.all isI64 && lenOk es.length)) (.int .i64 i))
  | _ => none)
def containsIE : Ent := (27, fun xs _ => match xs with
  | [.slice es s t, .int .i64 n] => some (.pure (okW 1 s es && (es.all isI64 && lenOk es.length)) (.bool (hold ((es.map AVal.intOf).contains n))))
  | _ => none)
def rightE : Ent := (11, fun xs _ => match xs with
  | [.slice es s t] => some (.pure (okW 4 s es && (es.all ckIs && (lenM es.length && es.all ckM))) (.bool (hold (rightC (es.map ckOf)))))
  | _ => none)
def idsE : Ent := (13, fun xs _ => match xs with
  | [.slice es s t] => some (.nm (idsC (es.map ckOf)) fun y => .pure (okW 4 s es && (es.all ckIs && (lenM es.length && es.all ckM))) (.slice (iv y) 1 .ro))
  | _ => none)
def placeE : Ent := (29, fun xs _ => match xs with
  | [.slice es s t, .int .i64 x] => some (.nm (placeC (es.map ckOf) x) fun y => .pure (okW 4 s es && (es.all ckIs && (lenM es.length && es.all ckM))) (.int .i64 (y : Int)))
  | _ => none)
/-- A store with one number alone. -/
def isN1 (σ : Sto) (k : Nat) (n : Int) : Bool := Nat.beq k 0 && hold (@decide (σ = Sto.push Sto.empty (.cells [.int .i64 n])) (Classical.propDecidable _))
def n1Of (σ : Sto) (k : Nat) : Int := match σ.obj k with | some (.cells [.int .i64 n]) => n | _ => 0
def fresh1E : Ent := (50, fun xs σ => match xs with
  | [v, .ptr (.out k) 0] => some (.full (ckIs v && isN1 σ k (n1Of σ k)) (.bool (hold ((ckOf v).1 == n1Of σ k))) σ)
  | _ => none)
def isFresh1 (g : FuncId) : Bool := Nat.beq g 50
def indexFE : Ent := (55, fun xs σ => match xs with
  | [.slice es s t, .func (.func g) [] [.ptr (.out k) 0]] => some (.nm ((nosC (es.map ckOf)).contains (n1Of σ k)) fun y => .nm (if y then ((nosC (es.map ckOf)).idxOf (n1Of σ k) : Int) else -1) fun i => .full (isFresh1 g && (okW 4 s es && (es.all ckIs && (lenM es.length && isN1 σ k (n1Of σ k))))) (.int .i64 i) σ)
  | _ => none)
def containsFE : Ent := (49, fun xs σ => match xs with
  | [.slice es s t, .func (.func g) [] [.ptr (.out k) 0]] => some (.full (isFresh1 g && (okW 4 s es && (es.all ckIs && (lenM es.length && isN1 σ k (n1Of σ k))))) (.bool (hold ((nosC (es.map ckOf)).contains (n1Of σ k)))) σ)
  | _ => none)
def freshE : Ent := (32, fun xs _ => match xs with
  | [.slice es s t] => some (.nm (freeN (nosC (es.map ckOf))) fun y => .pure (okW 4 s es && (es.all ckIs && lenM es.length)) (.int .i64 (y : Int)))
  | _ => none)
/-- A copy that is turned later; one that never is; one that is appended to. -/
def cloneIE : Ent := (33, fun xs σ => match xs with
  | [.slice es s t] => some (.full (okW 1 s es && (es.all isI64 && hold (decide (es.length ≤ 1000000)))) (.mrow σ.nobj es.length) (σ.pushRow es 1))
  | _ => none)
def cloneISE : Ent := (33, fun xs σ => match xs with
  | [.slice es s t] => some (.pure (okW 1 s es && (es.all isI64 && hold (decide (es.length ≤ 1000000)))) (.slice es 1 .ro))
  | _ => none)
def cloneCE : Ent := (34, fun xs σ => match xs with
  | [.slice es s t] => some (.full (okW 4 s es && (es.all ckIs && lenM es.length)) (.slice (ckv (es.map ckOf)) 4 (.own σ.nown)) (σ.pushOwn (ckv (es.map ckOf)).length))
  | _ => none)
/-- A chunk in new memory: its ids are turned later; or never. -/
def ownME : Ent := (28, fun xs σ => match xs with
  | [v] => some (.full (ckM v) (.agg [.int .i64 (ckOf v).1, .mrow σ.nobj (iv (ckOf v).2.1).length, .int .i64 (ckOf v).2.2.1, .bool (ckOf v).2.2.2]) (σ.pushRow (iv (ckOf v).2.1) 1))
  | _ => none)
def ownSE : Ent := (28, fun xs _ => match xs with
  | [v] => some (.pure (ckM v) (.agg [.int .i64 (ckOf v).1, .slice (iv (ckOf v).2.1) 1 .ro, .int .i64 (ckOf v).2.2.1, .bool (ckOf v).2.2.2]))
  | _ => none)
def insIE : Ent := (31, fun xs σ => match xs with
  | [.mrow k n, .int .i64 i, .slice [.int .i64 x] 1 .full] => match σ.obj k with
    | some (.buf es s g) => some (.full (Nat.beq g (k + 1) && (Nat.beq s 1 && (es.all isI64 && hold (decide (n = es.length ∧ 0 ≤ i ∧ i ≤ es.length ∧ es.length ≤ 1000000))))) (.slice (insC es i.toNat (.int .i64 x)) 1 .ro) (σ.del k))
    | _ => none
  | _ => none)
/-- Remove's closure, its id frozen. -/
def isRem1 (g : FuncId) : Bool := Nat.beq g 36
def rem1E : Ent := (36, fun xs _ => match xs with
  | [.int .i64 a, .iptr [.int .i64 x]] => some (.pure true (.bool (hold (a == x))))
  | _ => none)
/-- Where is it in a row that is written? -/
def indexDE : Ent := (51, fun xs σ => match xs with
  | [.arr (.out k) 0 n c, .func (.func g) [] [.iptr [.int .i64 x]]] => match σ.obj k with
    | some (.cells cs) => some (.nm (((cs.take n).map AVal.intOf).contains x) fun y => .nm (if y then (((cs.take n).map AVal.intOf).idxOf x : Int) else -1) fun i => .full (isRem1 g && (Nat.beq k 0 && (isSto σ (Sto.one (.cells cs)) && ((cs.take n).all isI64 && hold (decide (n ≤ cs.length ∧ n ≤ 1000000)))))) (.int .i64 i) σ)
    | _ => none
  | _ => none)
def delFE : Ent := (35, fun xs σ => match xs with
  | [.mrow k n, .func (.func f) [] [.iptr [.int .i64 x]]] => match σ.obj k with
    | some (.buf es s g) => some (.nm (remI es x) fun y => .full (isRem1 f && (Nat.beq g (k + 1) && (Nat.beq s 1 && (es.all isI64 && hold (decide (n = es.length ∧ 0 < es.length ∧ es.length ≤ 1000000)))))) (.slice (iv y) 1 .ro) (σ.del k))
    | _ => none
  | _ => none)
/-- A row of one's own first, a frozen one later. -/
def ownXE : Ent := (28, fun xs σ => match Nat.beq σ.nobj 0 with
  | true => ownME.2 xs σ
  | false => ownSE.2 xs σ)
/-- Insert, Remove, Apply. -/
def insertE : Ent := (9, fun xs _ => match xs with
  | [.slice es s t, .int .i64 x] => some (.nm (insK (es.map ckOf) x) fun y => .pure (okW 4 s es && (es.all ckIs && (lenM es.length && es.all ckM))) (.tuple [.slice (ckv y.1) 4 .ro, .int .i64 y.2]))
  | _ => none)
def removeE : Ent := (16, fun xs _ => match xs with
  | [.slice es s t, .int .i64 x] => some (.nm (remK (es.map ckOf) x) fun y => .pure (okW 4 s es && (es.all ckIs && (lenM es.length && es.all ckM))) (.tuple [.slice (ckv y.1) 4 .ro, .int .i64 y.2]))
  | _ => none)
def applyE : Ent := (10, fun xs _ => match xs with
  | [.slice es s t, .slice fs s' t'] => some (.nm (applyK (es.map ckOf) (fs.map ckOf)) fun y => .pure (okW 4 s es && (okW 4 s' fs && (es.all ckIs && (fs.all ckIs && (lenM es.length && (lenM fs.length && (es.all ckM && fs.all ckM))))))) (.slice (ckv y) 4 .ro))
  | _ => none)
/-- The references. -/
def rightRE : Ent := (20, fun xs _ => match xs with
  | [.slice es s t] => some (.pure (okW 4 s es && (es.all ckIs && (lenM es.length && es.all ckM))) (.bool (hold (rightC (es.map ckOf)))))
  | _ => none)
def idsRE : Ent := (21, fun xs _ => match xs with
  | [.slice es s t] => some (.nm (idsC (es.map ckOf)) fun y => .pure (okW 4 s es && (es.all ckIs && (lenM es.length && es.all ckM))) (.slice (iv y) 1 .ro))
  | _ => none)
def hasE : Ent := (26, fun xs _ => match xs with
  | [.slice es s t, .int .i64 n] => some (.pure (okW 1 s es && (es.all isI64 && lenOk es.length)) (.bool (hold ((es.map AVal.intOf).contains n))))
  | _ => none)
def putE : Ent := (37, fun xs _ => match xs with
  | [.slice es s t, .int .i64 n] => some (.nm (putR (es.map AVal.intOf) n) fun y => .pure (okW 1 s es && (es.all isI64 && lenM es.length)) (.slice (iv y) 1 .ro))
  | _ => none)
def withoutE : Ent := (39, fun xs _ => match xs with
  | [.slice es s t, .int .i64 n] => some (.nm (remR (es.map AVal.intOf) n) fun y => .pure (okW 1 s es && (es.all isI64 && lenM es.length)) (.slice (iv y) 1 .ro))
  | _ => none)
def usedE : Ent := (38, fun xs _ => match xs with
  | [.slice es s t, .int .i64 n] => some (.pure (okW 4 s es && (es.all ckIs && lenM es.length)) (.bool (hold ((nosC (es.map ckOf)).contains n))))
  | _ => none)
def intsE : Ent := (12, fun xs _ => match xs with
  | [.slice es s t, .slice fs s' t'] => some (.pure (okW 1 s es && (okW 1 s' fs && (es.all isI64 && (fs.all isI64 && lenOk es.length)))) (.bool (hold (es.map AVal.intOf == fs.map AVal.intOf))))
  | _ => none)
def sameE : Ent := (19, fun xs _ => match xs with
  | [.slice es s t, .slice fs s' t'] => some (.pure (okW 4 s es && (okW 4 s' fs && (es.all ckIs && (fs.all ckIs && (lenM es.length && es.all ckM))))) (.bool (hold (es.map ckOf == fs.map ckOf))))
  | _ => none)
def insertRE : Ent := (17, fun xs _ => match xs with
  | [.slice es s t, .int .i64 x] => some (.nm (insK (es.map ckOf) x) fun y => .pure (okW 4 s es && (es.all ckIs && (lenM es.length && es.all ckM))) (.tuple [.slice (ckv y.1) 4 .ro, .int .i64 y.2]))
  | _ => none)
def removeRE : Ent := (18, fun xs _ => match xs with
  | [.slice es s t, .int .i64 x] => some (.nm (remK (es.map ckOf) x) fun y => .pure (okW 4 s es && (es.all ckIs && (lenM es.length && es.all ckM))) (.tuple [.slice (ckv y.1) 4 .ro, .int .i64 y.2]))
  | _ => none)
/-- The laws' own functions. -/
def smallE : Ent := (14, fun xs _ => match xs with
  | [.slice es s t] => some (.pure (okW 4 s es && (es.all ckIs && lenOk es.length)) (.bool (hold (smallC (es.map ckOf)))))
  | _ => none)
def copiedE : Ent := (15, fun xs _ => match xs with
  | [.slice es s t] => some (.nm (es.map ckOf) fun y => .pure (okW 4 s es && (es.all ckIs && (lenM es.length && es.all ckM))) (.slice (ckv y) 4 .ro))
  | _ => none)
def awakeE : Ent := (8, fun xs _ => match xs with
  | [] => some (.pure true (.bool (hold true)))
  | _ => none)
end
end Go.Proofs.Ytjdjecaclbdhhaa
