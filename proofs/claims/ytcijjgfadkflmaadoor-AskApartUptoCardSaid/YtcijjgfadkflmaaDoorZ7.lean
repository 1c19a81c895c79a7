/-
  The texts Vo, Vg, Sm, Qe, Qr, Qc, Sa, Se, Ta, Tu, Tr, Rr, Sp of this seat, one behind the other.
-/
import Derived.Test.YtcijjgfadkflmaaDoorZ6b
import Derived.Lib.AtoiAllCases
import Derived.Lib.ItoaNum
import Derived.KernelRfl
import Derived.Lib.Join

section
namespace Go.AL
theorem unqF_ne {c : UInt8} (h : c ≠ 92) (r : Txt) : unqF (c :: r) = c :: unqF r := by
  cases r with
  | nil => rfl
  | cons d r => rw [unqF, if_neg h]
set_option linter.unusedSimpArgs false
set_option linter.unusedVariables false
set_option maxRecDepth 20000

def quN (r : Int) : List Int := (if r = 34 ∨ r = 92 then [92] else []) ++ (if r = 10 then [92, 110] else [r])
theorem quoR_N (r : Int) : quoR r = txtR (quN r) := by
  have e92 : encA 92 = [92] := rfl
  have e110 : encA 110 = [110] := rfl
  unfold quoR quN txtR
  rw [List.flatMap_append]
  congr 1
  · split <;> rfl
  · split
    · rfl
    · simp
theorem quo_N (l : List Int) : l.flatMap quoR = txtR (l.flatMap quN) := by
  induction l with
  | nil => rfl
  | cons r l ih => rw [List.flatMap_cons, List.flatMap_cons, ih, quoR_N, txtR_append]
theorem fixR_small {r : Int} {k : Int} (hk : 0 ≤ k) (hk2 : k < 55296) : fixR r = k ↔ r = k := by
  unfold fixR
  split
  · exact Iff.rfl
  · rename_i h
    constructor
    · intro h1; omega
    · intro h1; subst h1; exact absurd (valid_mk (by omega)) h
theorem par_quN : ∀ l : List Int, parR false ((l.flatMap quN).map fixR) = some (txtR l)
  | [] => rfl
  | r :: l => by
    have ih := par_quN l
    have ht : txtR (r :: l) = encA r ++ txtR l := rfl
    have f92 : fixR 92 = 92 := rfl
    have f110 : fixR 110 = 110 := rfl
    rw [List.flatMap_cons, List.map_append, ht]
    by_cases h34 : r = 34
    · subst h34
      have e : (quN 34).map fixR = [92, 34] := rfl
      rw [e]
      show parR false (92 :: 34 :: (l.flatMap quN).map fixR) = _
      rw [parR, if_neg (by simp), if_pos ⟨rfl, rfl⟩, parR, if_neg (by simp), if_neg (by simp), if_neg (by simp), ih]
      rfl
    · by_cases h92 : r = 92
      · subst h92
        have e : (quN 92).map fixR = [92, 92] := rfl
        rw [e]
        show parR false (92 :: 92 :: (l.flatMap quN).map fixR) = _
        rw [parR, if_neg (by simp), if_pos ⟨rfl, rfl⟩, parR, if_neg (by simp), if_neg (by simp), if_neg (by simp), ih]
        rfl
      · by_cases h10 : r = 10
        · subst h10
          have e : (quN 10).map fixR = [92, 110] := rfl
          rw [e]
          show parR false (92 :: 110 :: (l.flatMap quN).map fixR) = _
          rw [parR, if_neg (by simp), if_pos ⟨rfl, rfl⟩, parR, if_pos ⟨rfl, rfl⟩, ih]
          rfl
        · have e : quN r = [r] := by unfold quN; rw [if_neg (by omega), if_neg h10]; rfl
          have g34 : ¬ fixR r = 34 := fun h => h34 ((fixR_small (by omega) (by omega)).1 h)
          have g92 : ¬ fixR r = 92 := fun h => h92 ((fixR_small (by omega) (by omega)).1 h)
          rw [e]
          show parR false (fixR r :: (l.flatMap quN).map fixR) = _
          rw [parR, if_neg (by simp), if_neg (by simp [g92]), if_neg (by simp [g34, g92]), ih, encA_fix]
          rfl
theorem encA_no92 {r : Int} (h : r ≠ 92) : ∀ c ∈ encA r, c ≠ 92 := by
  rw [encA_N]
  have h1 : (fixR r).toNat ≠ 92 := by
    have hv := valid_of (valid_fix r)
    intro h2
    exact h ((fixR_small (by omega) (by omega)).1 (show fixR r = 92 by omega))
  have hv := valid_of (valid_fix r)
  have hcb : (fixR r).toNat ≤ 1114111 := by omega
  generalize (fixR r).toNat = c at *
  intro x hx hx92
  subst hx92
  have tn : ∀ n : Nat, (92 : UInt8) = UInt8.ofNat n → n % 256 = 92 := fun n hn => by
    have := congrArg UInt8.toNat hn
    simpa using this.symm
  unfold encN at hx
  split at hx
  · rcases List.mem_singleton.1 hx with h2
    have := tn _ h2; omega
  · split at hx
    · simp only [List.mem_cons, List.not_mem_nil, or_false] at hx
      rcases hx with h2 | h2 <;> (have := tn _ h2; omega)
    · split at hx
      · simp only [List.mem_cons, List.not_mem_nil, or_false] at hx
        rcases hx with h2 | h2 | h2 <;> (have := tn _ h2; omega)
      · simp only [List.mem_cons, List.not_mem_nil, or_false] at hx
        rcases hx with h2 | h2 | h2 | h2 <;> (have := tn _ h2; omega)
theorem unqF_app : ∀ (a t : Txt), (∀ c ∈ a, c ≠ 92) → unqF (a ++ t) = a ++ unqF t
  | [], t, _ => rfl
  | c :: a, t, h => by
    rw [List.cons_append, unqF_ne (h c (List.mem_cons_self ..)), unqF_app a t fun x hx => h x (List.mem_cons_of_mem _ hx), List.cons_append]
theorem unq_quo : ∀ l : List Int, unqF (l.flatMap quoR) = txtR l
  | [] => rfl
  | r :: l => by
    have ih := unq_quo l
    have ht : txtR (r :: l) = encA r ++ txtR l := rfl
    rw [List.flatMap_cons, ht]
    by_cases h34 : r = 34
    · subst h34
      have e : quoR 34 = [92, 34] := rfl
      rw [e]
      show unqF (92 :: 34 :: l.flatMap quoR) = _
      rw [unqF, if_pos rfl, ih]; rfl
    · by_cases h92 : r = 92
      · subst h92
        have e : quoR 92 = [92, 92] := rfl
        rw [e]
        show unqF (92 :: 92 :: l.flatMap quoR) = _
        rw [unqF, if_pos rfl, ih]; rfl
      · by_cases h10 : r = 10
        · subst h10
          have e : quoR 10 = [92, 110] := rfl
          rw [e]
          show unqF (92 :: 110 :: l.flatMap quoR) = _
          rw [unqF, if_pos rfl, ih]; rfl
        · have e : quoR r = encA r := by unfold quoR; rw [if_neg (by omega), if_neg h10]; rfl
          rw [e, unqF_app _ _ (encA_no92 h92), ih]
theorem quoT_txt (t : Txt) : quoT (txtR (runeL t)) = quoT t := by
  unfold quoT
  rw [runeL_txt', runeL_fix]
theorem remT_marks (x : Txt) : remT (34 :: (x ++ [34])) 1 = x := by
  unfold remT
  have : (34 :: (x ++ [34]) : Txt).length - 1 - 1 = x.length := by simp
  rw [this]
  simp
theorem unq_key {l t : Txt} (h : quoT t = l) : unqT l = (txtR (runeL t), true) ∧ unqL l = some (txtR (runeL t)) := by
  have hl : l = 34 :: ((runeL t).flatMap quoR ++ [34]) := h.symm
  have hr : remT l 1 = (runeL t).flatMap quoR := by rw [hl]; exact remT_marks _
  have h2 : ¬ l.length < 2 := by rw [hl]; simp
  have hq : quoT (txtR (runeL t)) = l := by rw [quoT_txt]; exact h
  have hp : parR false (runeL (remT l 1)) = some (txtR (runeL t)) := by
    rw [hr, quo_N, runeL_txt', par_quN]
  constructor
  · unfold unqT
    rw [if_neg h2, hr, unq_quo, hq]; simp
  · refine Go.Proofs.unqL_eq ?_ hp hq
    have h0 : l.getD 0 0 = 34 := by rw [hl]; rfl
    have h1 : l.getD (l.length - 1) 0 = 34 := by
      rw [hl]
      have : (34 :: ((runeL t).flatMap quoR ++ [34]) : Txt).length - 1 = ((runeL t).flatMap quoR).length + 1 := by simp
      rw [this, List.getD_cons_succ]
      simp [List.getD]
    rw [h0, h1]; simp [h2]
theorem unqL_T (l : Txt) : unqL l = if (unqT l).2 = true then some (unqT l).1 else none := by
  by_cases h : (unqT l).2 = true
  · rw [if_pos h]
    have hq : quoT (unqT l).1 = l := by
      unfold unqT at h ⊢
      split at h
      · cases h
      · rename_i h2
        rw [if_neg h2]
        simpa using h
    have hk := unq_key hq
    have e1 : (unqT l).1 = txtR (runeL (unqT l).1) := congrArg Prod.fst hk.1
    rw [hk.2, ← e1]
  · rw [if_neg h]
    cases hu : unqL l with
    | none => rfl
    | some t =>
      exfalso
      apply h
      have hq : quoT t = l := by
        unfold unqL at hu
        split at hu
        · cases hu
        · split at hu
          · cases hu
          · split at hu
            · rename_i h5
              cases hu
              exact h5
            · cases hu
      rw [(unq_key hq).1]
end Go.AL
end

section
set_option linter.unusedVariables false
namespace Go.AL
def printV (v : Vl) : Txt := if v.k = 1 ∧ v.s.length = 0 then Lib.itoa v.n else if v.k = 2 ∧ v.n = 0 ∧ v.s.length ≤ 200 then quoT v.s else [63]
def numT (s : Txt) : Option Int := match Lib.atoiAll s with
  | .ok v => some v
  | _ => none
def readV (s : Txt) : Option Vl :=
  match numT s with
  | some n => if printV ⟨1, n, []⟩ = s then some ⟨1, n, []⟩ else none
  | none => if (unqT s).2 = true then (if printV ⟨2, 0, (unqT s).1⟩ = s then some ⟨2, 0, (unqT s).1⟩ else none) else none
end Go.AL
namespace Go.Proofs.YtcijjgfadkflmaaDoor.V
open Go.AL
noncomputable section
def itoaE : Ent := (18, fun xs _ => match xs with
  | [.int .i64 n] => some (.nm (Lib.itoa n) fun y => .pure (i64r n) (.str y))
  | _ => none)
def atoiE : Ent := (63, fun xs _ => match xs with
  | [.str s] => some (.nm (numT s) fun y => .br (hold y.isSome) (.pure (lenT s) (.tuple [.int .i64 (y.getD 0), .nilIface])) (.nm (if Lib.atoiAll s = .range then Lib.atoiSat s else 0) fun z => .pure (lenT s) (.tuple [.int .i64 z, .iface 130 .undef])))
  | _ => none)
def quoteE : Ent := (59, fun xs _ => match xs with
  | [.str s] => some (.nm (quoT s) fun y => .pure (lenT s) (.str y))
  | _ => none)
def unquoteE : Ent := (64, fun xs _ => match xs with
  | [.str s] => some (.nm (unqT s).2 fun b => .nm (if b then (unqT s).1 else []) fun y => .pure (lenT s) (.tuple [.str y, .int .i64 (if b then 0 else 10)]))
  | _ => none)
def printE : Ent := (44, fun xs _ => match xs with
  | [.agg [.int .i64 k, .int .i64 n, .str s]] => some (.nm (printV ⟨k, n, s⟩) fun y => .pure (i64r n) (.str y))
  | _ => none)
def readE : Ent := (49, fun xs _ => match xs with
  | [.str s] => some (.nm (readV s) fun y => .nm (y.getD .zero) fun v => .pure (lenT s) (.tuple [.agg [.int .i64 v.k, .int .i64 v.n, .str v.s], .int .i64 (if y.isSome then 0 else 10)]))
  | _ => none)
def numberE : Ent := (53, fun xs _ => match xs with
  | [.agg [.int .i64 k, .int .i64 n, .str s]] => some (.pure (hold (decide (k = 1 ∧ s.length = 0))) (.int .i64 n))
  | _ => none)
end
end Go.Proofs.YtcijjgfadkflmaaDoor.V
end

section
namespace Go.AL
set_option linter.unusedSimpArgs false
set_option linter.unusedVariables false
structure Pr where
  key : Txt
  v : Vl
  deriving DecidableEq
structure Nd where
  label : Txt
  key : Txt
  lo : Vl
  hi : Vl
  deriving DecidableEq
structure Lk where
  fr : Int
  tw : Int
  label : Txt
  deriving DecidableEq
structure Opr where
  k : Int := 0
  edge : Bool := false
  out : Bool := false
  id : Int := 0
  fr : Int := 0
  tw : Int := 0
  most : Int := 0
  steps : Int := 0
  label : Txt := []
  key : Txt := []
  props : List Pr := []
  keys : List Txt := []
  lo : Vl := .zero
  hi : Vl := .zero
  nodes : List Nd := []
  links : List Lk := []
  deriving DecidableEq
structure Ak where
  verb : Int := 0
  op : Opr := {}
  deriving DecidableEq
def Pr.a (p : Pr) : AVal := .agg [.str p.key, .int .i64 p.v.k, .int .i64 p.v.n, .str p.v.s]
def Nd.a (p : Nd) : AVal := .agg [.str p.label, .str p.key, .int .i64 p.lo.k, .int .i64 p.lo.n, .str p.lo.s, .int .i64 p.hi.k, .int .i64 p.hi.n, .str p.hi.s]
def Lk.a (p : Lk) : AVal := .agg [.int .i64 p.fr, .int .i64 p.tw, .str p.label]
def prv (l : List Pr) : List AVal := l.map Pr.a
def ndv (l : List Nd) : List AVal := l.map Nd.a
def lkv (l : List Lk) : List AVal := l.map Lk.a
def Opr.cs (o : Opr) : List AVal := [.int .i64 o.k, .bool o.edge, .bool o.out, .int .i64 o.id, .int .i64 o.fr, .int .i64 o.tw, .int .i64 o.most, .int .i64 o.steps, .str o.label, .str o.key, .slice (prv o.props) 4 .ro, .slice (strv o.keys) 1 .ro, .int .i64 o.lo.k, .int .i64 o.lo.n, .str o.lo.s, .int .i64 o.hi.k, .int .i64 o.hi.n, .str o.hi.s, .slice (ndv o.nodes) 8 .ro, .slice (lkv o.links) 3 .ro]
def Opr.a (o : Opr) : AVal := .agg o.cs
def Ak.a (x : Ak) : AVal := .agg (.int .i64 x.verb :: x.op.cs)

/-! ### Words -/
def txt (s : String) : Txt := s.toUTF8.data.toList
def wVertex : Txt := [118, 101, 114, 116, 101, 120]
def wEdge : Txt := [101, 100, 103, 101]
def wSet : Txt := [115, 101, 116]
def wUnset : Txt := [117, 110, 115, 101, 116]
def wDrop : Txt := [100, 114, 111, 112]
def wGet : Txt := [103, 101, 116]
def wNext : Txt := [110, 101, 120, 116]
def wBack : Txt := [98, 97, 99, 107]
def wFind : Txt := [102, 105, 110, 100]
def wMatch : Txt := [109, 97, 116, 99, 104]
def wPath : Txt := [112, 97, 116, 104]
def wBegin : Txt := [98, 101, 103, 105, 110]
def wCommit : Txt := [99, 111, 109, 109, 105, 116]
def wAbort : Txt := [97, 98, 111, 114, 116]
def wL : Txt := [123]
def wR : Txt := [125]
def wO : Txt := [40]
def wC : Txt := [41]
def wE : Txt := [61]
def wG : Txt := [62]
def sideW (e : Bool) : Txt := if e then wEdge else wVertex
def labelW (l : Txt) : Txt := if l = [] then wG else l
def propW (l : List Pr) : List Txt := if l = [] then [] else wL :: (l.flatMap fun p => [p.key, wE, printV p.v]) ++ [wR]
def nodeW (n : Nd) : List Txt := if n.key = [] then [n.label] else [n.label, n.key, printV n.lo, printV n.hi]
def wordsO (o : Opr) : List Txt :=
  if o.k = 1 then wVertex :: Lib.itoa o.id :: o.label :: propW o.props
  else if o.k = 2 then wEdge :: Lib.itoa o.id :: o.label :: Lib.itoa o.fr :: Lib.itoa o.tw :: propW o.props
  else if o.k = 3 then wSet :: sideW o.edge :: Lib.itoa o.id :: propW o.props
  else if o.k = 4 then wUnset :: sideW o.edge :: Lib.itoa o.id :: o.keys
  else if o.k = 5 then [wDrop, sideW o.edge, Lib.itoa o.id]
  else if o.k = 6 then [wGet, sideW o.edge, Lib.itoa o.id]
  else if o.k = 7 then [if o.out then wNext else wBack, Lib.itoa o.id, labelW o.label]
  else if o.k = 8 then wFind :: nodeW ⟨o.label, o.key, o.lo, o.hi⟩
  else if o.k = 10 then [wPath, Lib.itoa o.fr, Lib.itoa o.tw, labelW o.label, Lib.itoa o.most]
  else if o.k = 9 then wMatch :: Lib.itoa o.most :: ((o.nodes.flatMap fun n => wO :: nodeW n ++ [wC]) ++ o.links.flatMap fun x => [wL, Lib.itoa x.fr, labelW x.label, Lib.itoa x.tw, wR])
  else []
/-! ### Reading words: what is left; none: they aren't as told -/
abbrev Rd (α : Type) := Option (α × List Txt)
def rWord : List Txt → Rd Txt
  | [] => none
  | w :: r => some (w, r)
def rMust (w : Txt) (l : List Txt) : Rd Unit := match l with
  | x :: r => if x = w then some ((), r) else none
  | [] => none
def rName : List Txt → Rd Txt
  | w :: r => if nameT w then some (w, r) else none
  | [] => none
def rValue : List Txt → Rd Vl
  | w :: r => (readV w).map fun v => (v, r)
  | [] => none
def rNumber (l : List Txt) : Rd Int := match rValue l with
  | some (v, r) => if v.k = 1 ∧ v.s.length = 0 then some (v.n, r) else none
  | none => none
def rLabel (l : List Txt) : Rd Txt := if l.head? = some wG then some ([], l.tail) else rName l
def rEdge (l : List Txt) : Rd Bool := if l.head? = some wEdge then some (true, l.tail) else (rMust wVertex l).map fun x => (false, x.2)
def rProp (l : List Txt) : Rd Pr := match rName l with
  | none => none
  | some (k, l) => match rMust wE l with
    | none => none
    | some (_, l) => (rValue l).map fun x => (⟨k, x.1⟩, x.2)
def rPropsF : Nat → List Txt → Rd (List Pr)
  | 0, _ => none
  | f + 1, l => if l.head? = some wR then some ([], l.tail) else match rProp l with
    | none => none
    | some (p, l) => (rPropsF f l).map fun x => (p :: x.1, x.2)
def rProps (l : List Txt) : Rd (List Pr) := if l.head? = some wL then rPropsF l.length l.tail else some ([], l)
def rNode (l : List Txt) : Rd Nd := match rName l with
  | none => none
  | some (a, l) => if l = [] ∨ l.head? = some wC then some (⟨a, [], .zero, .zero⟩, l) else match rName l with
    | none => none
    | some (k, l) => match rValue l with
      | none => none
      | some (lo, l) => (rValue l).map fun x => (⟨a, k, lo, x.1⟩, x.2)
def rNodesF : Nat → List Txt → Rd (List Nd)
  | 0, _ => none
  | f + 1, l => if l.head? = some wO then (match rNode l.tail with
    | none => none
    | some (n, l) => match rMust wC l with
      | none => none
      | some (_, l) => (rNodesF f l).map fun x => (n :: x.1, x.2)) else some ([], l)
def rLink (l : List Txt) : Rd Lk := match rNumber l with
  | none => none
  | some (a, l) => match rLabel l with
    | none => none
    | some (s, l) => match rNumber l with
      | none => none
      | some (b, l) => (rMust wR l).map fun x => (⟨a, b, s⟩, x.2)
def rLinksF : Nat → List Txt → Rd (List Lk)
  | 0, _ => none
  | f + 1, l => if l.head? = some wL then (match rLink l.tail with
    | none => none
    | some (n, l) => (rLinksF f l).map fun x => (n :: x.1, x.2)) else some ([], l)
def rPattern (l : List Txt) : Rd (List Nd × List Lk) := match rNodesF (l.length + 1) l with
  | none => none
  | some (ns, l) => (rLinksF (l.length + 1) l).map fun x => ((ns, x.1), x.2)
def rNames : List Txt → Rd (List Txt)
  | [] => some ([], [])
  | w :: r => if nameT w then (rNames r).map fun x => (w :: x.1, x.2) else none
def rOp (w : Txt) (l : List Txt) : Rd Opr :=
  if w = wVertex then (match rNumber l with
    | none => none
    | some (a, l) => match rName l with
      | none => none
      | some (s, l) => (rProps l).map fun x => ({ k := 1, id := a, label := s, props := x.1 }, x.2))
  else if w = wEdge then (match rNumber l with
    | none => none
    | some (a, l) => match rName l with
      | none => none
      | some (s, l) => match rNumber l with
        | none => none
        | some (b, l) => match rNumber l with
          | none => none
          | some (c, l) => (rProps l).map fun x => ({ k := 2, id := a, label := s, fr := b, tw := c, props := x.1 }, x.2))
  else if w = wSet then (match rEdge l with
    | none => none
    | some (e, l) => match rNumber l with
      | none => none
      | some (a, l) => (rProps l).map fun x => ({ k := 3, edge := e, id := a, props := x.1 }, x.2))
  else if w = wUnset then (match rEdge l with
    | none => none
    | some (e, l) => match rNumber l with
      | none => none
      | some (a, l) => (rNames l).map fun x => ({ k := 4, edge := e, id := a, keys := x.1 }, x.2))
  else if w = wDrop then (match rEdge l with
    | none => none
    | some (e, l) => (rNumber l).map fun x => ({ k := 5, edge := e, id := x.1 }, x.2))
  else if w = wGet then (match rEdge l with
    | none => none
    | some (e, l) => (rNumber l).map fun x => ({ k := 6, edge := e, id := x.1 }, x.2))
  else if w = wNext ∨ w = wBack then (match rNumber l with
    | none => none
    | some (a, l) => (rLabel l).map fun x => ({ k := 7, out := decide (w = wNext), id := a, label := x.1 }, x.2))
  else if w = wFind then (rNode l).map fun x => ({ k := 8, label := x.1.label, key := x.1.key, lo := x.1.lo, hi := x.1.hi }, x.2)
  else if w = wMatch then (match rNumber l with
    | none => none
    | some (a, l) => (rPattern l).map fun x => ({ k := 9, most := a, nodes := x.1.1, links := x.1.2 }, x.2))
  else if w = wPath then (match rNumber l with
    | none => none
    | some (a, l) => match rNumber l with
      | none => none
      | some (b, l) => match rLabel l with
        | none => none
        | some (s, l) => (rNumber l).map fun x => ({ k := 10, fr := a, tw := b, label := s, most := x.1 }, x.2))
  else none
def askW : List Txt → Option Ak
  | [] => none
  | w :: l =>
    if w = wBegin then (if l = [] then some ⟨1, {}⟩ else none)
    else if w = wCommit then (if l = [] then some ⟨2, {}⟩ else none)
    else if w = wAbort then (if l = [] then some ⟨3, {}⟩ else none)
    else match rOp w l with
      | some (o, []) => some ⟨4, o⟩
      | _ => none
end Go.AL
end

section
set_option linter.unusedVariables false
namespace Go.Proofs.YtcijjgfadkflmaaDoor.Lt
open Go.AL
noncomputable section
def lenT (s : Txt) : Bool := hold (decide (s.length ≤ 1000000))
def lenOk (n : Nat) : Bool := hold (decide (n ≤ 140737488351232))
def i64r (n : Int) : Bool := hold (@decide (-9223372036854775808 ≤ n ∧ n ≤ 9223372036854775807) (Classical.propDecidable _))
def letE : Ent := (71, fun xs _ => match xs with
  | [.int .i32 r] => some (.pure true (.bool (hold (letB r))))
  | _ => none)
def wrongE : Ent := (62, fun xs _ => match xs with
  | [.str s] => some (.pure (lenT s) (.bool (hold (!nameT s))))
  | _ => none)
def isWrong (g : FuncId) : Bool := Nat.beq g 62
def strOk (v : AVal) : Bool := match v with | .str s => lenT s | _ => false
def indexFE : Ent := (47, fun xs _ => match xs with
  | [.slice es s t, .func (.func g) [] []] => some (.nm ((es.map AVal.strOf).all nameT) fun y => .nm (if y then -1 else ((es.map AVal.strOf).findIdx (fun x => !nameT x) : Int)) fun i => .pure (isWrong g && (okW 1 s es && (es.all strIs && (lenOk es.length && es.all strOk)))) (.int .i64 i))
  | _ => none)
def containsFE : Ent := (32, fun xs _ => match xs with
  | [.slice es s t, .func (.func g) [] []] => some (.pure (isWrong g && (okW 1 s es && (es.all strIs && (lenOk es.length && es.all strOk)))) (.bool (hold (!(es.map AVal.strOf).all nameT))))
  | _ => none)
def rightE : Ent := (48, fun xs _ => match xs with
  | [.slice es s t] => some (.pure (okW 1 s es && (es.all strIs && (lenOk es.length && es.all strOk))) (.bool (hold ((es.map AVal.strOf).all nameT))))
  | _ => none)
def quoteE : Ent := (59, fun xs _ => match xs with
  | [.str s] => some (.nm (quoT s) fun y => .pure (lenT s) (.str y))
  | _ => none)
def unquoteE : Ent := (64, fun xs _ => match xs with
  | [.str s] => some (.nm (unqT s).2 fun b => .nm (if b then (unqT s).1 else []) fun y => .pure (lenT s) (.tuple [.str y, .int .i64 (if b then 0 else 10)]))
  | _ => none)
end
end Go.Proofs.YtcijjgfadkflmaaDoor.Lt
end

section
set_option maxRecDepth 100000
set_option maxHeartbeats 0
set_option linter.unusedVariables false
namespace Go.Proofs.YtcijjgfadkflmaaDoor.Lt
open Go.AL Go.Proofs
noncomputable def cLet : Cfg := { keep := [0, 2], cut := [] }
noncomputable def cWrong : Cfg := { keep := [0, 2, 3, 5, 7, 8, 9, 25], cut := [(7, [3, 7], [7]), (16, [3], [])], orc := ofList [letE] }
noncomputable def cIndexF : Cfg := { keep := [0, 1, 4, 5, 7, 8, 9, 16], cut := [(5, [0, 1, 7, 8], [])], orc := ofList [wrongE] }
noncomputable def cContainsF : Cfg := { keep := [0, 1, 4], cut := [], orc := ofList [indexFE] }
noncomputable def cRight : Cfg := { keep := [0, 2], cut := [], orc := ofList [containsFE] }
noncomputable def code_32_ : Code := (Tryd.f32.body).getD .skip
noncomputable def code_47_ : Code := (Tryd.f47.body).getD .skip
noncomputable def code_48_ : Code := (Tryd.f48.body).getD .skip
noncomputable def code_62_ : Code := (Tryd.f62.body).getD .skip
noncomputable def code_71_ : Code := (Tryd.f71.body).getD .skip
noncomputable def code_47_1_1 : Code := codeAt code_47_ [1, 1]
noncomputable def code_62_1_1_1 : Code := codeAt code_62_ [1, 1, 1]
noncomputable def code_47_1_0_1_0_0 : Code := codeAt code_47_ [1, 0, 1, 0, 0]
noncomputable def code_62_1_1_0_1_0_0 : Code := codeAt code_62_ [1, 1, 0, 1, 0, 0]
theorem letter_i (r : Int) (Q : AVal → Sto → Prop) (ho : OrcOk Tryd.prog cLet) (h : brV (hold (decide ((97 : Int) ≤ r))) true (brV (hold (decide (r ≤ (122 : Int)))) false (brV (hold (decide ((65 : Int) ≤ r))) true (brV (hold (decide (r ≤ (90 : Int)))) false (brV (hold (r == (95 : Int))) false (brV (hold (decide ((192 : Int) ≤ r))) true (brV (hold (decide (r ≤ (591 : Int)))) true (brV (hold (r != (215 : Int))) true (Q (AVal.bool (hold (r != (247 : Int)))) Sto.empty) (Q (AVal.bool false) Sto.empty)) (Q (AVal.bool false) Sto.empty)) (Q (AVal.bool false) Sto.empty)) (Q (AVal.bool true) Sto.empty)) (Q (AVal.bool true) Sto.empty)) (brV (hold (r == (95 : Int))) false (brV (hold (decide ((192 : Int) ≤ r))) true (brV (hold (decide (r ≤ (591 : Int)))) true (brV (hold (r != (215 : Int))) true (Q (AVal.bool (hold (r != (247 : Int)))) Sto.empty) (Q (AVal.bool false) Sto.empty)) (Q (AVal.bool false) Sto.empty)) (Q (AVal.bool false) Sto.empty)) (Q (AVal.bool true) Sto.empty))) (Q (AVal.bool true) Sto.empty)) (brV (hold (decide ((65 : Int) ≤ r))) true (brV (hold (decide (r ≤ (90 : Int)))) false (brV (hold (r == (95 : Int))) false (brV (hold (decide ((192 : Int) ≤ r))) true (brV (hold (decide (r ≤ (591 : Int)))) true (brV (hold (r != (215 : Int))) true (Q (AVal.bool (hold (r != (247 : Int)))) Sto.empty) (Q (AVal.bool false) Sto.empty)) (Q (AVal.bool false) Sto.empty)) (Q (AVal.bool false) Sto.empty)) (Q (AVal.bool true) Sto.empty)) (Q (AVal.bool true) Sto.empty)) (brV (hold (r == (95 : Int))) false (brV (hold (decide ((192 : Int) ≤ r))) true (brV (hold (decide (r ≤ (591 : Int)))) true (brV (hold (r != (215 : Int))) true (Q (AVal.bool (hold (r != (247 : Int)))) Sto.empty) (Q (AVal.bool false) Sto.empty)) (Q (AVal.bool false) Sto.empty)) (Q (AVal.bool false) Sto.empty)) (Q (AVal.bool true) Sto.empty)))) : ACall Tryd.prog 71 [.int .i32 r] (Sto.empty) Q :=
  ACall.intro hmix Tryd.func71 (c := code_71_) (by kernel_rfl) cLet ho (Nat.le_of_ble_eq_true (by kernel_rfl)) (Eq.mpr (by kernel_rfl) h)
theorem wrong_i (s : Txt) (Q : AVal → Sto → Prop) (ho : OrcOk Tryd.prog cWrong) (h : loopV (fun s => St.norm [] [3, 7] [7] s) (vc Tryd.prog cWrong code_62_1_1_0_1_0_0) (blockK 0 (thenK (fun s => cutV (vc Tryd.prog cWrong code_62_1_1_1 (endK Tryd.prog (Array.toList (Go.Func.results Tryd.f62)) Q)) (St.norm [] [3] [] s)) (endK Tryd.prog (Array.toList (Go.Func.results Tryd.f62)) Q))) (St.mk 34 [(3, AVal.int IntKind.i64 (0 : Int)), (7, AVal.ptr (Oid.loc 7) 0)] [] [(7, AObj.siter s 0)] Sto.empty)) : ACall Tryd.prog 62 [.str s] (Sto.empty) Q :=
  ACall.intro hmix Tryd.func62 (c := code_62_) (by kernel_rfl) cWrong ho (Nat.le_of_ble_eq_true (by kernel_rfl)) (Eq.mpr (by kernel_rfl) h)
noncomputable def wrongL_S (s : Txt) (n p : Nat) : St := St.mk 34 [(3, .int .i64 (n : Int)), (7, .ptr (.loc 7) 0)] [] [(7, .siter s p)] (Sto.empty)
noncomputable abbrev wrongL_C : Code := code_62_1_1_0_1_0_0
theorem wrongL_r (s : Txt) (n p : Nat) (L : St → Prop) (K : Exit → St → Prop) : vc Tryd.prog cWrong code_62_1_1_0_1_0_0 (thenK (fun s => L (St.norm [] [3, 7] [7] s)) K) (St.mk 34 [(3, .int .i64 (n : Int)), (7, .ptr (.loc 7) 0)] [] [(7, .siter s p)] (Sto.empty)) =
  (brV (hold (decide (p < List.length s))) true (brV (!hold (letB (decR s p))) true (brV (hold ((↑n : Int) == (0 : Int))) false (brV (hold (decide (decR s p < (48 : Int)))) false (brV (hold (decide ((57 : Int) < decR s p))) true (K Exit.ret (St.mk 34 [(3, AVal.int IntKind.i64 (↑n : Int)), (7, AVal.ptr (Oid.loc 7) 0), (8, AVal.tuple [AVal.bool true, AVal.int IntKind.i64 (↑p : Int), AVal.int IntKind.i32 (decR s p)]), (9, AVal.bool true), (5, AVal.int IntKind.i32 (decR s p)), (25, AVal.bool (hold (decide ((57 : Int) < decR s p)))), (2, AVal.bool true)] [] [(7, AObj.siter s (p + decW s p))] Sto.empty)) (L (St.mk 34 [(3, AVal.int IntKind.i64 (IntKind.wrap IntKind.i64 ((↑n : Int) + (1 : Int)))), (7, AVal.ptr (Oid.loc 7) 0)] [] [(7, AObj.siter s (p + decW s p))] Sto.empty))) (K Exit.ret (St.mk 34 [(3, AVal.int IntKind.i64 (↑n : Int)), (7, AVal.ptr (Oid.loc 7) 0), (8, AVal.tuple [AVal.bool true, AVal.int IntKind.i64 (↑p : Int), AVal.int IntKind.i32 (decR s p)]), (9, AVal.bool true), (5, AVal.int IntKind.i32 (decR s p)), (25, AVal.bool true), (2, AVal.bool true)] [] [(7, AObj.siter s (p + decW s p))] Sto.empty))) (K Exit.ret (St.mk 34 [(3, AVal.int IntKind.i64 (↑n : Int)), (7, AVal.ptr (Oid.loc 7) 0), (8, AVal.tuple [AVal.bool true, AVal.int IntKind.i64 (↑p : Int), AVal.int IntKind.i32 (decR s p)]), (9, AVal.bool true), (5, AVal.int IntKind.i32 (decR s p)), (25, AVal.bool true), (2, AVal.bool true)] [] [(7, AObj.siter s (p + decW s p))] Sto.empty))) (L (St.mk 34 [(3, AVal.int IntKind.i64 (IntKind.wrap IntKind.i64 ((↑n : Int) + (1 : Int)))), (7, AVal.ptr (Oid.loc 7) 0)] [] [(7, AObj.siter s (p + decW s p))] Sto.empty))) (K (Exit.exit 0) (St.mk 34 [(3, AVal.int IntKind.i64 (↑n : Int)), (7, AVal.ptr (Oid.loc 7) 0), (8, AVal.tuple [AVal.bool false]), (9, AVal.bool false)] [] [(7, AObj.siter s p)] Sto.empty))) := by kernel_rfl
noncomputable def wrongF_S (n : Nat) : St := St.mk 34 [(3, .int .i64 (n : Int))] [] [] (Sto.empty)
noncomputable abbrev wrongF_C : Code := code_62_1_1_1
theorem wrongF_r (n : Nat) (Q : AVal → Sto → Prop) : vc Tryd.prog cWrong code_62_1_1_1 (endK Tryd.prog Tryd.f62.results.toList Q) (St.mk 34 [(3, .int .i64 (n : Int))] [] [] (Sto.empty)) =
  (brV (hold ((↑n : Int) == (0 : Int))) false (Q (AVal.bool (hold (decide ((32 : Int) < (↑n : Int))))) Sto.empty) (Q (AVal.bool true) Sto.empty)) := by kernel_rfl
theorem indexF_i (l : List Txt) (Q : AVal → Sto → Prop) (ho : OrcOk Tryd.prog cIndexF) (h : loopV (fun s => St.norm [] [0, 1, 7, 8] [] s) (vc Tryd.prog cIndexF code_47_1_0_1_0_0) (blockK 0 (thenK (vc Tryd.prog cIndexF code_47_1_1 (endK Tryd.prog (Array.toList (Go.Func.results Tryd.f47)) Q)) (endK Tryd.prog (Array.toList (Go.Func.results Tryd.f47)) Q))) (St.mk 19 [(0, AVal.slice (strv l) 1 Tag.ro), (1, AVal.func (Go.Fn.func 62) [] []), (7, AVal.int IntKind.i64 (↑(List.length (strv l)) : Int)), (8, AVal.int IntKind.i64 (0 : Int))] [] [] Sto.empty)) : ACall Tryd.prog 47 [.slice (strv l) 1 .ro, .func (.func 62) [] []] (Sto.empty) Q :=
  ACall.intro hmix Tryd.func47 (c := code_47_) (by kernel_rfl) cIndexF ho (Nat.le_of_ble_eq_true (by kernel_rfl)) (Eq.mpr (by kernel_rfl) h)
noncomputable def indexFL_S (l : List Txt) (n i : Nat) : St := St.mk 19 [(0, .slice (strv l) 1 .ro), (1, .func (.func 62) [] []), (7, .int .i64 (n : Int)), (8, .int .i64 (i : Int))] [] [] (Sto.empty)
noncomputable abbrev indexFL_C : Code := code_47_1_0_1_0_0
theorem indexFL_r (l : List Txt) (n i : Nat) (L : St → Prop) (K : Exit → St → Prop) : vc Tryd.prog cIndexF code_47_1_0_1_0_0 (thenK (fun s => L (St.norm [] [0, 1, 7, 8] [] s)) K) (St.mk 19 [(0, .slice (strv l) 1 .ro), (1, .func (.func 62) [] []), (7, .int .i64 (n : Int)), (8, .int .i64 (i : Int))] [] [] (Sto.empty)) =
  (brV (hold (decide ((↑i : Int) < (↑n : Int)))) true (gb (decide ((0 : Int) ≤ (↑i : Int) ∧ (↑i : Int) < (↑(List.length (strv l)) : Int))) (gb (decide (1 ≤ List.length (elemAt (strv l) (↑i : Int)) ∧ 0 < 1) && etaOk Sh.str (List.getD (elemAt (strv l) (↑i : Int)) 0 AVal.undef)) (gb (lenT (AVal.strOf (List.getD (elemAt (strv l) (↑i : Int)) 0 AVal.undef))) (brV (hold !nameT (AVal.strOf (List.getD (elemAt (strv l) (↑i : Int)) 0 AVal.undef))) true (K Exit.ret (St.mk 19 [(0, AVal.slice (strv l) 1 Tag.ro), (1, AVal.func (Go.Fn.func 62) [] []), (7, AVal.int IntKind.i64 (↑n : Int)), (8, AVal.int IntKind.i64 (↑i : Int)), (9, AVal.bool (hold (decide ((↑i : Int) < (↑n : Int))))), (5, AVal.int IntKind.i64 (↑i : Int)), (16, AVal.bool (hold !nameT (AVal.strOf (List.getD (elemAt (strv l) (↑i : Int)) 0 AVal.undef)))), (4, AVal.int IntKind.i64 (↑i : Int))] [] [] Sto.empty)) (L (St.mk 19 [(0, AVal.slice (strv l) 1 Tag.ro), (1, AVal.func (Go.Fn.func 62) [] []), (7, AVal.int IntKind.i64 (↑n : Int)), (8, AVal.int IntKind.i64 (IntKind.wrap IntKind.i64 ((↑i : Int) + (1 : Int))))] [] [] Sto.empty)))))) (K (Exit.exit 0) (St.mk 19 [(0, AVal.slice (strv l) 1 Tag.ro), (1, AVal.func (Go.Fn.func 62) [] []), (7, AVal.int IntKind.i64 (↑n : Int)), (8, AVal.int IntKind.i64 (↑i : Int)), (9, AVal.bool (hold (decide ((↑i : Int) < (↑n : Int)))))] [] [] Sto.empty))) := by kernel_rfl
theorem containsF_i (l : List Txt) (Q : AVal → Sto → Prop) (ho : OrcOk Tryd.prog cContainsF) (h : ∀ (y : Bool), y = List.all (List.map AVal.strOf (strv l)) nameT → ∀ (y_1 : Int), (y_1 = if y = true then (-1 : Int) else (↑(List.findIdx (fun (x : Txt) ↦ !nameT x) (List.map AVal.strOf (strv l))) : Int)) → gb (List.all (strv l) strIs && (lenOk (List.length (strv l)) && List.all (strv l) strOk)) (Q (AVal.bool (hold (decide ((0 : Int) ≤ y_1)))) Sto.empty)) : ACall Tryd.prog 32 [.slice (strv l) 1 .ro, .func (.func 62) [] []] (Sto.empty) Q :=
  ACall.intro hmix Tryd.func32 (c := code_32_) (by kernel_rfl) cContainsF ho (Nat.le_of_ble_eq_true (by kernel_rfl)) (Eq.mpr (by kernel_rfl) h)
theorem right_i (l : List Txt) (Q : AVal → Sto → Prop) (ho : OrcOk Tryd.prog cRight) (h : gb (List.all (strv l) strIs && (lenOk (List.length (strv l)) && List.all (strv l) strOk)) (Q (AVal.bool !hold !List.all (List.map AVal.strOf (strv l)) nameT) Sto.empty)) : ACall Tryd.prog 48 [.slice (strv l) 1 .ro] (Sto.empty) Q :=
  ACall.intro hmix Tryd.func48 (c := code_48_) (by kernel_rfl) cRight ho (Nat.le_of_ble_eq_true (by kernel_rfl)) (Eq.mpr (by kernel_rfl) h)
end Go.Proofs.YtcijjgfadkflmaaDoor.Lt
end

section
namespace Go.Proofs.YtcijjgfadkflmaaDoor.Lt
open Go.AL
set_option linter.unusedSimpArgs false
set_option linter.unusedVariables false
set_option maxHeartbeats 2000000
set_option maxRecDepth 20000

theorem and_tt {a b : Bool} (h1 : a = true) (h2 : b = true) : (a && b) = true := by rw [h1, h2]; rfl
theorem thenN {f : St → Prop} {K : Exit → St → Prop} {st : St} (h : f st) : thenK f K .normal st := h
theorem lenOk_of {n : Nat} (h : lenOk n = true) : n ≤ 140737488351232 := by simpa [lenOk] using h
theorem lenOk_mk {n : Nat} (h : n ≤ 140737488351232) : lenOk n = true := by simpa [lenOk] using h
theorem lenT_of {s : Txt} (h : lenT s = true) : s.length ≤ 1000000 := by simpa [lenT] using h
theorem lenT_mk {s : Txt} (h : s.length ≤ 1000000) : lenT s = true := by simpa [lenT] using h
theorem letB_of {r : Int} {b : Bool} (h : b = true ↔ (97 ≤ r ∧ r ≤ 122 ∨ 65 ≤ r ∧ r ≤ 90 ∨ r = 95 ∨ 192 ≤ r ∧ r ≤ 591 ∧ r ≠ 215 ∧ r ≠ 247)) : Wk (.bool b) (.bool (letB r)) := by
  have : b = letB r := by
    rw [Bool.eq_iff_iff, h]; simp [letB]
  rw [this]; exact Wk.refl _
theorem letter_c (r : Int) : ACall Tryd.prog 71 [.int .i32 r] Sto.empty fun v _ => Wk v (.bool (letB r)) := by
  refine letter_i r _ (.of_none rfl) ?_
  simp only [hold_eq]
  repeat' (first | refine brV_by (fun h => ?_) (fun h => ?_) | refine brV_by' (fun h => ?_) (fun h => ?_))
  all_goals
    refine letB_of ?_
    simp only [decide_eq_true_eq, decide_eq_false_iff_not, beq_iff_eq, beq_eq_false_iff_ne, bne_iff_ne, bne_eq_false_iff_eq, ne_eq, Bool.false_eq_true, false_iff, true_iff, iff_true] at *
    omega
theorem letter_ok : EntOk Tryd.prog letE := by
  intro xs σ; simp only [letE]; split
  · rename_i r
    intro _
    exact pcall_of (.refl _) (by rw [hold_eq]; exact letter_c r) rfl rfl rfl rfl
  · trivial
def preB : List Int → Bool
  | [] => true
  | r :: l => letB r && l.all fun x => letB x || digB x
theorem preB_snoc (l : List Int) (r : Int) : preB (l ++ [r]) = (preB l && (letB r || (!l.isEmpty && digB r))) := by
  cases l with
  | nil => simp [preB]
  | cons x t => simp [preB, Bool.and_assoc]
theorem nameR_pre (l : List Int) : nameR l = (preB l && decide (l ≠ [] ∧ l.length ≤ 32)) := by
  cases l with
  | nil => simp [nameR]
  | cons x t => simp [nameR, preB]
theorem preB_app {l m : List Int} (h : preB l = false) : nameR (l ++ m) = false := by
  rw [nameR_pre]
  have : preB (l ++ m) = false := by
    cases l with
    | nil => simp [preB] at h
    | cons x t =>
      simp only [preB, List.cons_append, List.all_append] at h ⊢
      rw [← Bool.and_assoc, h]; rfl
  rw [this]; rfl
theorem wrong_c (s : Txt) (hs : s.length ≤ 1000000) : ACall Tryd.prog 62 [.str s] Sto.empty fun v _ => Wk v (.bool (!nameT s)) := by
  refine wrong_i s _ (.of [letE] rfl ⟨letter_ok, trivial⟩) ?_
  refine loopV_intro (α := List Int × Nat) (fun x => wrongL_S s x.1.length x.2) (fun x => runeL s = x.1 ++ restR s x.2 ∧ preB x.1 = true) (fun x => s.length - x.2) ?_ ([], 0) ⟨rfl, rfl⟩
  rintro ⟨l, p⟩ ⟨g1, g2⟩ L hL
  simp only at g1 g2
  have hl := runeL_len s
  refine Eq.mpr (wrongL_r s l.length p L _) ?_
  simp only [hold_eq]
  refine brV_by (fun h => ?_) (fun h => ?_)
  · have hp : p < s.length := of_decide_eq_true h
    rw [restR_step hp] at g1
    have hll : l.length < s.length := by rw [g1, List.length_append, List.length_cons] at hl; omega
    have bad : preB (l ++ [decR s p]) = false → Wk (.bool true) (.bool (!nameT s)) := fun hb => by
      have : nameT s = false := by
        unfold nameT
        rw [g1, show l ++ decR s p :: restR s (p + decW s p) = (l ++ [decR s p]) ++ restR s (p + decW s p) by simp]
        exact preB_app hb
      rw [this]; exact Wk.refl _
    have nxt : preB (l ++ [decR s p]) = true → L (wrongL_S s (l ++ [decR s p]).length (p + decW s p)) := fun hb =>
      hL (l ++ [decR s p], p + decW s p) ⟨by simp only; rw [g1]; simp, hb⟩ (by have := decW_pos hp; simp only; omega)
    rw [List.length_append, List.length_singleton] at nxt
    rw [i64_succ hll (by omega)]
    rw [preB_snoc, g2, Bool.true_and] at bad nxt
    refine brV_by (fun h1 => ?_) (fun h1 => nxt (by have h1 : letB (decR s p) = true := by simpa using h1
                                                    rw [h1]; rfl))
    have h1 : letB (decR s p) = false := by simpa using h1
    rw [h1, Bool.false_or] at bad nxt
    refine brV_by' (fun h2 => ?_) (fun h2 => bad ?_)
    rotate_left
    · have h2 : ((l.length : Int) == 0) = true := h2
      have : l = [] := List.eq_nil_of_length_eq_zero (by have : (l.length : Int) = 0 := by simpa using h2
                                                         omega)
      rw [this]; rfl
    have h2 : l.isEmpty = false := by
      have h2 : ((l.length : Int) == 0) = false := h2
      cases l with
      | nil => simp at h2
      | cons x t => rfl
    rw [h2] at bad nxt
    refine brV_by' (fun h3 => ?_) (fun h3 => bad (by have := of_decide_eq_true h3; simp [digB]; omega))
    have h3 := of_decide_eq_false h3
    exact brV_by (fun h4 => bad (by have := of_decide_eq_true h4; simp [digB]; omega)) (fun h4 => nxt (by have := of_decide_eq_false h4; simp [digB]; omega))
  · have hp : s.length ≤ p := by have := of_decide_eq_false h; omega
    rw [restR_end hp, List.append_nil] at g1
    have hn : nameT s = decide (l ≠ [] ∧ l.length ≤ 32) := by unfold nameT; rw [g1, nameR_pre, g2]; rfl
    refine leaveTo (toCut (Eq.mpr (wrongF_r l.length _) ?_))
    simp only [hold_eq]
    have fin : ∀ b : Bool, (b = true ↔ (l = [] ∨ 32 < l.length)) → Wk (.bool b) (.bool (!nameT s)) := fun b hb => by
      have : b = !nameT s := by
        rw [hn, Bool.eq_iff_iff, hb]
        simp only [Bool.not_eq_true', decide_eq_false_iff_not, not_and, ne_eq]
        constructor
        · rintro (h | h) h2
          · exact absurd h h2
          · omega
        · intro h
          by_cases h0 : l = []
          · exact .inl h0
          · exact .inr (by have := h h0; omega)
      rw [this]; exact Wk.refl _
    refine brV_by' (fun h2 => fin _ ?_) (fun h2 => fin _ ?_)
    · have h2 : ((l.length : Int) == 0) = false := h2
      have hne : l ≠ [] := by rintro rfl; simp at h2
      simp only [decide_eq_true_eq]
      constructor
      · intro h; exact .inr (by omega)
      · rintro (h | h)
        · exact absurd h hne
        · omega
    · have h2 : ((l.length : Int) == 0) = true := h2
      have : l = [] := List.eq_nil_of_length_eq_zero (by have : (l.length : Int) = 0 := by simpa using h2
                                                         omega)
      simp [this]
theorem wrong_ok : EntOk Tryd.prog wrongE := by
  intro xs σ; simp only [wrongE]; split
  · rename_i s
    intro hc
    exact pcall_of (.refl _) (by rw [hold_eq]; exact wrong_c s (lenT_of hc)) rfl rfl rfl rfl
  · trivial
theorem indexF_c (l : List Txt) (hl : l.length ≤ 140737488351232) (hs : ∀ s ∈ l, s.length ≤ 1000000) : ACall Tryd.prog 47 [.slice (strv l) 1 .ro, .func (.func 62) [] []] Sto.empty fun r _ => Wk r (.int .i64 (if l.all nameT then -1 else (l.findIdx (fun x => !nameT x) : Int))) := by
  refine indexF_i l _ (.of [wrongE] rfl ⟨wrong_ok, trivial⟩) ?_
  have hn : (strv l).length = l.length := strv_length l
  refine loopV_intro (α := Nat) (fun i => indexFL_S l (strv l).length i) (fun i => i ≤ l.length ∧ ∀ j (h : j < l.length), j < i → nameT l[j] = true) (fun i => l.length - i) ?_ 0 ⟨Nat.zero_le _, fun j _ h => by omega⟩
  rintro i ⟨hi, hpre⟩ L hL
  refine Eq.mpr (indexFL_r l (strv l).length i L _) ?_
  simp only [hold_eq]
  refine brV_by (fun h => ?_) (fun h => ?_)
  · have hlt : i < l.length := by have := of_decide_eq_true h; omega
    have hm := hs _ (List.getElem_mem hlt)
    rw [i64_succ hlt hl, elemAt_strv l i hlt]
    have e : AVal.strOf (List.getD [AVal.str l[i]] 0 .undef) = l[i] := rfl
    rw [e]
    refine gb_by (dt (by omega)) (gb_by rfl (gb_by (lenT_mk hm) (brV_by (fun h => ?_) (fun h => ?_))))
    · have hb : nameT l[i] = false := by simpa using h
      have h1 : ¬ l.all nameT = true := fun ha => by have := List.all_eq_true.1 ha _ (List.getElem_mem hlt); rw [hb] at this; cases this
      have h2 : l.findIdx (fun x => !nameT x) = i := by
        rw [List.findIdx_eq hlt]
        exact ⟨by rw [hb]; rfl, fun j hj => by have := hpre j (by omega) hj; simp [this]⟩
      rw [if_neg h1, h2]; exact Wk.refl _
    · have hb : nameT l[i] = true := by simpa using h
      refine hL (i + 1) ⟨hlt, fun j hj hji => ?_⟩ (by omega)
      rcases Nat.lt_or_ge j i with h9 | h9
      · exact hpre j hj h9
      · obtain rfl : j = i := by omega
        exact hb
  · have hge : i = l.length := by have := of_decide_eq_false h; omega
    have ha : l.all nameT = true := List.all_eq_true.2 fun x hx => by
      obtain ⟨j, hj, rfl⟩ := List.getElem_of_mem hx
      exact hpre j hj (by omega)
    rw [if_pos ha]; exact Wk.refl _
theorem strs_of {es : List AVal} (h : es.all strOk = true) : ∀ s ∈ es.map AVal.strOf, s.length ≤ 1000000 := by
  intro s hs
  obtain ⟨e, he, rfl⟩ := List.mem_map.1 hs
  have := List.all_eq_true.1 h e he
  unfold strOk at this
  split at this
  · exact lenT_of this
  · cases this
theorem strs_mk {l : List Txt} (h : ∀ s ∈ l, s.length ≤ 1000000) : (strv l).all strOk = true := by
  rw [List.all_eq_true]
  intro e he
  obtain ⟨s, hs, rfl⟩ := List.mem_map.1 he
  exact lenT_mk (h s hs)
theorem indexF_ok : EntOk Tryd.prog indexFE := by
  intro xs σ; simp only [indexFE]; split
  · rename_i es s t g
    intro hc
    simp only [Bool.and_eq_true] at hc
    obtain ⟨h0, h1, h2, h3, h4⟩ := hc
    have h0 := Nat.eq_of_beq_eq_true h0
    subst h0
    exact pcall_of (.cons (wk_strv t h1 h2) (.refl _)) (indexF_c _ (by simpa using lenOk_of h3) (strs_of h4)) (by simp only [noOutL, AVal.noOut, strv_noOut, Bool.and_true]) (by simp only [noTokL, AVal.noTok, strv_noTok, Bool.and_true, Tag.below]) rfl rfl
  · trivial
theorem containsF_c (l : List Txt) (hl : l.length ≤ 140737488351232) (hs : ∀ s ∈ l, s.length ≤ 1000000) : ACall Tryd.prog 32 [.slice (strv l) 1 .ro, .func (.func 62) [] []] Sto.empty fun r _ => Wk r (.bool (!l.all nameT)) := by
  refine containsF_i l _ (.of [indexFE] rfl ⟨indexF_ok, trivial⟩) ?_
  have hn : (strv l).length = l.length := strv_length l
  simp only [map_strOf_strv, hold_eq]
  intro y hy i hi
  refine gb_by (and_tt (strv_is _) (and_tt (lenOk_mk (by omega)) (strs_mk hs))) ?_
  rw [← hy]
  have : decide (0 ≤ i) = !y := by
    cases y with
    | true => rw [hi]; rfl
    | false =>
      rw [hi]
      simp
  rw [this]; exact Wk.refl _
theorem containsF_ok : EntOk Tryd.prog containsFE := by
  intro xs σ; simp only [containsFE]; split
  · rename_i es s t g
    intro hc
    simp only [Bool.and_eq_true] at hc
    obtain ⟨h0, h1, h2, h3, h4⟩ := hc
    have h0 := Nat.eq_of_beq_eq_true h0
    subst h0
    exact pcall_of (.cons (wk_strv t h1 h2) (.refl _)) (by rw [hold_eq]; exact containsF_c _ (by simpa using lenOk_of h3) (strs_of h4)) (by simp only [noOutL, AVal.noOut, strv_noOut, Bool.and_true]) (by simp only [noTokL, AVal.noTok, strv_noTok, Bool.and_true, Tag.below]) rfl rfl
  · trivial
theorem right_c (l : List Txt) (hl : l.length ≤ 140737488351232) (hs : ∀ s ∈ l, s.length ≤ 1000000) : ACall Tryd.prog 48 [.slice (strv l) 1 .ro] Sto.empty fun r _ => Wk r (.bool (l.all nameT)) := by
  refine right_i l _ (.of [containsFE] rfl ⟨containsF_ok, trivial⟩) ?_
  have hn : (strv l).length = l.length := strv_length l
  simp only [map_strOf_strv, hold_eq, Bool.not_not]
  exact gb_by (and_tt (strv_is _) (and_tt (lenOk_mk (by omega)) (strs_mk hs))) (Wk.refl _)
theorem right_ok : EntOk Tryd.prog rightE := by
  intro xs σ; simp only [rightE]; split
  · rename_i es s t
    intro hc
    simp only [Bool.and_eq_true] at hc
    obtain ⟨h1, h2, h3, h4⟩ := hc
    exact pcall_of (.cons (wk_strv t h1 h2) (.refl _)) (by rw [hold_eq]; exact right_c _ (by simpa using lenOk_of h3) (strs_of h4)) (by simp only [noOutL, AVal.noOut, strv_noOut, Bool.and_true]) (by simp only [noTokL, AVal.noTok, strv_noTok, Bool.and_true, Tag.below]) rfl rfl
  · trivial
theorem i64r_of {n : Int} (h : i64r n = true) : -9223372036854775808 ≤ n ∧ n ≤ 9223372036854775807 := by
  unfold i64r at h; rw [hold_eq] at h; exact @of_decide_eq_true _ (_) h
theorem i64r_mk {n : Int} (h : -9223372036854775808 ≤ n ∧ n ≤ 9223372036854775807) : i64r n = true := by
  unfold i64r; rw [hold_eq]; exact @decide_eq_true _ (_) h
end Go.Proofs.YtcijjgfadkflmaaDoor.Lt
end

section
set_option linter.unusedVariables false
namespace Go.AL
def signI (r : Int) : Bool := decide (r = 123 ∨ r = 125 ∨ r = 40 ∨ r = 41 ∨ r = 61 ∨ r = 62)
def goodW (w : Txt) : Bool := (match w with | [c] => signI (c.toNat : Int) | _ => false) || nameT w || (readV w).isSome
def idxG (p : Txt → Bool) (l : List Txt) : Int := if l.any p then (l.findIdx p : Int) else -1
end Go.AL
namespace Go.Proofs.YtcijjgfadkflmaaDoor
open Go.AL
noncomputable section
def lenL (n : Nat) : Bool := hold (decide (n ≤ 1000000))
def txtOk (v : AVal) : Bool := match v with | .str s => lenL s.length | _ => false
def signE : Ent := (31, fun xs _ => match xs with
  | [.int .i32 r] => some (.pure true (.bool (hold (signI r))))
  | _ => none)
def goodE : Ent := (34, fun xs _ => match xs with
  | [.str s] => some (.pure (lenL s.length) (.bool (hold (goodW s))))
  | _ => none)
def words2E : Ent := (33, fun xs _ => match xs with
  | [.str s] => some (.pure (lenL s.length) (.bool (hold (!goodW s))))
  | _ => none)
def isW2 (g : FuncId) : Bool := Nat.beq g 33
def indexGE : Ent := (47, fun xs _ => match xs with
  | [.slice es s t, .func (.func g) [] []] => some (.nm (idxG (fun x => !goodW x) (es.map AVal.strOf)) fun i => .pure (isW2 g && (okW 1 s es && (es.all strIs && (lenL es.length && es.all txtOk)))) (.int .i64 i))
  | _ => none)
def containsGE : Ent := (32, fun xs _ => match xs with
  | [.slice es s t, .func (.func g) [] []] => some (.pure (isW2 g && (okW 1 s es && (es.all strIs && (lenL es.length && es.all txtOk)))) (.bool (hold ((es.map AVal.strOf).any fun x => !goodW x))))
  | _ => none)
def sideE : Ent := (20, fun xs _ => match xs with
  | [.bool b] => some (.pure true (.str (sideW b)))
  | _ => none)
def anyLabelE : Ent := (21, fun xs _ => match xs with
  | [.str s] => some (.pure true (.str (labelW s)))
  | _ => none)
/-! ### The reader: one object, the words that are left -/
def okR (es : List AVal) (s : Nat) : Bool := okW 1 s es && (es.all strIs && (lenL es.length && es.all txtOk))
def putR (σ : Sto) (k : Nat) (l : List Txt) : Sto := σ.set k (.cells [.slice (strv l) 1 .ro])
def rdr (xs : List AVal) (σ : Sto) (F : Nat → List AVal → Nat → List AVal → Option Ans) : Option Ans := match xs with
  | .ptr (.out k) 0 :: rest => match σ.obj k with
    | some (.cells [.slice es 1 .ro]) => F k es 1 rest
    | _ => none
  | _ => none
def rdA {α : Type} (σ : Sto) (d : α) (v : α → AVal) (k : Nat) (es : List AVal) (s : Nat) (y0 : Rd α) : Option Ans :=
  some (.nm y0 fun y => .pan (okR es s) y.isNone (v d) (.full true (v (y.getD (d, [])).1) (putR σ k (y.getD (d, [])).2)))
def rdE {α : Type} (f : FuncId) (d : α) (v : α → AVal) (F : List Txt → Rd α) : Ent := (f, fun xs σ => rdr xs σ fun k es s rest => match rest with
  | [] => rdA σ d v k es s (F (es.map AVal.strOf))
  | _ => none)
def rdTE {α : Type} (f : FuncId) (d : α) (v : α → AVal) (F : Txt → List Txt → Rd α) : Ent := (f, fun xs σ => rdr xs σ fun k es s rest => match rest with
  | [.str w] => rdA σ d v k es s (F w (es.map AVal.strOf))
  | _ => none)
def wordE : Ent := rdE 15 [] AVal.str rWord
def mustE : Ent := rdTE 56 () (fun _ => .tuple []) rMust
def nameE : Ent := rdE 37 [] AVal.str rName
def valueE : Ent := rdE 54 Vl.zero Vl.a rValue
def numberRE : Ent := rdE 36 0 (AVal.int .i64) rNumber
def labelE : Ent := rdE 40 [] AVal.str rLabel
def edgeE : Ent := rdE 39 false (fun b => AVal.bool (hold b)) rEdge
def propsE : Ent := rdE 38 [] (fun l => .slice (prv l) 4 .ro) rProps
def nodeE : Ent := rdE 41 ⟨[], [], .zero, .zero⟩ Nd.a rNode
def patternE : Ent := rdE 42 ([], []) (fun x => .agg [.slice (ndv x.1) 8 .ro, .slice (lkv x.2) 3 .ro]) rPattern
def opE : Ent := rdTE 17 {} Opr.a rOp
def peekE : Ent := (55, fun xs σ => rdr xs σ fun k es s rest => match rest with
  | [.str w] => some (.full (okR es s) (.bool (hold (decide ((es.map AVal.strOf).head? = some w)))) σ)
  | _ => none)
def numberPE : Ent := (53, fun xs _ => match xs with
  | [.agg [.int .i64 k, .int .i64 n, .str s]] => some (.pan true (!hold (decide (k = 1 ∧ s.length = 0))) (.int .i64 0) (.pure true (.int .i64 n)))
  | _ => none)
end
end Go.Proofs.YtcijjgfadkflmaaDoor
end

section
set_option linter.unusedVariables false
namespace Go.AL
def cutW (s : Txt) (a b : Int) : Txt := (s.drop a.toNat).take (b.toNat - a.toNat)
structure WSt where
  out : List Txt := []
  fr : Int := -1
  q : Bool := false
  b : Bool := false
def WSt.fin (s : Txt) (x : WSt) (i : Int) : WSt := if 0 ≤ x.fr then { x with out := x.out ++ [cutW s x.fr i], fr := -1 } else x
def WSt.step (s : Txt) (x : WSt) (i : Int) (r : Int) : WSt :=
  if x.q = true ∧ r = 34 ∧ x.b = false then { x with q := false }.fin s (i + 1)
  else if x.q = true then { x with b := decide (r = 92 ∧ x.b = false) }
  else if r = 34 ∧ x.fr < 0 then { x with fr := i, q := true, b := false }
  else if signI r = true then { x.fin s i with out := (x.fin s i).out ++ [cutW s i (i + 1)] }
  else if r = 32 then x.fin s i
  else if x.fr < 0 then { x with fr := i }
  else x
def walkW (s : Txt) : Nat → Nat → WSt → WSt
  | 0, _, x => x
  | f + 1, p, x => if p < s.length then walkW s f (p + decW s p) (x.step s (p : Int) (decR s p)) else x
def cleanT (s : Txt) : Nat → Nat → Txt
  | 0, _ => []
  | f + 1, p => if p < s.length then (if (s.getD p 0).toNat < 128 then s.getD p 0 :: cleanT s f (p + 1) else if decW s p = 1 then cleanT s f (p + 1) else (s.drop p).take (decW s p) ++ cleanT s f (p + decW s p)) else []
def badT (s : Txt) : Nat → Nat → Option Nat
  | 0, _ => none
  | f + 1, p => if p < s.length then (if decR s p = 65533 ∧ decW s p = 1 then some p else badT s f (p + decW s p)) else none
def validT (s : Txt) : Txt := match badT s s.length 0 with
  | none => s
  | some p => s.take p ++ cleanT (s.drop p) (s.drop p).length 0
def wordsT (s : Txt) : List Txt × Int :=
  if 4096 < s.length then ([], 32)
  else
    let x := walkW s s.length 0 {}
    let y := x.fin s (s.length : Int)
    if x.q = true ∨ (y.out.any fun w => !goodW w) = true ∨ validT s ≠ s then ([], 10) else (y.out, 0)
end Go.AL
namespace Go.Proofs.YtcijjgfadkflmaaDoor
open Go.AL
noncomputable section
def wst (s : Txt) (es : List AVal) (fr : Int) : Sto := Sto.pushOwn (Sto.push (Sto.push (Sto.push Sto.empty (.cells [.str s])) (.cells [.slice es 1 (.own 0)])) (.cells [.int .i64 fr])) es.length
def isW (σ : Sto) (s : Txt) (es : List AVal) (fr : Int) : Bool := hold (@decide (σ = wst s es fr) (Classical.propDecidable _))
def endE : Ent := (30, fun xs σ => match xs with
  | [.int .i64 i, .ptr (.out 2) 0, .ptr (.out 1) 0, .ptr (.out 0) 0] => match σ.obj 0, σ.obj 1, σ.obj 2 with
    | some (.cells [.str s]), some (.cells [.slice es 1 (.own 0)]), some (.cells [.int .i64 fr]) =>
      some (.br (hold (decide (0 ≤ fr))) (.full (isW σ s es fr && hold (decide (fr ≤ i ∧ i ≤ (s.length : Int) ∧ es.length ≤ 1000000))) (.tuple []) (wst s (es ++ [.str (cutW s fr i)]) (-1))) (.full (isW σ s es fr) (.tuple []) σ))
    | _, _, _ => none
  | _ => none)
def validE : Ent := (35, fun xs _ => match xs with
  | [.str s, .str []] => some (.pure (lenL s.length) (.str (validT s)))
  | _ => none)
def wordsE : Ent := (13, fun xs _ => match xs with
  | [.str s] => some (.pure true (.tuple [.slice (strv (wordsT s).1) 1 .ro, .int .i64 (wordsT s).2]))
  | _ => none)
end
end Go.Proofs.YtcijjgfadkflmaaDoor
end

section
set_option linter.unusedVariables false
namespace Go.AL
def prIs : AVal → Bool
  | .agg [.str _, .int .i64 _, .int .i64 _, .str _] => true
  | _ => false
def prOf : AVal → Pr
  | .agg [.str k, .int .i64 a, .int .i64 b, .str s] => ⟨k, ⟨a, b, s⟩⟩
  | _ => ⟨[], .zero⟩
def ndIs : AVal → Bool
  | .agg [.str _, .str _, .int .i64 _, .int .i64 _, .str _, .int .i64 _, .int .i64 _, .str _] => true
  | _ => false
def ndOf : AVal → Nd
  | .agg [.str l, .str k, .int .i64 a, .int .i64 b, .str s, .int .i64 c, .int .i64 d, .str t] => ⟨l, k, ⟨a, b, s⟩, ⟨c, d, t⟩⟩
  | _ => ⟨[], [], .zero, .zero⟩
def lkIs : AVal → Bool
  | .agg [.int .i64 _, .int .i64 _, .str _] => true
  | _ => false
def lkOf : AVal → Lk
  | .agg [.int .i64 a, .int .i64 b, .str s] => ⟨a, b, s⟩
  | _ => ⟨0, 0, []⟩
@[simp] theorem prv_is (l : List Pr) : (prv l).all prIs = true := by simp [prv, prIs, Pr.a]
@[simp] theorem map_prOf (l : List Pr) : (prv l).map prOf = l := by
  simp only [prv, List.map_map]
  conv => rhs; rw [← List.map_id l]
  exact List.map_congr_left fun b _ => rfl
@[simp] theorem ndv_is (l : List Nd) : (ndv l).all ndIs = true := by simp [ndv, ndIs, Nd.a]
@[simp] theorem map_ndOf (l : List Nd) : (ndv l).map ndOf = l := by
  simp only [ndv, List.map_map]
  conv => rhs; rw [← List.map_id l]
  exact List.map_congr_left fun b _ => rfl
@[simp] theorem lkv_is (l : List Lk) : (lkv l).all lkIs = true := by simp [lkv, lkIs, Lk.a]
@[simp] theorem map_lkOf (l : List Lk) : (lkv l).map lkOf = l := by
  simp only [lkv, List.map_map]
  conv => rhs; rw [← List.map_id l]
  exact List.map_congr_left fun b _ => rfl
theorem prv_of {es : List AVal} (h : es.all prIs = true) : es = prv (es.map prOf) := by
  unfold prv
  rw [List.map_map]
  conv => lhs; rw [← List.map_id es]
  refine List.map_congr_left fun e he => ?_
  have := List.all_eq_true.1 h e he
  unfold prIs at this
  split at this
  · rfl
  · cases this
theorem ndv_of {es : List AVal} (h : es.all ndIs = true) : es = ndv (es.map ndOf) := by
  unfold ndv
  rw [List.map_map]
  conv => lhs; rw [← List.map_id es]
  refine List.map_congr_left fun e he => ?_
  have := List.all_eq_true.1 h e he
  unfold ndIs at this
  split at this
  · rfl
  · cases this
theorem lkv_of {es : List AVal} (h : es.all lkIs = true) : es = lkv (es.map lkOf) := by
  unfold lkv
  rw [List.map_map]
  conv => lhs; rw [← List.map_id es]
  refine List.map_congr_left fun e he => ?_
  have := List.all_eq_true.1 h e he
  unfold lkIs at this
  split at this
  · rfl
  · cases this
def joinT (l : List Txt) : Txt := Lib.join l [32]
def wordsA (x : Ak) : List Txt := if x.verb = 1 then [wBegin] else if x.verb = 2 then [wCommit] else if x.verb = 3 then [wAbort] else wordsO x.op
def parseT (s : Txt) : Ak × Int :=
  if (wordsT s).2 ≠ 0 then ({}, (wordsT s).2) else match askW (wordsT s).1 with
    | some x => (x, 0)
    | none => ({}, 10)
def sameO (x y : Opr) : Bool := decide (x.k = y.k ∧ x.edge = y.edge ∧ x.out = y.out ∧ x.id = y.id ∧ x.fr = y.fr ∧ x.tw = y.tw ∧ x.most = y.most ∧ x.label = y.label ∧ x.key = y.key ∧ x.lo = y.lo ∧ x.hi = y.hi ∧ x.props = y.props ∧ x.keys = y.keys ∧ x.nodes = y.nodes ∧ x.links = y.links)
def sameA (x y : Ak) : Bool := decide (x.verb = y.verb) && sameO x.op y.op
def printA (x : Ak) : Txt × Int := if (parseT (joinT (wordsA x))).2 = 0 ∧ sameA x (parseT (joinT (wordsA x))).1 = true then (joinT (wordsA x), 0) else ([], 10)
end Go.AL
namespace Go.Proofs.YtcijjgfadkflmaaDoor
open Go.AL
noncomputable section
def eqPE : Ent := (26, fun xs _ => match xs with
  | [.slice a s t, .slice b s' t'] => some (.pure (okW 4 s a && (a.all prIs && (lenL a.length && (okW 4 s' b && (b.all prIs && lenL b.length))))) (.bool (hold (decide (a.map prOf = b.map prOf)))))
  | _ => none)
def eqSE : Ent := (27, fun xs _ => match xs with
  | [.slice a s t, .slice b s' t'] => some (.pure (okW 1 s a && (a.all strIs && (lenL a.length && (okW 1 s' b && (b.all strIs && lenL b.length))))) (.bool (hold (decide (a.map AVal.strOf = b.map AVal.strOf)))))
  | _ => none)
def eqNE : Ent := (28, fun xs _ => match xs with
  | [.slice a s t, .slice b s' t'] => some (.pure (okW 8 s a && (a.all ndIs && (lenL a.length && (okW 8 s' b && (b.all ndIs && lenL b.length))))) (.bool (hold (decide (a.map ndOf = b.map ndOf)))))
  | _ => none)
def eqLE : Ent := (29, fun xs _ => match xs with
  | [.slice a s t, .slice b s' t'] => some (.pure (okW 3 s a && (a.all lkIs && (lenL a.length && (okW 3 s' b && (b.all lkIs && lenL b.length))))) (.bool (hold (decide (a.map lkOf = b.map lkOf)))))
  | _ => none)
def len5 (n : Nat) : Bool := hold (decide (n ≤ 100000))
def prOk (v : AVal) : Bool := V.i64r (prOf v).v.n
def ndOk (v : AVal) : Bool := V.i64r (ndOf v).lo.n && V.i64r (ndOf v).hi.n
def lkOk (v : AVal) : Bool := V.i64r (lkOf v).fr && V.i64r (lkOf v).tw
def propWordsE : Ent := (19, fun xs _ => match xs with
  | [.slice a s t] => some (.pure (okW 4 s a && (a.all prIs && (len5 a.length && a.all prOk))) (.slice (strv (propW (a.map prOf))) 1 .ro))
  | _ => none)
def nodeWordsE : Ent := (22, fun xs _ => match xs with
  | [.agg [.str l, .str k, .int .i64 a, .int .i64 b, .str s, .int .i64 c, .int .i64 d, .str t]] => some (.pure (V.i64r b && V.i64r d) (.slice (strv (nodeW ⟨l, k, ⟨a, b, s⟩, ⟨c, d, t⟩⟩)) 1 .ro))
  | _ => none)
def joinE : Ent := (10, fun xs _ => match xs with
  | [.slice a s t, .str [32]] => some (.nm (joinT (a.map AVal.strOf)) fun y => .pure (okW 1 s a && (a.all strIs && (lenL a.length && hold (decide (y.length ≤ 100000000000000))))) (.str y))
  | _ => none)
def parseE : Ent := (8, fun xs _ => match xs with
  | [.slice a s t] => some (.nm (parseT (a.map AL.byteOf)) fun y => .pure (okW 1 s a && (a.all byteIs && hold (decide (a.length ≤ 100000000000000)))) (.tuple [y.1.a, .int .i64 y.2]))
  | _ => none)
end
end Go.Proofs.YtcijjgfadkflmaaDoor
end

section
set_option maxRecDepth 100000
set_option maxHeartbeats 0
set_option linter.unusedVariables false
namespace Go.Proofs.YtcijjgfadkflmaaDoor
open Go.AL Go.Proofs
noncomputable def cPropWords : Cfg := { keep := [0, 2, 3, 5, 8, 10, 11, 12, 13], cut := [(11, [3, 10, 11, 12], []), (18, [3], [])], orc := ofList [V.printE], grow := [(3, 1)] }
noncomputable def cNodeWords : Cfg := { keep := [0, 1, 2, 5], cut := [], orc := ofList [V.printE] }
noncomputable def cSame : Cfg := { keep := [0, 1, 2, 3, 4, 5, 6], cut := [], orc := ofList [eqPE, eqSE, eqNE, eqLE] }
noncomputable def cAskWords : Cfg := { keep := [0, 1, 2, 3, 4, 5, 6, 7, 9, 11, 25, 26, 36, 48, 59, 69, 76, 83, 86, 97, 111, 120, 126, 127, 128, 129, 143, 144, 145, 146], cut := [(55, [1, 7, 126, 127, 128], [1]), (65, [7, 143, 144, 145], []), (62, [1, 7], [1]), (72, [7], [])], orc := ofList [V.itoaE, propWordsE, nodeWordsE, sideE, anyLabelE], grow := [(7, 1)], rdo := [35, 47, 58, 68, 110] }
noncomputable def code_11_ : Code := (Tryd.f11.body).getD .skip
noncomputable def code_19_ : Code := (Tryd.f19.body).getD .skip
noncomputable def code_22_ : Code := (Tryd.f22.body).getD .skip
noncomputable def code_9_ : Code := (Tryd.f9.body).getD .skip
noncomputable def code_19_1_1_1_1 : Code := codeAt code_19_ [1, 1, 1, 1]
noncomputable def code_9_1_1_1_1 : Code := codeAt code_9_ [1, 1, 1, 1]
noncomputable def code_19_1_1_1_0_1_0_0 : Code := codeAt code_19_ [1, 1, 1, 0, 1, 0, 0]
noncomputable def code_9_1_1_1_0_1_0_1_1_1_1_1_1_1_1_1_1_1_1_1_1_1_1_1_1_1_0_1_1 : Code := codeAt code_9_ [1, 1, 1, 0, 1, 0, 1, 1, 1, 1, 1, 1, 1, 1, 1, 1, 1, 1, 1, 1, 1, 1, 1, 1, 1, 0, 1, 1]
noncomputable def code_9_1_1_1_0_1_0_1_1_1_1_1_1_1_1_1_1_1_1_1_1_1_1_1_1_1_0_1_1_1 : Code := codeAt code_9_ [1, 1, 1, 0, 1, 0, 1, 1, 1, 1, 1, 1, 1, 1, 1, 1, 1, 1, 1, 1, 1, 1, 1, 1, 1, 0, 1, 1, 1]
noncomputable def code_9_1_1_1_0_1_0_1_1_1_1_1_1_1_1_1_1_1_1_1_1_1_1_1_1_1_0_1_0_1_0_0 : Code := codeAt code_9_ [1, 1, 1, 0, 1, 0, 1, 1, 1, 1, 1, 1, 1, 1, 1, 1, 1, 1, 1, 1, 1, 1, 1, 1, 1, 0, 1, 0, 1, 0, 0]
noncomputable def code_9_1_1_1_0_1_0_1_1_1_1_1_1_1_1_1_1_1_1_1_1_1_1_1_1_1_0_1_1_0_1_0_0 : Code := codeAt code_9_ [1, 1, 1, 0, 1, 0, 1, 1, 1, 1, 1, 1, 1, 1, 1, 1, 1, 1, 1, 1, 1, 1, 1, 1, 1, 0, 1, 1, 0, 1, 0, 0]
theorem propWords_i (l : List Pr) (Q : AVal → Sto → Prop) (ho : OrcOk Tryd.prog cPropWords) (h : brV (hold ((↑(List.length (prv l)) : Int) == (0 : Int))) true (Q (AVal.slice [] 0 Tag.nil) Sto.empty) (loopV (fun s => St.norm [(3, 1)] [3, 10, 11, 12] [] s) (vc Tryd.prog cPropWords code_19_1_1_1_0_1_0_0) (blockK 0 (thenK (fun s => cutV (vc Tryd.prog cPropWords code_19_1_1_1_1 (endK Tryd.prog (Array.toList (Go.Func.results Tryd.f19)) Q)) (St.norm [(3, 1)] [3] [] s)) (endK Tryd.prog (Array.toList (Go.Func.results Tryd.f19)) Q))) (St.mk 28 [(3, AVal.slice [AVal.str [(123 : UInt8)]] 1 (Tag.own 0)), (10, AVal.slice (prv l) 4 Tag.ro), (11, AVal.int IntKind.i64 (↑(List.length (prv l)) : Int)), (12, AVal.int IntKind.i64 (0 : Int))] [] [] (Sto.pushOwn Sto.empty 1)))) : ACall Tryd.prog 19 [.slice (prv l) 4 .ro] (Sto.empty) Q :=
  ACall.intro hmix Tryd.func19 (c := code_19_) (by kernel_rfl) cPropWords ho (Nat.le_of_ble_eq_true (by kernel_rfl)) (Eq.mpr (by kernel_rfl) h)
noncomputable def propWordsL_S (l : List Pr) (acc : List Txt) (n i : Nat) : St := St.mk 28 [(3, .slice (strv acc) 1 (.own 0)), (10, .slice (prv l) 4 .ro), (11, .int .i64 (n : Int)), (12, .int .i64 (i : Int))] [] [] (Sto.pushOwn Sto.empty (strv acc).length)
noncomputable abbrev propWordsL_C : Code := code_19_1_1_1_0_1_0_0
theorem propWordsL_r (l : List Pr) (acc : List Txt) (n i : Nat) (L : St → Prop) (K : Exit → St → Prop) : vc Tryd.prog cPropWords code_19_1_1_1_0_1_0_0 (thenK (fun s => L (St.norm [(3, 1)] [3, 10, 11, 12] [] s)) K) (St.mk 28 [(3, .slice (strv acc) 1 (.own 0)), (10, .slice (prv l) 4 .ro), (11, .int .i64 (n : Int)), (12, .int .i64 (i : Int))] [] [] (Sto.pushOwn Sto.empty (strv acc).length)) =
  (brV (hold (decide ((↑i : Int) < (↑n : Int)))) true (gb (decide ((0 : Int) ≤ (↑i : Int) ∧ (↑i : Int) < (↑(List.length (prv l)) : Int))) (gb (decide (4 ≤ List.length (elemAt (prv l) (↑i : Int)) ∧ 0 < 4) && (etaOk Sh.str (List.getD (elemAt (prv l) (↑i : Int)) 0 AVal.undef) && (etaOk (Sh.int IntKind.i64) (List.getD (elemAt (prv l) (↑i : Int)) 1 AVal.undef) && (etaOk (Sh.int IntKind.i64) (List.getD (elemAt (prv l) (↑i : Int)) 2 AVal.undef) && (etaOk Sh.str (List.getD (elemAt (prv l) (↑i : Int)) 3 AVal.undef) && true))))) (∀ (y : Txt), y = printV (Vl.mk (AVal.intOf (List.getD (elemAt (prv l) (↑i : Int)) 1 AVal.undef)) (AVal.intOf (List.getD (elemAt (prv l) (↑i : Int)) 2 AVal.undef)) (AVal.strOf (List.getD (elemAt (prv l) (↑i : Int)) 3 AVal.undef))) → gb (V.i64r (AVal.intOf (List.getD (elemAt (prv l) (↑i : Int)) 2 AVal.undef))) (gb (decide (decide (true = true ∧ some (List.length (strv acc)) = some (List.length (strv acc)) ∧ (List.length (strv acc) + 3) * 16 ≤ 140737488355328 ∧ List.length (strv acc) + 3 ≤ 9223372036854775807) = true ∧ true = true)) (L (St.mk 28 [(3, AVal.slice (strv acc ++ [AVal.str (AVal.strOf (List.getD (elemAt (prv l) (↑i : Int)) 0 AVal.undef)), AVal.str [(61 : UInt8)], AVal.str y]) 1 (Tag.own 0)), (10, AVal.slice (prv l) 4 Tag.ro), (11, AVal.int IntKind.i64 (↑n : Int)), (12, AVal.int IntKind.i64 (IntKind.wrap IntKind.i64 ((↑i : Int) + (1 : Int))))] [] [] (Sto.setOwn (Sto.pushOwn Sto.empty (List.length (strv acc))) 0 (List.length (strv acc) + 3)))))))) (K (Exit.exit 0) (St.mk 28 [(3, AVal.slice (strv acc) 1 (Tag.own 0)), (10, AVal.slice (prv l) 4 Tag.ro), (11, AVal.int IntKind.i64 (↑n : Int)), (12, AVal.int IntKind.i64 (↑i : Int)), (13, AVal.bool (hold (decide ((↑i : Int) < (↑n : Int)))))] [] [] (Sto.pushOwn Sto.empty (List.length (strv acc)))))) := by kernel_rfl
noncomputable def propWordsF_S (acc : List Txt) : St := St.mk 28 [(3, .slice (strv acc) 1 (.own 0))] [] [] (Sto.pushOwn Sto.empty (strv acc).length)
noncomputable abbrev propWordsF_C : Code := code_19_1_1_1_1
theorem propWordsF_r (acc : List Txt) (Q : AVal → Sto → Prop) : vc Tryd.prog cPropWords code_19_1_1_1_1 (endK Tryd.prog Tryd.f19.results.toList Q) (St.mk 28 [(3, .slice (strv acc) 1 (.own 0))] [] [] (Sto.pushOwn Sto.empty (strv acc).length)) =
  (gb (decide (decide (true = true ∧ some (List.length (strv acc)) = some (List.length (strv acc)) ∧ (List.length (strv acc) + 1) * 16 ≤ 140737488355328 ∧ List.length (strv acc) + 1 ≤ 9223372036854775807) = true ∧ true = true)) (Q (AVal.slice (strv acc ++ [AVal.str [(125 : UInt8)]]) 1 (Tag.own 0)) (Sto.setOwn (Sto.pushOwn Sto.empty (List.length (strv acc))) 0 (List.length (strv acc) + 1)))) := by kernel_rfl
theorem nodeWords_i (n : Nd) (Q : AVal → Sto → Prop) (ho : OrcOk Tryd.prog cNodeWords) (h : brV (hold (Nd.key n == [])) true (Q (AVal.slice [AVal.str (Nd.label n)] 1 Tag.full) Sto.empty) (∀ (y : Txt), y = printV (Vl.mk (Vl.k (Nd.lo n)) (Vl.n (Nd.lo n)) (Vl.s (Nd.lo n))) → gb (V.i64r (Vl.n (Nd.lo n))) (∀ (y_1 : Txt), y_1 = printV (Vl.mk (Vl.k (Nd.hi n)) (Vl.n (Nd.hi n)) (Vl.s (Nd.hi n))) → gb (V.i64r (Vl.n (Nd.hi n))) (Q (AVal.slice [AVal.str (Nd.label n), AVal.str (Nd.key n), AVal.str y, AVal.str y_1] 1 Tag.full) Sto.empty)))) : ACall Tryd.prog 22 [Nd.a n] (Sto.empty) Q :=
  ACall.intro hmix Tryd.func22 (c := code_22_) (by kernel_rfl) cNodeWords ho (Nat.le_of_ble_eq_true (by kernel_rfl)) (Eq.mpr (by kernel_rfl) h)
theorem same_r (x y : Ak) (Q : AVal → Sto → Prop) : vc Tryd.prog cSame code_11_ (endK Tryd.prog Tryd.f11.results.toList Q) (St.start Tryd.f11.ntmps [Ak.a x, Ak.a y] (Sto.empty)) =
  (brV (hold (Ak.verb x == Ak.verb y)) true (brV (hold (Opr.k (Ak.op x) == Opr.k (Ak.op y))) true (brV (hold (Opr.edge (Ak.op x) == Opr.edge (Ak.op y))) true (brV (hold (Opr.out (Ak.op x) == Opr.out (Ak.op y))) true (brV (hold (Opr.id (Ak.op x) == Opr.id (Ak.op y))) true (brV (hold (Opr.fr (Ak.op x) == Opr.fr (Ak.op y))) true (brV (hold (Opr.tw (Ak.op x) == Opr.tw (Ak.op y))) true (brV (hold (Opr.most (Ak.op x) == Opr.most (Ak.op y))) true (brV (hold (Opr.label (Ak.op x) == Opr.label (Ak.op y))) true (brV (hold (Opr.key (Ak.op x) == Opr.key (Ak.op y))) true (brV (hold (Vl.k (Opr.lo (Ak.op x)) == Vl.k (Opr.lo (Ak.op y)) && (Vl.n (Opr.lo (Ak.op x)) == Vl.n (Opr.lo (Ak.op y)) && (Vl.s (Opr.lo (Ak.op x)) == Vl.s (Opr.lo (Ak.op y)) && true)))) true (brV (hold (Vl.k (Opr.hi (Ak.op x)) == Vl.k (Opr.hi (Ak.op y)) && (Vl.n (Opr.hi (Ak.op x)) == Vl.n (Opr.hi (Ak.op y)) && (Vl.s (Opr.hi (Ak.op x)) == Vl.s (Opr.hi (Ak.op y)) && true)))) true (gb (List.all (prv (Opr.props (Ak.op x))) prIs && (lenL (List.length (prv (Opr.props (Ak.op x)))) && (List.all (prv (Opr.props (Ak.op y))) prIs && lenL (List.length (prv (Opr.props (Ak.op y))))))) (brV (hold (decide (List.map prOf (prv (Opr.props (Ak.op x))) = List.map prOf (prv (Opr.props (Ak.op y)))))) true (gb (List.all (strv (Opr.keys (Ak.op x))) strIs && (lenL (List.length (strv (Opr.keys (Ak.op x)))) && (List.all (strv (Opr.keys (Ak.op y))) strIs && lenL (List.length (strv (Opr.keys (Ak.op y))))))) (brV (hold (decide (List.map AVal.strOf (strv (Opr.keys (Ak.op x))) = List.map AVal.strOf (strv (Opr.keys (Ak.op y)))))) true (gb (List.all (ndv (Opr.nodes (Ak.op x))) ndIs && (lenL (List.length (ndv (Opr.nodes (Ak.op x)))) && (List.all (ndv (Opr.nodes (Ak.op y))) ndIs && lenL (List.length (ndv (Opr.nodes (Ak.op y))))))) (brV (hold (decide (List.map ndOf (ndv (Opr.nodes (Ak.op x))) = List.map ndOf (ndv (Opr.nodes (Ak.op y)))))) true (gb (List.all (lkv (Opr.links (Ak.op x))) lkIs && (lenL (List.length (lkv (Opr.links (Ak.op x)))) && (List.all (lkv (Opr.links (Ak.op y))) lkIs && lenL (List.length (lkv (Opr.links (Ak.op y))))))) (Q (AVal.bool (hold (decide (List.map lkOf (lkv (Opr.links (Ak.op x))) = List.map lkOf (lkv (Opr.links (Ak.op y))))))) Sto.empty)) (Q (AVal.bool false) Sto.empty))) (Q (AVal.bool false) Sto.empty))) (Q (AVal.bool false) Sto.empty))) (Q (AVal.bool false) Sto.empty)) (Q (AVal.bool false) Sto.empty)) (Q (AVal.bool false) Sto.empty)) (Q (AVal.bool false) Sto.empty)) (Q (AVal.bool false) Sto.empty)) (Q (AVal.bool false) Sto.empty)) (Q (AVal.bool false) Sto.empty)) (Q (AVal.bool false) Sto.empty)) (Q (AVal.bool false) Sto.empty)) (Q (AVal.bool false) Sto.empty)) (Q (AVal.bool false) Sto.empty)) (Q (AVal.bool false) Sto.empty)) := by kernel_rfl
theorem same_i (x y : Ak) (Q : AVal → Sto → Prop) (ho : OrcOk Tryd.prog cSame) (h : brV (hold (Ak.verb x == Ak.verb y)) true (brV (hold (Opr.k (Ak.op x) == Opr.k (Ak.op y))) true (brV (hold (Opr.edge (Ak.op x) == Opr.edge (Ak.op y))) true (brV (hold (Opr.out (Ak.op x) == Opr.out (Ak.op y))) true (brV (hold (Opr.id (Ak.op x) == Opr.id (Ak.op y))) true (brV (hold (Opr.fr (Ak.op x) == Opr.fr (Ak.op y))) true (brV (hold (Opr.tw (Ak.op x) == Opr.tw (Ak.op y))) true (brV (hold (Opr.most (Ak.op x) == Opr.most (Ak.op y))) true (brV (hold (Opr.label (Ak.op x) == Opr.label (Ak.op y))) true (brV (hold (Opr.key (Ak.op x) == Opr.key (Ak.op y))) true (brV (hold (Vl.k (Opr.lo (Ak.op x)) == Vl.k (Opr.lo (Ak.op y)) && (Vl.n (Opr.lo (Ak.op x)) == Vl.n (Opr.lo (Ak.op y)) && (Vl.s (Opr.lo (Ak.op x)) == Vl.s (Opr.lo (Ak.op y)) && true)))) true (brV (hold (Vl.k (Opr.hi (Ak.op x)) == Vl.k (Opr.hi (Ak.op y)) && (Vl.n (Opr.hi (Ak.op x)) == Vl.n (Opr.hi (Ak.op y)) && (Vl.s (Opr.hi (Ak.op x)) == Vl.s (Opr.hi (Ak.op y)) && true)))) true (gb (List.all (prv (Opr.props (Ak.op x))) prIs && (lenL (List.length (prv (Opr.props (Ak.op x)))) && (List.all (prv (Opr.props (Ak.op y))) prIs && lenL (List.length (prv (Opr.props (Ak.op y))))))) (brV (hold (decide (List.map prOf (prv (Opr.props (Ak.op x))) = List.map prOf (prv (Opr.props (Ak.op y)))))) true (gb (List.all (strv (Opr.keys (Ak.op x))) strIs && (lenL (List.length (strv (Opr.keys (Ak.op x)))) && (List.all (strv (Opr.keys (Ak.op y))) strIs && lenL (List.length (strv (Opr.keys (Ak.op y))))))) (brV (hold (decide (List.map AVal.strOf (strv (Opr.keys (Ak.op x))) = List.map AVal.strOf (strv (Opr.keys (Ak.op y)))))) true (gb (List.all (ndv (Opr.nodes (Ak.op x))) ndIs && (lenL (List.length (ndv (Opr.nodes (Ak.op x)))) && (List.all (ndv (Opr.nodes (Ak.op y))) ndIs && lenL (List.length (ndv (Opr.nodes (Ak.op y))))))) (brV (hold (decide (List.map ndOf (ndv (Opr.nodes (Ak.op x))) = List.map ndOf (ndv (Opr.nodes (Ak.op y)))))) true (gb (List.all (lkv (Opr.links (Ak.op x))) lkIs && (lenL (List.length (lkv (Opr.links (Ak.op x)))) && (List.all (lkv (Opr.links (Ak.op y))) lkIs && lenL (List.length (lkv (Opr.links (Ak.op y))))))) (Q (AVal.bool (hold (decide (List.map lkOf (lkv (Opr.links (Ak.op x))) = List.map lkOf (lkv (Opr.links (Ak.op y))))))) Sto.empty)) (Q (AVal.bool false) Sto.empty))) (Q (AVal.bool false) Sto.empty))) (Q (AVal.bool false) Sto.empty))) (Q (AVal.bool false) Sto.empty)) (Q (AVal.bool false) Sto.empty)) (Q (AVal.bool false) Sto.empty)) (Q (AVal.bool false) Sto.empty)) (Q (AVal.bool false) Sto.empty)) (Q (AVal.bool false) Sto.empty)) (Q (AVal.bool false) Sto.empty)) (Q (AVal.bool false) Sto.empty)) (Q (AVal.bool false) Sto.empty)) (Q (AVal.bool false) Sto.empty)) (Q (AVal.bool false) Sto.empty)) (Q (AVal.bool false) Sto.empty)) : ACall Tryd.prog 11 [Ak.a x, Ak.a y] (Sto.empty) Q :=
  ACall.intro hmix Tryd.func11 (c := code_11_) (by kernel_rfl) cSame ho (Nat.le_of_ble_eq_true (by kernel_rfl)) (by rw [same_r]; exact h)
theorem askWords_i (o : Opr) (Q : AVal → Sto → Prop) (ho : OrcOk Tryd.prog cAskWords) (h : ∀ (y : List UInt8), y = Go.Lib.itoa (Opr.id o) → gb (V.i64r (Opr.id o)) (∀ (y_1 : List UInt8), y_1 = Go.Lib.itoa (Opr.fr o) → gb (V.i64r (Opr.fr o)) (∀ (y_2 : List UInt8), y_2 = Go.Lib.itoa (Opr.tw o) → gb (V.i64r (Opr.tw o)) (∀ (y_3 : List UInt8), y_3 = Go.Lib.itoa (Opr.most o) → gb (V.i64r (Opr.most o)) (brV (hold (Opr.k o == (1 : Int))) true (gb (List.all (prv (Opr.props o)) prIs && (len5 (List.length (prv (Opr.props o))) && List.all (prv (Opr.props o)) prOk)) (gb (decide (decide (true = true ∧ (3 + List.length (strv (propW (List.map prOf (prv (Opr.props o)))))) * 16 ≤ 140737488355328 ∧ 3 + List.length (strv (propW (List.map prOf (prv (Opr.props o))))) ≤ 9223372036854775807) = true ∧ true = true)) (Q (AVal.slice ([AVal.str [(118 : UInt8), (101 : UInt8), (114 : UInt8), (116 : UInt8), (101 : UInt8), (120 : UInt8)], AVal.str y, AVal.str (Opr.label o)] ++ strv (propW (List.map prOf (prv (Opr.props o))))) 1 Tag.ro) Sto.empty))) (brV (hold (Opr.k o == (2 : Int))) true (gb (List.all (prv (Opr.props o)) prIs && (len5 (List.length (prv (Opr.props o))) && List.all (prv (Opr.props o)) prOk)) (gb (decide (decide (true = true ∧ (5 + List.length (strv (propW (List.map prOf (prv (Opr.props o)))))) * 16 ≤ 140737488355328 ∧ 5 + List.length (strv (propW (List.map prOf (prv (Opr.props o))))) ≤ 9223372036854775807) = true ∧ true = true)) (Q (AVal.slice ([AVal.str [(101 : UInt8), (100 : UInt8), (103 : UInt8), (101 : UInt8)], AVal.str y, AVal.str (Opr.label o), AVal.str y_1, AVal.str y_2] ++ strv (propW (List.map prOf (prv (Opr.props o))))) 1 Tag.ro) Sto.empty))) (brV (hold (Opr.k o == (3 : Int))) true (gb (List.all (prv (Opr.props o)) prIs && (len5 (List.length (prv (Opr.props o))) && List.all (prv (Opr.props o)) prOk)) (gb (decide (decide (true = true ∧ (3 + List.length (strv (propW (List.map prOf (prv (Opr.props o)))))) * 16 ≤ 140737488355328 ∧ 3 + List.length (strv (propW (List.map prOf (prv (Opr.props o))))) ≤ 9223372036854775807) = true ∧ true = true)) (Q (AVal.slice ([AVal.str [(115 : UInt8), (101 : UInt8), (116 : UInt8)], AVal.str (sideW (Opr.edge o)), AVal.str y] ++ strv (propW (List.map prOf (prv (Opr.props o))))) 1 Tag.ro) Sto.empty))) (brV (hold (Opr.k o == (4 : Int))) true (gb (decide (decide (true = true ∧ (3 + List.length (strv (Opr.keys o))) * 16 ≤ 140737488355328 ∧ 3 + List.length (strv (Opr.keys o)) ≤ 9223372036854775807) = true ∧ true = true)) (Q (AVal.slice ([AVal.str [(117 : UInt8), (110 : UInt8), (115 : UInt8), (101 : UInt8), (116 : UInt8)], AVal.str (sideW (Opr.edge o)), AVal.str y] ++ strv (Opr.keys o)) 1 Tag.ro) Sto.empty)) (brV (hold (Opr.k o == (5 : Int))) true (Q (AVal.slice [AVal.str [(100 : UInt8), (114 : UInt8), (111 : UInt8), (112 : UInt8)], AVal.str (sideW (Opr.edge o)), AVal.str y] 1 Tag.full) Sto.empty) (brV (hold (Opr.k o == (6 : Int))) true (Q (AVal.slice [AVal.str [(103 : UInt8), (101 : UInt8), (116 : UInt8)], AVal.str (sideW (Opr.edge o)), AVal.str y] 1 Tag.full) Sto.empty) (brV (hold (Opr.k o == (7 : Int))) true (brV (Opr.out o) true (Q (AVal.slice [AVal.str [(110 : UInt8), (101 : UInt8), (120 : UInt8), (116 : UInt8)], AVal.str y, AVal.str (labelW (Opr.label o))] 1 Tag.full) Sto.empty) (Q (AVal.slice [AVal.str [(98 : UInt8), (97 : UInt8), (99 : UInt8), (107 : UInt8)], AVal.str y, AVal.str (labelW (Opr.label o))] 1 Tag.full) Sto.empty)) (brV (hold (Opr.k o == (8 : Int))) true (gb (V.i64r (Vl.n (Opr.lo o)) && V.i64r (Vl.n (Opr.hi o))) (gb (decide (decide (true = true ∧ (1 + List.length (strv (nodeW (Nd.mk (Opr.label o) (Opr.key o) (Vl.mk (Vl.k (Opr.lo o)) (Vl.n (Opr.lo o)) (Vl.s (Opr.lo o))) (Vl.mk (Vl.k (Opr.hi o)) (Vl.n (Opr.hi o)) (Vl.s (Opr.hi o))))))) * 16 ≤ 140737488355328 ∧ 1 + List.length (strv (nodeW (Nd.mk (Opr.label o) (Opr.key o) (Vl.mk (Vl.k (Opr.lo o)) (Vl.n (Opr.lo o)) (Vl.s (Opr.lo o))) (Vl.mk (Vl.k (Opr.hi o)) (Vl.n (Opr.hi o)) (Vl.s (Opr.hi o)))))) ≤ 9223372036854775807) = true ∧ true = true)) (Q (AVal.slice ([AVal.str [(102 : UInt8), (105 : UInt8), (110 : UInt8), (100 : UInt8)]] ++ strv (nodeW (Nd.mk (Opr.label o) (Opr.key o) (Vl.mk (Vl.k (Opr.lo o)) (Vl.n (Opr.lo o)) (Vl.s (Opr.lo o))) (Vl.mk (Vl.k (Opr.hi o)) (Vl.n (Opr.hi o)) (Vl.s (Opr.hi o)))))) 1 Tag.ro) Sto.empty))) (brV (hold (Opr.k o == (10 : Int))) true (Q (AVal.slice [AVal.str [(112 : UInt8), (97 : UInt8), (116 : UInt8), (104 : UInt8)], AVal.str y_1, AVal.str y_2, AVal.str (labelW (Opr.label o)), AVal.str y_3] 1 Tag.full) Sto.empty) (brV (hold (Opr.k o == (9 : Int))) true (loopV (fun s => St.norm [(7, 1)] [1, 7, 126, 127, 128] [1] s) (vc Tryd.prog cAskWords code_9_1_1_1_0_1_0_1_1_1_1_1_1_1_1_1_1_1_1_1_1_1_1_1_1_1_0_1_0_1_0_0) (blockK 1 (thenK (fun s => cutV (vc Tryd.prog cAskWords code_9_1_1_1_0_1_0_1_1_1_1_1_1_1_1_1_1_1_1_1_1_1_1_1_1_1_0_1_1 (blockK 0 (thenK (vc Tryd.prog cAskWords code_9_1_1_1_1 (endK Tryd.prog (Array.toList (Go.Func.results Tryd.f9)) Q)) (endK Tryd.prog (Array.toList (Go.Func.results Tryd.f9)) Q)))) (St.norm [(7, 1)] [1, 7] [1] s)) (blockK 0 (thenK (vc Tryd.prog cAskWords code_9_1_1_1_1 (endK Tryd.prog (Array.toList (Go.Func.results Tryd.f9)) Q)) (endK Tryd.prog (Array.toList (Go.Func.results Tryd.f9)) Q))))) (St.mk 163 [(1, AVal.ptr (Oid.loc 1) 0), (7, AVal.slice [AVal.str [(109 : UInt8), (97 : UInt8), (116 : UInt8), (99 : UInt8), (104 : UInt8)], AVal.str y_3] 1 (Tag.own 0)), (126, AVal.slice (ndv (Opr.nodes o)) 8 Tag.ro), (127, AVal.int IntKind.i64 (↑(List.length (ndv (Opr.nodes o))) : Int)), (128, AVal.int IntKind.i64 (0 : Int))] [] [(1, AObj.cells [AVal.int IntKind.i64 (Opr.k o), AVal.bool (Opr.edge o), AVal.bool (Opr.out o), AVal.int IntKind.i64 (Opr.id o), AVal.int IntKind.i64 (Opr.fr o), AVal.int IntKind.i64 (Opr.tw o), AVal.int IntKind.i64 (Opr.most o), AVal.int IntKind.i64 (Opr.steps o), AVal.str (Opr.label o), AVal.str (Opr.key o), AVal.slice (prv (Opr.props o)) 4 Tag.ro, AVal.slice (strv (Opr.keys o)) 1 Tag.ro, AVal.int IntKind.i64 (Vl.k (Opr.lo o)), AVal.int IntKind.i64 (Vl.n (Opr.lo o)), AVal.str (Vl.s (Opr.lo o)), AVal.int IntKind.i64 (Vl.k (Opr.hi o)), AVal.int IntKind.i64 (Vl.n (Opr.hi o)), AVal.str (Vl.s (Opr.hi o)), AVal.slice (ndv (Opr.nodes o)) 8 Tag.ro, AVal.slice (lkv (Opr.links o)) 3 Tag.ro])] (Sto.pushOwn Sto.empty 2))) (Q (AVal.slice [] 0 Tag.nil) Sto.empty))))))))))))))) : ACall Tryd.prog 9 [Opr.a o] (Sto.empty) Q :=
  ACall.intro hmix Tryd.func9 (c := code_9_) (by kernel_rfl) cAskWords ho (Nat.le_of_ble_eq_true (by kernel_rfl)) (Eq.mpr (by kernel_rfl) h)
noncomputable def askN_S (o : Opr) (acc : List Txt) (n i : Nat) : St := St.mk 163 [(1, .ptr (.loc 1) 0), (7, .slice (strv acc) 1 (.own 0)), (126, .slice (ndv o.nodes) 8 .ro), (127, .int .i64 (n : Int)), (128, .int .i64 (i : Int))] [] [(1, .cells (Opr.cs o))] (Sto.pushOwn Sto.empty (strv acc).length)
noncomputable abbrev askN_C : Code := code_9_1_1_1_0_1_0_1_1_1_1_1_1_1_1_1_1_1_1_1_1_1_1_1_1_1_0_1_0_1_0_0
theorem askN_r (o : Opr) (acc : List Txt) (n i : Nat) (L : St → Prop) (K : Exit → St → Prop) : vc Tryd.prog cAskWords code_9_1_1_1_0_1_0_1_1_1_1_1_1_1_1_1_1_1_1_1_1_1_1_1_1_1_0_1_0_1_0_0 (thenK (fun s => L (St.norm [(7, 1)] [1, 7, 126, 127, 128] [1] s)) K) (St.mk 163 [(1, .ptr (.loc 1) 0), (7, .slice (strv acc) 1 (.own 0)), (126, .slice (ndv o.nodes) 8 .ro), (127, .int .i64 (n : Int)), (128, .int .i64 (i : Int))] [] [(1, .cells (Opr.cs o))] (Sto.pushOwn Sto.empty (strv acc).length)) =
  (brV (hold (decide ((↑i : Int) < (↑n : Int)))) true (gb (decide ((0 : Int) ≤ (↑i : Int) ∧ (↑i : Int) < (↑(List.length (ndv (Opr.nodes o))) : Int))) (gb (decide (8 ≤ List.length (elemAt (ndv (Opr.nodes o)) (↑i : Int)) ∧ 0 < 8) && (etaOk Sh.str (List.getD (elemAt (ndv (Opr.nodes o)) (↑i : Int)) 0 AVal.undef) && (etaOk Sh.str (List.getD (elemAt (ndv (Opr.nodes o)) (↑i : Int)) 1 AVal.undef) && (etaOk (Sh.int IntKind.i64) (List.getD (elemAt (ndv (Opr.nodes o)) (↑i : Int)) 2 AVal.undef) && (etaOk (Sh.int IntKind.i64) (List.getD (elemAt (ndv (Opr.nodes o)) (↑i : Int)) 3 AVal.undef) && (etaOk Sh.str (List.getD (elemAt (ndv (Opr.nodes o)) (↑i : Int)) 4 AVal.undef) && (etaOk (Sh.int IntKind.i64) (List.getD (elemAt (ndv (Opr.nodes o)) (↑i : Int)) 5 AVal.undef) && (etaOk (Sh.int IntKind.i64) (List.getD (elemAt (ndv (Opr.nodes o)) (↑i : Int)) 6 AVal.undef) && (etaOk Sh.str (List.getD (elemAt (ndv (Opr.nodes o)) (↑i : Int)) 7 AVal.undef) && true))))))))) (gb (decide (decide (true = true ∧ some (List.length (strv acc)) = some (List.length (strv acc)) ∧ (List.length (strv acc) + 1) * 16 ≤ 140737488355328 ∧ List.length (strv acc) + 1 ≤ 9223372036854775807) = true ∧ true = true)) (gb (V.i64r (AVal.intOf (List.getD (elemAt (ndv (Opr.nodes o)) (↑i : Int)) 3 AVal.undef)) && V.i64r (AVal.intOf (List.getD (elemAt (ndv (Opr.nodes o)) (↑i : Int)) 6 AVal.undef))) (gb (decide (decide (true = true ∧ some (List.length (strv acc) + 1) = some (List.length (strv acc ++ [AVal.str [(40 : UInt8)]])) ∧ (List.length (strv acc ++ [AVal.str [(40 : UInt8)]]) + List.length (strv (nodeW (Nd.mk (AVal.strOf (List.getD (elemAt (ndv (Opr.nodes o)) (↑i : Int)) 0 AVal.undef)) (AVal.strOf (List.getD (elemAt (ndv (Opr.nodes o)) (↑i : Int)) 1 AVal.undef)) (Vl.mk (AVal.intOf (List.getD (elemAt (ndv (Opr.nodes o)) (↑i : Int)) 2 AVal.undef)) (AVal.intOf (List.getD (elemAt (ndv (Opr.nodes o)) (↑i : Int)) 3 AVal.undef)) (AVal.strOf (List.getD (elemAt (ndv (Opr.nodes o)) (↑i : Int)) 4 AVal.undef))) (Vl.mk (AVal.intOf (List.getD (elemAt (ndv (Opr.nodes o)) (↑i : Int)) 5 AVal.undef)) (AVal.intOf (List.getD (elemAt (ndv (Opr.nodes o)) (↑i : Int)) 6 AVal.undef)) (AVal.strOf (List.getD (elemAt (ndv (Opr.nodes o)) (↑i : Int)) 7 AVal.undef))))))) * 16 ≤ 140737488355328 ∧ List.length (strv acc ++ [AVal.str [(40 : UInt8)]]) + List.length (strv (nodeW (Nd.mk (AVal.strOf (List.getD (elemAt (ndv (Opr.nodes o)) (↑i : Int)) 0 AVal.undef)) (AVal.strOf (List.getD (elemAt (ndv (Opr.nodes o)) (↑i : Int)) 1 AVal.undef)) (Vl.mk (AVal.intOf (List.getD (elemAt (ndv (Opr.nodes o)) (↑i : Int)) 2 AVal.undef)) (AVal.intOf (List.getD (elemAt (ndv (Opr.nodes o)) (↑i : Int)) 3 AVal.undef)) (AVal.strOf (List.getD (elemAt (ndv (Opr.nodes o)) (↑i : Int)) 4 AVal.undef))) (Vl.mk (AVal.intOf (List.getD (elemAt (ndv (Opr.nodes o)) (↑i : Int)) 5 AVal.undef)) (AVal.intOf (List.getD (elemAt (ndv (Opr.nodes o)) (↑i : Int)) 6 AVal.undef)) (AVal.strOf (List.getD (elemAt (ndv (Opr.nodes o)) (↑i : Int)) 7 AVal.undef)))))) ≤ 9223372036854775807) = true ∧ true = true)) (gb (decide (decide (true = true ∧ some (List.length (strv acc ++ [AVal.str [(40 : UInt8)]]) + List.length (strv (nodeW (Nd.mk (AVal.strOf (List.getD (elemAt (ndv (Opr.nodes o)) (↑i : Int)) 0 AVal.undef)) (AVal.strOf (List.getD (elemAt (ndv (Opr.nodes o)) (↑i : Int)) 1 AVal.undef)) (Vl.mk (AVal.intOf (List.getD (elemAt (ndv (Opr.nodes o)) (↑i : Int)) 2 AVal.undef)) (AVal.intOf (List.getD (elemAt (ndv (Opr.nodes o)) (↑i : Int)) 3 AVal.undef)) (AVal.strOf (List.getD (elemAt (ndv (Opr.nodes o)) (↑i : Int)) 4 AVal.undef))) (Vl.mk (AVal.intOf (List.getD (elemAt (ndv (Opr.nodes o)) (↑i : Int)) 5 AVal.undef)) (AVal.intOf (List.getD (elemAt (ndv (Opr.nodes o)) (↑i : Int)) 6 AVal.undef)) (AVal.strOf (List.getD (elemAt (ndv (Opr.nodes o)) (↑i : Int)) 7 AVal.undef))))))) = some (List.length (strv acc ++ [AVal.str [(40 : UInt8)]] ++ strv (nodeW (Nd.mk (AVal.strOf (List.getD (elemAt (ndv (Opr.nodes o)) (↑i : Int)) 0 AVal.undef)) (AVal.strOf (List.getD (elemAt (ndv (Opr.nodes o)) (↑i : Int)) 1 AVal.undef)) (Vl.mk (AVal.intOf (List.getD (elemAt (ndv (Opr.nodes o)) (↑i : Int)) 2 AVal.undef)) (AVal.intOf (List.getD (elemAt (ndv (Opr.nodes o)) (↑i : Int)) 3 AVal.undef)) (AVal.strOf (List.getD (elemAt (ndv (Opr.nodes o)) (↑i : Int)) 4 AVal.undef))) (Vl.mk (AVal.intOf (List.getD (elemAt (ndv (Opr.nodes o)) (↑i : Int)) 5 AVal.undef)) (AVal.intOf (List.getD (elemAt (ndv (Opr.nodes o)) (↑i : Int)) 6 AVal.undef)) (AVal.strOf (List.getD (elemAt (ndv (Opr.nodes o)) (↑i : Int)) 7 AVal.undef))))))) ∧ (List.length (strv acc ++ [AVal.str [(40 : UInt8)]] ++ strv (nodeW (Nd.mk (AVal.strOf (List.getD (elemAt (ndv (Opr.nodes o)) (↑i : Int)) 0 AVal.undef)) (AVal.strOf (List.getD (elemAt (ndv (Opr.nodes o)) (↑i : Int)) 1 AVal.undef)) (Vl.mk (AVal.intOf (List.getD (elemAt (ndv (Opr.nodes o)) (↑i : Int)) 2 AVal.undef)) (AVal.intOf (List.getD (elemAt (ndv (Opr.nodes o)) (↑i : Int)) 3 AVal.undef)) (AVal.strOf (List.getD (elemAt (ndv (Opr.nodes o)) (↑i : Int)) 4 AVal.undef))) (Vl.mk (AVal.intOf (List.getD (elemAt (ndv (Opr.nodes o)) (↑i : Int)) 5 AVal.undef)) (AVal.intOf (List.getD (elemAt (ndv (Opr.nodes o)) (↑i : Int)) 6 AVal.undef)) (AVal.strOf (List.getD (elemAt (ndv (Opr.nodes o)) (↑i : Int)) 7 AVal.undef)))))) + 1) * 16 ≤ 140737488355328 ∧ List.length (strv acc ++ [AVal.str [(40 : UInt8)]] ++ strv (nodeW (Nd.mk (AVal.strOf (List.getD (elemAt (ndv (Opr.nodes o)) (↑i : Int)) 0 AVal.undef)) (AVal.strOf (List.getD (elemAt (ndv (Opr.nodes o)) (↑i : Int)) 1 AVal.undef)) (Vl.mk (AVal.intOf (List.getD (elemAt (ndv (Opr.nodes o)) (↑i : Int)) 2 AVal.undef)) (AVal.intOf (List.getD (elemAt (ndv (Opr.nodes o)) (↑i : Int)) 3 AVal.undef)) (AVal.strOf (List.getD (elemAt (ndv (Opr.nodes o)) (↑i : Int)) 4 AVal.undef))) (Vl.mk (AVal.intOf (List.getD (elemAt (ndv (Opr.nodes o)) (↑i : Int)) 5 AVal.undef)) (AVal.intOf (List.getD (elemAt (ndv (Opr.nodes o)) (↑i : Int)) 6 AVal.undef)) (AVal.strOf (List.getD (elemAt (ndv (Opr.nodes o)) (↑i : Int)) 7 AVal.undef)))))) + 1 ≤ 9223372036854775807) = true ∧ true = true)) (L (St.mk 163 [(1, AVal.ptr (Oid.loc 1) 0), (7, AVal.slice (strv acc ++ [AVal.str [(40 : UInt8)]] ++ strv (nodeW (Nd.mk (AVal.strOf (List.getD (elemAt (ndv (Opr.nodes o)) (↑i : Int)) 0 AVal.undef)) (AVal.strOf (List.getD (elemAt (ndv (Opr.nodes o)) (↑i : Int)) 1 AVal.undef)) (Vl.mk (AVal.intOf (List.getD (elemAt (ndv (Opr.nodes o)) (↑i : Int)) 2 AVal.undef)) (AVal.intOf (List.getD (elemAt (ndv (Opr.nodes o)) (↑i : Int)) 3 AVal.undef)) (AVal.strOf (List.getD (elemAt (ndv (Opr.nodes o)) (↑i : Int)) 4 AVal.undef))) (Vl.mk (AVal.intOf (List.getD (elemAt (ndv (Opr.nodes o)) (↑i : Int)) 5 AVal.undef)) (AVal.intOf (List.getD (elemAt (ndv (Opr.nodes o)) (↑i : Int)) 6 AVal.undef)) (AVal.strOf (List.getD (elemAt (ndv (Opr.nodes o)) (↑i : Int)) 7 AVal.undef))))) ++ [AVal.str [(41 : UInt8)]]) 1 (Tag.own 0)), (126, AVal.slice (ndv (Opr.nodes o)) 8 Tag.ro), (127, AVal.int IntKind.i64 (↑n : Int)), (128, AVal.int IntKind.i64 (IntKind.wrap IntKind.i64 ((↑i : Int) + (1 : Int))))] [] [(1, AObj.cells [AVal.int IntKind.i64 (Opr.k o), AVal.bool (Opr.edge o), AVal.bool (Opr.out o), AVal.int IntKind.i64 (Opr.id o), AVal.int IntKind.i64 (Opr.fr o), AVal.int IntKind.i64 (Opr.tw o), AVal.int IntKind.i64 (Opr.most o), AVal.int IntKind.i64 (Opr.steps o), AVal.str (Opr.label o), AVal.str (Opr.key o), AVal.slice (prv (Opr.props o)) 4 Tag.ro, AVal.slice (strv (Opr.keys o)) 1 Tag.ro, AVal.int IntKind.i64 (Vl.k (Opr.lo o)), AVal.int IntKind.i64 (Vl.n (Opr.lo o)), AVal.str (Vl.s (Opr.lo o)), AVal.int IntKind.i64 (Vl.k (Opr.hi o)), AVal.int IntKind.i64 (Vl.n (Opr.hi o)), AVal.str (Vl.s (Opr.hi o)), AVal.slice (ndv (Opr.nodes o)) 8 Tag.ro, AVal.slice (lkv (Opr.links o)) 3 Tag.ro])] (Sto.setOwn (Sto.setOwn (Sto.setOwn (Sto.pushOwn Sto.empty (List.length (strv acc))) 0 (List.length (strv acc) + 1)) 0 (List.length (strv acc ++ [AVal.str [(40 : UInt8)]]) + List.length (strv (nodeW (Nd.mk (AVal.strOf (List.getD (elemAt (ndv (Opr.nodes o)) (↑i : Int)) 0 AVal.undef)) (AVal.strOf (List.getD (elemAt (ndv (Opr.nodes o)) (↑i : Int)) 1 AVal.undef)) (Vl.mk (AVal.intOf (List.getD (elemAt (ndv (Opr.nodes o)) (↑i : Int)) 2 AVal.undef)) (AVal.intOf (List.getD (elemAt (ndv (Opr.nodes o)) (↑i : Int)) 3 AVal.undef)) (AVal.strOf (List.getD (elemAt (ndv (Opr.nodes o)) (↑i : Int)) 4 AVal.undef))) (Vl.mk (AVal.intOf (List.getD (elemAt (ndv (Opr.nodes o)) (↑i : Int)) 5 AVal.undef)) (AVal.intOf (List.getD (elemAt (ndv (Opr.nodes o)) (↑i : Int)) 6 AVal.undef)) (AVal.strOf (List.getD (elemAt (ndv (Opr.nodes o)) (↑i : Int)) 7 AVal.undef)))))))) 0 (List.length (strv acc ++ [AVal.str [(40 : UInt8)]] ++ strv (nodeW (Nd.mk (AVal.strOf (List.getD (elemAt (ndv (Opr.nodes o)) (↑i : Int)) 0 AVal.undef)) (AVal.strOf (List.getD (elemAt (ndv (Opr.nodes o)) (↑i : Int)) 1 AVal.undef)) (Vl.mk (AVal.intOf (List.getD (elemAt (ndv (Opr.nodes o)) (↑i : Int)) 2 AVal.undef)) (AVal.intOf (List.getD (elemAt (ndv (Opr.nodes o)) (↑i : Int)) 3 AVal.undef)) (AVal.strOf (List.getD (elemAt (ndv (Opr.nodes o)) (↑i : Int)) 4 AVal.undef))) (Vl.mk (AVal.intOf (List.getD (elemAt (ndv (Opr.nodes o)) (↑i : Int)) 5 AVal.undef)) (AVal.intOf (List.getD (elemAt (ndv (Opr.nodes o)) (↑i : Int)) 6 AVal.undef)) (AVal.strOf (List.getD (elemAt (ndv (Opr.nodes o)) (↑i : Int)) 7 AVal.undef)))))) + 1)))))))))) (K (Exit.exit 1) (St.mk 163 [(1, AVal.ptr (Oid.loc 1) 0), (7, AVal.slice (strv acc) 1 (Tag.own 0)), (126, AVal.slice (ndv (Opr.nodes o)) 8 Tag.ro), (127, AVal.int IntKind.i64 (↑n : Int)), (128, AVal.int IntKind.i64 (↑i : Int)), (129, AVal.bool (hold (decide ((↑i : Int) < (↑n : Int)))))] [] [(1, AObj.cells [AVal.int IntKind.i64 (Opr.k o), AVal.bool (Opr.edge o), AVal.bool (Opr.out o), AVal.int IntKind.i64 (Opr.id o), AVal.int IntKind.i64 (Opr.fr o), AVal.int IntKind.i64 (Opr.tw o), AVal.int IntKind.i64 (Opr.most o), AVal.int IntKind.i64 (Opr.steps o), AVal.str (Opr.label o), AVal.str (Opr.key o), AVal.slice (prv (Opr.props o)) 4 Tag.ro, AVal.slice (strv (Opr.keys o)) 1 Tag.ro, AVal.int IntKind.i64 (Vl.k (Opr.lo o)), AVal.int IntKind.i64 (Vl.n (Opr.lo o)), AVal.str (Vl.s (Opr.lo o)), AVal.int IntKind.i64 (Vl.k (Opr.hi o)), AVal.int IntKind.i64 (Vl.n (Opr.hi o)), AVal.str (Vl.s (Opr.hi o)), AVal.slice (ndv (Opr.nodes o)) 8 Tag.ro, AVal.slice (lkv (Opr.links o)) 3 Tag.ro])] (Sto.pushOwn Sto.empty (List.length (strv acc)))))) := by kernel_rfl
noncomputable def askM_S (o : Opr) (acc : List Txt) : St := St.mk 163 [(1, .ptr (.loc 1) 0), (7, .slice (strv acc) 1 (.own 0))] [] [(1, .cells (Opr.cs o))] (Sto.pushOwn Sto.empty (strv acc).length)
noncomputable abbrev askM_C : Code := code_9_1_1_1_0_1_0_1_1_1_1_1_1_1_1_1_1_1_1_1_1_1_1_1_1_1_0_1_1
theorem askM_r (o : Opr) (acc : List Txt) (K : Exit → St → Prop) : vc Tryd.prog cAskWords code_9_1_1_1_0_1_0_1_1_1_1_1_1_1_1_1_1_1_1_1_1_1_1_1_1_1_0_1_1 K (St.mk 163 [(1, .ptr (.loc 1) 0), (7, .slice (strv acc) 1 (.own 0))] [] [(1, .cells (Opr.cs o))] (Sto.pushOwn Sto.empty (strv acc).length)) =
  (loopV (fun s => St.norm [(7, 1)] [7, 143, 144, 145] [] s) (vc Tryd.prog cAskWords code_9_1_1_1_0_1_0_1_1_1_1_1_1_1_1_1_1_1_1_1_1_1_1_1_1_1_0_1_1_0_1_0_0) (blockK 3 (thenK (fun s => cutV (vc Tryd.prog cAskWords code_9_1_1_1_0_1_0_1_1_1_1_1_1_1_1_1_1_1_1_1_1_1_1_1_1_1_0_1_1_1 K) (St.norm [(7, 1)] [7] [] s)) K)) (St.mk 163 [(7, AVal.slice (strv acc) 1 (Tag.own 0)), (143, AVal.slice (lkv (Opr.links o)) 3 Tag.ro), (144, AVal.int IntKind.i64 (↑(List.length (lkv (Opr.links o))) : Int)), (145, AVal.int IntKind.i64 (0 : Int))] [] [] (Sto.pushOwn Sto.empty (List.length (strv acc))))) := by kernel_rfl
noncomputable def askK_S (ls : List Lk) (acc : List Txt) (n i : Nat) : St := St.mk 163 [(7, .slice (strv acc) 1 (.own 0)), (143, .slice (lkv ls) 3 .ro), (144, .int .i64 (n : Int)), (145, .int .i64 (i : Int))] [] [] (Sto.pushOwn Sto.empty (strv acc).length)
noncomputable abbrev askK_C : Code := code_9_1_1_1_0_1_0_1_1_1_1_1_1_1_1_1_1_1_1_1_1_1_1_1_1_1_0_1_1_0_1_0_0
theorem askK_r (ls : List Lk) (acc : List Txt) (n i : Nat) (L : St → Prop) (K : Exit → St → Prop) : vc Tryd.prog cAskWords code_9_1_1_1_0_1_0_1_1_1_1_1_1_1_1_1_1_1_1_1_1_1_1_1_1_1_0_1_1_0_1_0_0 (thenK (fun s => L (St.norm [(7, 1)] [7, 143, 144, 145] [] s)) K) (St.mk 163 [(7, .slice (strv acc) 1 (.own 0)), (143, .slice (lkv ls) 3 .ro), (144, .int .i64 (n : Int)), (145, .int .i64 (i : Int))] [] [] (Sto.pushOwn Sto.empty (strv acc).length)) =
  (brV (hold (decide ((↑i : Int) < (↑n : Int)))) true (gb (decide ((0 : Int) ≤ (↑i : Int) ∧ (↑i : Int) < (↑(List.length (lkv ls)) : Int))) (gb (decide (3 ≤ List.length (elemAt (lkv ls) (↑i : Int)) ∧ 0 < 3) && (etaOk (Sh.int IntKind.i64) (List.getD (elemAt (lkv ls) (↑i : Int)) 0 AVal.undef) && (etaOk (Sh.int IntKind.i64) (List.getD (elemAt (lkv ls) (↑i : Int)) 1 AVal.undef) && (etaOk Sh.str (List.getD (elemAt (lkv ls) (↑i : Int)) 2 AVal.undef) && true)))) (∀ (y : List UInt8), y = Go.Lib.itoa (AVal.intOf (List.getD (elemAt (lkv ls) (↑i : Int)) 0 AVal.undef)) → gb (V.i64r (AVal.intOf (List.getD (elemAt (lkv ls) (↑i : Int)) 0 AVal.undef))) (∀ (y_1 : List UInt8), y_1 = Go.Lib.itoa (AVal.intOf (List.getD (elemAt (lkv ls) (↑i : Int)) 1 AVal.undef)) → gb (V.i64r (AVal.intOf (List.getD (elemAt (lkv ls) (↑i : Int)) 1 AVal.undef))) (gb (decide (decide (true = true ∧ some (List.length (strv acc)) = some (List.length (strv acc)) ∧ (List.length (strv acc) + 5) * 16 ≤ 140737488355328 ∧ List.length (strv acc) + 5 ≤ 9223372036854775807) = true ∧ true = true)) (L (St.mk 163 [(7, AVal.slice (strv acc ++ [AVal.str [(123 : UInt8)], AVal.str y, AVal.str (labelW (AVal.strOf (List.getD (elemAt (lkv ls) (↑i : Int)) 2 AVal.undef))), AVal.str y_1, AVal.str [(125 : UInt8)]]) 1 (Tag.own 0)), (143, AVal.slice (lkv ls) 3 Tag.ro), (144, AVal.int IntKind.i64 (↑n : Int)), (145, AVal.int IntKind.i64 (IntKind.wrap IntKind.i64 ((↑i : Int) + (1 : Int))))] [] [] (Sto.setOwn (Sto.pushOwn Sto.empty (List.length (strv acc))) 0 (List.length (strv acc) + 5))))))))) (K (Exit.exit 3) (St.mk 163 [(7, AVal.slice (strv acc) 1 (Tag.own 0)), (143, AVal.slice (lkv ls) 3 Tag.ro), (144, AVal.int IntKind.i64 (↑n : Int)), (145, AVal.int IntKind.i64 (↑i : Int)), (146, AVal.bool (hold (decide ((↑i : Int) < (↑n : Int)))))] [] [] (Sto.pushOwn Sto.empty (List.length (strv acc)))))) := by kernel_rfl
noncomputable def askF_S (acc : List Txt) : St := St.mk 163 [(7, .slice (strv acc) 1 (.own 0))] [] [] (Sto.pushOwn Sto.empty (strv acc).length)
noncomputable abbrev askF_C : Code := code_9_1_1_1_0_1_0_1_1_1_1_1_1_1_1_1_1_1_1_1_1_1_1_1_1_1_0_1_1_1
theorem askF_r (acc : List Txt) (K : Exit → St → Prop) : vc Tryd.prog cAskWords code_9_1_1_1_0_1_0_1_1_1_1_1_1_1_1_1_1_1_1_1_1_1_1_1_1_1_0_1_1_1 K (St.mk 163 [(7, .slice (strv acc) 1 (.own 0))] [] [] (Sto.pushOwn Sto.empty (strv acc).length)) =
  (K Exit.ret (St.mk 163 [(7, AVal.slice (strv acc) 1 (Tag.own 0)), (2, AVal.slice (strv acc) 1 (Tag.own 0))] [] [] (Sto.pushOwn Sto.empty (List.length (strv acc))))) := by kernel_rfl
end Go.Proofs.YtcijjgfadkflmaaDoor
end

section
set_option maxRecDepth 100000
set_option maxHeartbeats 0
set_option linter.unusedVariables false
namespace Go.Proofs.YtcijjgfadkflmaaDoor
open Go.AL Go.Proofs
noncomputable def cEqP : Cfg := { keep := [0, 1, 4, 5, 10, 12, 13, 14, 24], cut := [(9, [0, 1, 12, 13], [])] }
noncomputable def cEqS : Cfg := { keep := [0, 1, 4, 5, 10, 12, 13, 14, 24], cut := [(9, [0, 1, 12, 13], [])] }
noncomputable def cEqN : Cfg := { keep := [0, 1, 4, 5, 10, 12, 13, 14, 24], cut := [(9, [0, 1, 12, 13], [])] }
noncomputable def cEqK : Cfg := { keep := [0, 1, 4, 5, 10, 12, 13, 14, 24], cut := [(9, [0, 1, 12, 13], [])] }
noncomputable def code_26_ : Code := (Tryd.f26.body).getD .skip
noncomputable def code_27_ : Code := (Tryd.f27.body).getD .skip
noncomputable def code_28_ : Code := (Tryd.f28.body).getD .skip
noncomputable def code_29_ : Code := (Tryd.f29.body).getD .skip
noncomputable def code_26_1_1_1 : Code := codeAt code_26_ [1, 1, 1]
noncomputable def code_27_1_1_1 : Code := codeAt code_27_ [1, 1, 1]
noncomputable def code_28_1_1_1 : Code := codeAt code_28_ [1, 1, 1]
noncomputable def code_29_1_1_1 : Code := codeAt code_29_ [1, 1, 1]
noncomputable def code_26_1_1_0_1_0_0 : Code := codeAt code_26_ [1, 1, 0, 1, 0, 0]
noncomputable def code_27_1_1_0_1_0_0 : Code := codeAt code_27_ [1, 1, 0, 1, 0, 0]
noncomputable def code_28_1_1_0_1_0_0 : Code := codeAt code_28_ [1, 1, 0, 1, 0, 0]
noncomputable def code_29_1_1_0_1_0_0 : Code := codeAt code_29_ [1, 1, 0, 1, 0, 0]
theorem eqP_i (a b : List Pr) (Q : AVal → Sto → Prop) (ho : OrcOk Tryd.prog cEqP) (h : brV (hold ((↑(List.length (prv a)) : Int) != (↑(List.length (prv b)) : Int))) true (Q (AVal.bool false) Sto.empty) (loopV (fun s => St.norm [] [0, 1, 12, 13] [] s) (vc Tryd.prog cEqP code_26_1_1_0_1_0_0) (blockK 0 (thenK (vc Tryd.prog cEqP code_26_1_1_1 (endK Tryd.prog (Array.toList (Go.Func.results Tryd.f26)) Q)) (endK Tryd.prog (Array.toList (Go.Func.results Tryd.f26)) Q))) (St.mk 26 [(0, AVal.slice (prv a) 4 Tag.ro), (1, AVal.slice (prv b) 4 Tag.ro), (12, AVal.int IntKind.i64 (↑(List.length (prv a)) : Int)), (13, AVal.int IntKind.i64 (0 : Int))] [] [] Sto.empty))) : ACall Tryd.prog 26 [.slice (prv a) 4 .ro, .slice (prv b) 4 .ro] (Sto.empty) Q :=
  ACall.intro hmix Tryd.func26 (c := code_26_) (by kernel_rfl) cEqP ho (Nat.le_of_ble_eq_true (by kernel_rfl)) (Eq.mpr (by kernel_rfl) h)
noncomputable def eqPL_S (a b : List Pr) (n i : Nat) : St := St.mk 26 [(0, .slice (prv a) 4 .ro), (1, .slice (prv b) 4 .ro), (12, .int .i64 (n : Int)), (13, .int .i64 (i : Int))] [] [] (Sto.empty)
noncomputable abbrev eqPL_C : Code := code_26_1_1_0_1_0_0
theorem eqPL_r (a b : List Pr) (n i : Nat) (L : St → Prop) (K : Exit → St → Prop) : vc Tryd.prog cEqP code_26_1_1_0_1_0_0 (thenK (fun s => L (St.norm [] [0, 1, 12, 13] [] s)) K) (St.mk 26 [(0, .slice (prv a) 4 .ro), (1, .slice (prv b) 4 .ro), (12, .int .i64 (n : Int)), (13, .int .i64 (i : Int))] [] [] (Sto.empty)) =
  (brV (hold (decide ((↑i : Int) < (↑n : Int)))) true (gb (decide ((0 : Int) ≤ (↑i : Int) ∧ (↑i : Int) < (↑(List.length (prv a)) : Int))) (gb (decide (4 ≤ List.length (elemAt (prv a) (↑i : Int)) ∧ 0 < 4) && (etaOk Sh.str (List.getD (elemAt (prv a) (↑i : Int)) 0 AVal.undef) && (etaOk (Sh.int IntKind.i64) (List.getD (elemAt (prv a) (↑i : Int)) 1 AVal.undef) && (etaOk (Sh.int IntKind.i64) (List.getD (elemAt (prv a) (↑i : Int)) 2 AVal.undef) && (etaOk Sh.str (List.getD (elemAt (prv a) (↑i : Int)) 3 AVal.undef) && true))))) (gb (decide ((0 : Int) ≤ (↑i : Int) ∧ (↑i : Int) < (↑(List.length (prv b)) : Int))) (gb (decide (4 ≤ List.length (elemAt (prv b) (↑i : Int)) ∧ 0 < 4) && (etaOk Sh.str (List.getD (elemAt (prv b) (↑i : Int)) 0 AVal.undef) && (etaOk (Sh.int IntKind.i64) (List.getD (elemAt (prv b) (↑i : Int)) 1 AVal.undef) && (etaOk (Sh.int IntKind.i64) (List.getD (elemAt (prv b) (↑i : Int)) 2 AVal.undef) && (etaOk Sh.str (List.getD (elemAt (prv b) (↑i : Int)) 3 AVal.undef) && true))))) (brV (!hold (AVal.strOf (List.getD (elemAt (prv a) (↑i : Int)) 0 AVal.undef) == AVal.strOf (List.getD (elemAt (prv b) (↑i : Int)) 0 AVal.undef) && (AVal.intOf (List.getD (elemAt (prv a) (↑i : Int)) 1 AVal.undef) == AVal.intOf (List.getD (elemAt (prv b) (↑i : Int)) 1 AVal.undef) && (AVal.intOf (List.getD (elemAt (prv a) (↑i : Int)) 2 AVal.undef) == AVal.intOf (List.getD (elemAt (prv b) (↑i : Int)) 2 AVal.undef) && (AVal.strOf (List.getD (elemAt (prv a) (↑i : Int)) 3 AVal.undef) == AVal.strOf (List.getD (elemAt (prv b) (↑i : Int)) 3 AVal.undef) && true))))) true (K Exit.ret (St.mk 26 [(0, AVal.slice (prv a) 4 Tag.ro), (1, AVal.slice (prv b) 4 Tag.ro), (12, AVal.int IntKind.i64 (↑n : Int)), (13, AVal.int IntKind.i64 (↑i : Int)), (14, AVal.bool (hold (decide ((↑i : Int) < (↑n : Int))))), (5, AVal.int IntKind.i64 (↑i : Int)), (24, AVal.bool !hold (AVal.strOf (List.getD (elemAt (prv a) (↑i : Int)) 0 AVal.undef) == AVal.strOf (List.getD (elemAt (prv b) (↑i : Int)) 0 AVal.undef) && (AVal.intOf (List.getD (elemAt (prv a) (↑i : Int)) 1 AVal.undef) == AVal.intOf (List.getD (elemAt (prv b) (↑i : Int)) 1 AVal.undef) && (AVal.intOf (List.getD (elemAt (prv a) (↑i : Int)) 2 AVal.undef) == AVal.intOf (List.getD (elemAt (prv b) (↑i : Int)) 2 AVal.undef) && (AVal.strOf (List.getD (elemAt (prv a) (↑i : Int)) 3 AVal.undef) == AVal.strOf (List.getD (elemAt (prv b) (↑i : Int)) 3 AVal.undef) && true))))), (4, AVal.bool false)] [] [] Sto.empty)) (L (St.mk 26 [(0, AVal.slice (prv a) 4 Tag.ro), (1, AVal.slice (prv b) 4 Tag.ro), (12, AVal.int IntKind.i64 (↑n : Int)), (13, AVal.int IntKind.i64 (IntKind.wrap IntKind.i64 ((↑i : Int) + (1 : Int))))] [] [] Sto.empty))))))) (K (Exit.exit 0) (St.mk 26 [(0, AVal.slice (prv a) 4 Tag.ro), (1, AVal.slice (prv b) 4 Tag.ro), (12, AVal.int IntKind.i64 (↑n : Int)), (13, AVal.int IntKind.i64 (↑i : Int)), (14, AVal.bool (hold (decide ((↑i : Int) < (↑n : Int)))))] [] [] Sto.empty))) := by kernel_rfl
theorem eqS_i (a b : List Txt) (Q : AVal → Sto → Prop) (ho : OrcOk Tryd.prog cEqS) (h : brV (hold ((↑(List.length (strv a)) : Int) != (↑(List.length (strv b)) : Int))) true (Q (AVal.bool false) Sto.empty) (loopV (fun s => St.norm [] [0, 1, 12, 13] [] s) (vc Tryd.prog cEqS code_27_1_1_0_1_0_0) (blockK 0 (thenK (vc Tryd.prog cEqS code_27_1_1_1 (endK Tryd.prog (Array.toList (Go.Func.results Tryd.f27)) Q)) (endK Tryd.prog (Array.toList (Go.Func.results Tryd.f27)) Q))) (St.mk 26 [(0, AVal.slice (strv a) 1 Tag.ro), (1, AVal.slice (strv b) 1 Tag.ro), (12, AVal.int IntKind.i64 (↑(List.length (strv a)) : Int)), (13, AVal.int IntKind.i64 (0 : Int))] [] [] Sto.empty))) : ACall Tryd.prog 27 [.slice (strv a) 1 .ro, .slice (strv b) 1 .ro] (Sto.empty) Q :=
  ACall.intro hmix Tryd.func27 (c := code_27_) (by kernel_rfl) cEqS ho (Nat.le_of_ble_eq_true (by kernel_rfl)) (Eq.mpr (by kernel_rfl) h)
noncomputable def eqSL_S (a b : List Txt) (n i : Nat) : St := St.mk 26 [(0, .slice (strv a) 1 .ro), (1, .slice (strv b) 1 .ro), (12, .int .i64 (n : Int)), (13, .int .i64 (i : Int))] [] [] (Sto.empty)
noncomputable abbrev eqSL_C : Code := code_27_1_1_0_1_0_0
theorem eqSL_r (a b : List Txt) (n i : Nat) (L : St → Prop) (K : Exit → St → Prop) : vc Tryd.prog cEqS code_27_1_1_0_1_0_0 (thenK (fun s => L (St.norm [] [0, 1, 12, 13] [] s)) K) (St.mk 26 [(0, .slice (strv a) 1 .ro), (1, .slice (strv b) 1 .ro), (12, .int .i64 (n : Int)), (13, .int .i64 (i : Int))] [] [] (Sto.empty)) =
  (brV (hold (decide ((↑i : Int) < (↑n : Int)))) true (gb (decide ((0 : Int) ≤ (↑i : Int) ∧ (↑i : Int) < (↑(List.length (strv a)) : Int))) (gb (decide (1 ≤ List.length (elemAt (strv a) (↑i : Int)) ∧ 0 < 1) && etaOk Sh.str (List.getD (elemAt (strv a) (↑i : Int)) 0 AVal.undef)) (gb (decide ((0 : Int) ≤ (↑i : Int) ∧ (↑i : Int) < (↑(List.length (strv b)) : Int))) (gb (decide (1 ≤ List.length (elemAt (strv b) (↑i : Int)) ∧ 0 < 1) && etaOk Sh.str (List.getD (elemAt (strv b) (↑i : Int)) 0 AVal.undef)) (brV (hold !AVal.strOf (List.getD (elemAt (strv a) (↑i : Int)) 0 AVal.undef) == AVal.strOf (List.getD (elemAt (strv b) (↑i : Int)) 0 AVal.undef)) true (K Exit.ret (St.mk 26 [(0, AVal.slice (strv a) 1 Tag.ro), (1, AVal.slice (strv b) 1 Tag.ro), (12, AVal.int IntKind.i64 (↑n : Int)), (13, AVal.int IntKind.i64 (↑i : Int)), (14, AVal.bool (hold (decide ((↑i : Int) < (↑n : Int))))), (5, AVal.int IntKind.i64 (↑i : Int)), (24, AVal.bool (hold !AVal.strOf (List.getD (elemAt (strv a) (↑i : Int)) 0 AVal.undef) == AVal.strOf (List.getD (elemAt (strv b) (↑i : Int)) 0 AVal.undef))), (4, AVal.bool false)] [] [] Sto.empty)) (L (St.mk 26 [(0, AVal.slice (strv a) 1 Tag.ro), (1, AVal.slice (strv b) 1 Tag.ro), (12, AVal.int IntKind.i64 (↑n : Int)), (13, AVal.int IntKind.i64 (IntKind.wrap IntKind.i64 ((↑i : Int) + (1 : Int))))] [] [] Sto.empty))))))) (K (Exit.exit 0) (St.mk 26 [(0, AVal.slice (strv a) 1 Tag.ro), (1, AVal.slice (strv b) 1 Tag.ro), (12, AVal.int IntKind.i64 (↑n : Int)), (13, AVal.int IntKind.i64 (↑i : Int)), (14, AVal.bool (hold (decide ((↑i : Int) < (↑n : Int)))))] [] [] Sto.empty))) := by kernel_rfl
theorem eqN_i (a b : List Nd) (Q : AVal → Sto → Prop) (ho : OrcOk Tryd.prog cEqN) (h : brV (hold ((↑(List.length (ndv a)) : Int) != (↑(List.length (ndv b)) : Int))) true (Q (AVal.bool false) Sto.empty) (loopV (fun s => St.norm [] [0, 1, 12, 13] [] s) (vc Tryd.prog cEqN code_28_1_1_0_1_0_0) (blockK 0 (thenK (vc Tryd.prog cEqN code_28_1_1_1 (endK Tryd.prog (Array.toList (Go.Func.results Tryd.f28)) Q)) (endK Tryd.prog (Array.toList (Go.Func.results Tryd.f28)) Q))) (St.mk 26 [(0, AVal.slice (ndv a) 8 Tag.ro), (1, AVal.slice (ndv b) 8 Tag.ro), (12, AVal.int IntKind.i64 (↑(List.length (ndv a)) : Int)), (13, AVal.int IntKind.i64 (0 : Int))] [] [] Sto.empty))) : ACall Tryd.prog 28 [.slice (ndv a) 8 .ro, .slice (ndv b) 8 .ro] (Sto.empty) Q :=
  ACall.intro hmix Tryd.func28 (c := code_28_) (by kernel_rfl) cEqN ho (Nat.le_of_ble_eq_true (by kernel_rfl)) (Eq.mpr (by kernel_rfl) h)
noncomputable def eqNL_S (a b : List Nd) (n i : Nat) : St := St.mk 26 [(0, .slice (ndv a) 8 .ro), (1, .slice (ndv b) 8 .ro), (12, .int .i64 (n : Int)), (13, .int .i64 (i : Int))] [] [] (Sto.empty)
noncomputable abbrev eqNL_C : Code := code_28_1_1_0_1_0_0
theorem eqNL_r (a b : List Nd) (n i : Nat) (L : St → Prop) (K : Exit → St → Prop) : vc Tryd.prog cEqN code_28_1_1_0_1_0_0 (thenK (fun s => L (St.norm [] [0, 1, 12, 13] [] s)) K) (St.mk 26 [(0, .slice (ndv a) 8 .ro), (1, .slice (ndv b) 8 .ro), (12, .int .i64 (n : Int)), (13, .int .i64 (i : Int))] [] [] (Sto.empty)) =
  (brV (hold (decide ((↑i : Int) < (↑n : Int)))) true (gb (decide ((0 : Int) ≤ (↑i : Int) ∧ (↑i : Int) < (↑(List.length (ndv a)) : Int))) (gb (decide (8 ≤ List.length (elemAt (ndv a) (↑i : Int)) ∧ 0 < 8) && (etaOk Sh.str (List.getD (elemAt (ndv a) (↑i : Int)) 0 AVal.undef) && (etaOk Sh.str (List.getD (elemAt (ndv a) (↑i : Int)) 1 AVal.undef) && (etaOk (Sh.int IntKind.i64) (List.getD (elemAt (ndv a) (↑i : Int)) 2 AVal.undef) && (etaOk (Sh.int IntKind.i64) (List.getD (elemAt (ndv a) (↑i : Int)) 3 AVal.undef) && (etaOk Sh.str (List.getD (elemAt (ndv a) (↑i : Int)) 4 AVal.undef) && (etaOk (Sh.int IntKind.i64) (List.getD (elemAt (ndv a) (↑i : Int)) 5 AVal.undef) && (etaOk (Sh.int IntKind.i64) (List.getD (elemAt (ndv a) (↑i : Int)) 6 AVal.undef) && (etaOk Sh.str (List.getD (elemAt (ndv a) (↑i : Int)) 7 AVal.undef) && true))))))))) (gb (decide ((0 : Int) ≤ (↑i : Int) ∧ (↑i : Int) < (↑(List.length (ndv b)) : Int))) (gb (decide (8 ≤ List.length (elemAt (ndv b) (↑i : Int)) ∧ 0 < 8) && (etaOk Sh.str (List.getD (elemAt (ndv b) (↑i : Int)) 0 AVal.undef) && (etaOk Sh.str (List.getD (elemAt (ndv b) (↑i : Int)) 1 AVal.undef) && (etaOk (Sh.int IntKind.i64) (List.getD (elemAt (ndv b) (↑i : Int)) 2 AVal.undef) && (etaOk (Sh.int IntKind.i64) (List.getD (elemAt (ndv b) (↑i : Int)) 3 AVal.undef) && (etaOk Sh.str (List.getD (elemAt (ndv b) (↑i : Int)) 4 AVal.undef) && (etaOk (Sh.int IntKind.i64) (List.getD (elemAt (ndv b) (↑i : Int)) 5 AVal.undef) && (etaOk (Sh.int IntKind.i64) (List.getD (elemAt (ndv b) (↑i : Int)) 6 AVal.undef) && (etaOk Sh.str (List.getD (elemAt (ndv b) (↑i : Int)) 7 AVal.undef) && true))))))))) (brV (!hold (AVal.strOf (List.getD (elemAt (ndv a) (↑i : Int)) 0 AVal.undef) == AVal.strOf (List.getD (elemAt (ndv b) (↑i : Int)) 0 AVal.undef) && (AVal.strOf (List.getD (elemAt (ndv a) (↑i : Int)) 1 AVal.undef) == AVal.strOf (List.getD (elemAt (ndv b) (↑i : Int)) 1 AVal.undef) && (AVal.intOf (List.getD (elemAt (ndv a) (↑i : Int)) 2 AVal.undef) == AVal.intOf (List.getD (elemAt (ndv b) (↑i : Int)) 2 AVal.undef) && (AVal.intOf (List.getD (elemAt (ndv a) (↑i : Int)) 3 AVal.undef) == AVal.intOf (List.getD (elemAt (ndv b) (↑i : Int)) 3 AVal.undef) && (AVal.strOf (List.getD (elemAt (ndv a) (↑i : Int)) 4 AVal.undef) == AVal.strOf (List.getD (elemAt (ndv b) (↑i : Int)) 4 AVal.undef) && (AVal.intOf (List.getD (elemAt (ndv a) (↑i : Int)) 5 AVal.undef) == AVal.intOf (List.getD (elemAt (ndv b) (↑i : Int)) 5 AVal.undef) && (AVal.intOf (List.getD (elemAt (ndv a) (↑i : Int)) 6 AVal.undef) == AVal.intOf (List.getD (elemAt (ndv b) (↑i : Int)) 6 AVal.undef) && (AVal.strOf (List.getD (elemAt (ndv a) (↑i : Int)) 7 AVal.undef) == AVal.strOf (List.getD (elemAt (ndv b) (↑i : Int)) 7 AVal.undef) && true))))))))) true (K Exit.ret (St.mk 26 [(0, AVal.slice (ndv a) 8 Tag.ro), (1, AVal.slice (ndv b) 8 Tag.ro), (12, AVal.int IntKind.i64 (↑n : Int)), (13, AVal.int IntKind.i64 (↑i : Int)), (14, AVal.bool (hold (decide ((↑i : Int) < (↑n : Int))))), (5, AVal.int IntKind.i64 (↑i : Int)), (24, AVal.bool !hold (AVal.strOf (List.getD (elemAt (ndv a) (↑i : Int)) 0 AVal.undef) == AVal.strOf (List.getD (elemAt (ndv b) (↑i : Int)) 0 AVal.undef) && (AVal.strOf (List.getD (elemAt (ndv a) (↑i : Int)) 1 AVal.undef) == AVal.strOf (List.getD (elemAt (ndv b) (↑i : Int)) 1 AVal.undef) && (AVal.intOf (List.getD (elemAt (ndv a) (↑i : Int)) 2 AVal.undef) == AVal.intOf (List.getD (elemAt (ndv b) (↑i : Int)) 2 AVal.undef) && (AVal.intOf (List.getD (elemAt (ndv a) (↑i : Int)) 3 AVal.undef) == AVal.intOf (List.getD (elemAt (ndv b) (↑i : Int)) 3 AVal.undef) && (AVal.strOf (List.getD (elemAt (ndv a) (↑i : Int)) 4 AVal.undef) == AVal.strOf (List.getD (elemAt (ndv b) (↑i : Int)) 4 AVal.undef) && (AVal.intOf (List.getD (elemAt (ndv a) (↑i : Int)) 5 AVal.undef) == AVal.intOf (List.getD (elemAt (ndv b) (↑i : Int)) 5 AVal.undef) && (AVal.intOf (List.getD (elemAt (ndv a) (↑i : Int)) 6 AVal.undef) == AVal.intOf (List.getD (elemAt (ndv b) (↑i : Int)) 6 AVal.undef) && (AVal.strOf (List.getD (elemAt (ndv a) (↑i : Int)) 7 AVal.undef) == AVal.strOf (List.getD (elemAt (ndv b) (↑i : Int)) 7 AVal.undef) && true))))))))), (4, AVal.bool false)] [] [] Sto.empty)) (L (St.mk 26 [(0, AVal.slice (ndv a) 8 Tag.ro), (1, AVal.slice (ndv b) 8 Tag.ro), (12, AVal.int IntKind.i64 (↑n : Int)), (13, AVal.int IntKind.i64 (IntKind.wrap IntKind.i64 ((↑i : Int) + (1 : Int))))] [] [] Sto.empty))))))) (K (Exit.exit 0) (St.mk 26 [(0, AVal.slice (ndv a) 8 Tag.ro), (1, AVal.slice (ndv b) 8 Tag.ro), (12, AVal.int IntKind.i64 (↑n : Int)), (13, AVal.int IntKind.i64 (↑i : Int)), (14, AVal.bool (hold (decide ((↑i : Int) < (↑n : Int)))))] [] [] Sto.empty))) := by kernel_rfl
theorem eqK_i (a b : List Lk) (Q : AVal → Sto → Prop) (ho : OrcOk Tryd.prog cEqK) (h : brV (hold ((↑(List.length (lkv a)) : Int) != (↑(List.length (lkv b)) : Int))) true (Q (AVal.bool false) Sto.empty) (loopV (fun s => St.norm [] [0, 1, 12, 13] [] s) (vc Tryd.prog cEqK code_29_1_1_0_1_0_0) (blockK 0 (thenK (vc Tryd.prog cEqK code_29_1_1_1 (endK Tryd.prog (Array.toList (Go.Func.results Tryd.f29)) Q)) (endK Tryd.prog (Array.toList (Go.Func.results Tryd.f29)) Q))) (St.mk 26 [(0, AVal.slice (lkv a) 3 Tag.ro), (1, AVal.slice (lkv b) 3 Tag.ro), (12, AVal.int IntKind.i64 (↑(List.length (lkv a)) : Int)), (13, AVal.int IntKind.i64 (0 : Int))] [] [] Sto.empty))) : ACall Tryd.prog 29 [.slice (lkv a) 3 .ro, .slice (lkv b) 3 .ro] (Sto.empty) Q :=
  ACall.intro hmix Tryd.func29 (c := code_29_) (by kernel_rfl) cEqK ho (Nat.le_of_ble_eq_true (by kernel_rfl)) (Eq.mpr (by kernel_rfl) h)
noncomputable def eqKL_S (a b : List Lk) (n i : Nat) : St := St.mk 26 [(0, .slice (lkv a) 3 .ro), (1, .slice (lkv b) 3 .ro), (12, .int .i64 (n : Int)), (13, .int .i64 (i : Int))] [] [] (Sto.empty)
noncomputable abbrev eqKL_C : Code := code_29_1_1_0_1_0_0
theorem eqKL_r (a b : List Lk) (n i : Nat) (L : St → Prop) (K : Exit → St → Prop) : vc Tryd.prog cEqK code_29_1_1_0_1_0_0 (thenK (fun s => L (St.norm [] [0, 1, 12, 13] [] s)) K) (St.mk 26 [(0, .slice (lkv a) 3 .ro), (1, .slice (lkv b) 3 .ro), (12, .int .i64 (n : Int)), (13, .int .i64 (i : Int))] [] [] (Sto.empty)) =
  (brV (hold (decide ((↑i : Int) < (↑n : Int)))) true (gb (decide ((0 : Int) ≤ (↑i : Int) ∧ (↑i : Int) < (↑(List.length (lkv a)) : Int))) (gb (decide (3 ≤ List.length (elemAt (lkv a) (↑i : Int)) ∧ 0 < 3) && (etaOk (Sh.int IntKind.i64) (List.getD (elemAt (lkv a) (↑i : Int)) 0 AVal.undef) && (etaOk (Sh.int IntKind.i64) (List.getD (elemAt (lkv a) (↑i : Int)) 1 AVal.undef) && (etaOk Sh.str (List.getD (elemAt (lkv a) (↑i : Int)) 2 AVal.undef) && true)))) (gb (decide ((0 : Int) ≤ (↑i : Int) ∧ (↑i : Int) < (↑(List.length (lkv b)) : Int))) (gb (decide (3 ≤ List.length (elemAt (lkv b) (↑i : Int)) ∧ 0 < 3) && (etaOk (Sh.int IntKind.i64) (List.getD (elemAt (lkv b) (↑i : Int)) 0 AVal.undef) && (etaOk (Sh.int IntKind.i64) (List.getD (elemAt (lkv b) (↑i : Int)) 1 AVal.undef) && (etaOk Sh.str (List.getD (elemAt (lkv b) (↑i : Int)) 2 AVal.undef) && true)))) (brV (!hold (AVal.intOf (List.getD (elemAt (lkv a) (↑i : Int)) 0 AVal.undef) == AVal.intOf (List.getD (elemAt (lkv b) (↑i : Int)) 0 AVal.undef) && (AVal.intOf (List.getD (elemAt (lkv a) (↑i : Int)) 1 AVal.undef) == AVal.intOf (List.getD (elemAt (lkv b) (↑i : Int)) 1 AVal.undef) && (AVal.strOf (List.getD (elemAt (lkv a) (↑i : Int)) 2 AVal.undef) == AVal.strOf (List.getD (elemAt (lkv b) (↑i : Int)) 2 AVal.undef) && true)))) true (K Exit.ret (St.mk 26 [(0, AVal.slice (lkv a) 3 Tag.ro), (1, AVal.slice (lkv b) 3 Tag.ro), (12, AVal.int IntKind.i64 (↑n : Int)), (13, AVal.int IntKind.i64 (↑i : Int)), (14, AVal.bool (hold (decide ((↑i : Int) < (↑n : Int))))), (5, AVal.int IntKind.i64 (↑i : Int)), (24, AVal.bool !hold (AVal.intOf (List.getD (elemAt (lkv a) (↑i : Int)) 0 AVal.undef) == AVal.intOf (List.getD (elemAt (lkv b) (↑i : Int)) 0 AVal.undef) && (AVal.intOf (List.getD (elemAt (lkv a) (↑i : Int)) 1 AVal.undef) == AVal.intOf (List.getD (elemAt (lkv b) (↑i : Int)) 1 AVal.undef) && (AVal.strOf (List.getD (elemAt (lkv a) (↑i : Int)) 2 AVal.undef) == AVal.strOf (List.getD (elemAt (lkv b) (↑i : Int)) 2 AVal.undef) && true)))), (4, AVal.bool false)] [] [] Sto.empty)) (L (St.mk 26 [(0, AVal.slice (lkv a) 3 Tag.ro), (1, AVal.slice (lkv b) 3 Tag.ro), (12, AVal.int IntKind.i64 (↑n : Int)), (13, AVal.int IntKind.i64 (IntKind.wrap IntKind.i64 ((↑i : Int) + (1 : Int))))] [] [] Sto.empty))))))) (K (Exit.exit 0) (St.mk 26 [(0, AVal.slice (lkv a) 3 Tag.ro), (1, AVal.slice (lkv b) 3 Tag.ro), (12, AVal.int IntKind.i64 (↑n : Int)), (13, AVal.int IntKind.i64 (↑i : Int)), (14, AVal.bool (hold (decide ((↑i : Int) < (↑n : Int)))))] [] [] Sto.empty))) := by kernel_rfl
end Go.Proofs.YtcijjgfadkflmaaDoor
end

section
set_option maxRecDepth 100000
set_option maxHeartbeats 0
set_option linter.unusedVariables false
namespace Go.Proofs.YtcijjgfadkflmaaDoor
open Go.AL Go.Proofs
noncomputable def cWord (pk : Prop) : Cfg := { keep := [0, 2, 3, 9], cut := [], pan := pk }
noncomputable def cPeek : Cfg := { keep := [0, 1, 4], cut := [] }
noncomputable def cMust (pk : Prop) : Cfg := { keep := [0, 1, 7], cut := [], pan := pk, orc := ofList [wordE] }
noncomputable def cName (pk : Prop) : Cfg := { keep := [0, 2, 3, 9], cut := [], pan := pk, orc := ofList [wordE, Lt.rightE] }
noncomputable def cValue (pk : Prop) : Cfg := { keep := [0, 2, 3, 4, 12], cut := [], pan := pk, orc := ofList [wordE, V.readE] }
noncomputable def cNumber (pk : Prop) : Cfg := { keep := [0, 2], cut := [], pan := pk, orc := ofList [valueE, numberPE] }
noncomputable def cLabel (pk : Prop) : Cfg := { keep := [0, 2, 4], cut := [], pan := pk, orc := ofList [wordE, peekE, nameE] }
noncomputable def cEdge (pk : Prop) : Cfg := { keep := [0, 2, 4], cut := [], pan := pk, orc := ofList [wordE, peekE, mustE] }
noncomputable def cNode (pk : Prop) : Cfg := { keep := [0, 2, 3, 17], cut := [], pan := pk, orc := ofList [nameE, peekE, valueE] }
noncomputable def code_15_ : Code := (Tryd.f15.body).getD .skip
noncomputable def code_36_ : Code := (Tryd.f36.body).getD .skip
noncomputable def code_37_ : Code := (Tryd.f37.body).getD .skip
noncomputable def code_39_ : Code := (Tryd.f39.body).getD .skip
noncomputable def code_40_ : Code := (Tryd.f40.body).getD .skip
noncomputable def code_41_ : Code := (Tryd.f41.body).getD .skip
noncomputable def code_54_ : Code := (Tryd.f54.body).getD .skip
noncomputable def code_55_ : Code := (Tryd.f55.body).getD .skip
noncomputable def code_56_ : Code := (Tryd.f56.body).getD .skip
theorem word_i (pk : Prop) (l : List Txt) (Q : AVal → Sto → Prop) (ho : OrcOk Tryd.prog (cWord pk)) (h : brV (hold ((↑(List.length (strv l)) : Int) == (0 : Int))) true pk (gb (decide ((0 : Int) ≤ (0 : Int) ∧ (0 : Int) < (↑(List.length (strv l)) : Int))) (gb (decide (1 ≤ List.length (elemAt (strv l) (0 : Int)) ∧ 0 < 1) && etaOk Sh.str (List.getD (elemAt (strv l) (0 : Int)) 0 AVal.undef)) (gb (decide ((0 : Int) ≤ (1 : Int) ∧ (1 : Int) ≤ (↑(List.length (strv l)) : Int) ∧ (↑(List.length (strv l)) : Int) ≤ (↑(List.length (strv l)) : Int))) (Q (AVal.str (AVal.strOf (List.getD (elemAt (strv l) (0 : Int)) 0 AVal.undef))) (Sto.set (Sto.one (AObj.cells [AVal.slice (strv l) 1 Tag.ro])) 0 (AObj.cells [AVal.slice (List.take (Int.toNat (↑(List.length (strv l)) : Int) - 1) (List.drop 1 (strv l))) 1 Tag.ro]))))))) : XCall Tryd.prog 15 [.ptr (.out 0) 0] (Sto.one (.cells [.slice (strv l) 1 .ro])) pk Q :=
  XCall.intro hmix Tryd.func15 (c := code_15_) (by kernel_rfl) (cWord pk) ho (Nat.le_of_ble_eq_true (by kernel_rfl)) (Eq.mpr (by kernel_rfl) h)
theorem peek_i (l : List Txt) (w : Txt) (Q : AVal → Sto → Prop) (ho : OrcOk Tryd.prog cPeek) (h : brV (hold (decide ((0 : Int) < (↑(List.length (strv l)) : Int)))) true (gb (decide ((0 : Int) ≤ (0 : Int) ∧ (0 : Int) < (↑(List.length (strv l)) : Int))) (gb (decide (1 ≤ List.length (elemAt (strv l) (0 : Int)) ∧ 0 < 1) && etaOk Sh.str (List.getD (elemAt (strv l) (0 : Int)) 0 AVal.undef)) (Q (AVal.bool (hold (AVal.strOf (List.getD (elemAt (strv l) (0 : Int)) 0 AVal.undef) == w))) (Sto.one (AObj.cells [AVal.slice (strv l) 1 Tag.ro]))))) (Q (AVal.bool false) (Sto.one (AObj.cells [AVal.slice (strv l) 1 Tag.ro])))) : ACall Tryd.prog 55 [.ptr (.out 0) 0, .str w] (Sto.one (.cells [.slice (strv l) 1 .ro])) Q :=
  ACall.intro hmix Tryd.func55 (c := code_55_) (by kernel_rfl) cPeek ho (Nat.le_of_ble_eq_true (by kernel_rfl)) (Eq.mpr (by kernel_rfl) h)
theorem must_i (pk : Prop) (l : List Txt) (w : Txt) (Q : AVal → Sto → Prop) (ho : OrcOk Tryd.prog (cMust pk)) (h : ∀ (y : Rd (List UInt8)), y = rWord (List.map AVal.strOf (strv l)) → gb (okR (strv l) 1) (brV (Option.isNone y) true pk (brV (hold !Prod.fst (Option.getD y ([], [])) == w) true pk (Q (AVal.tuple []) (Sto.set (Sto.one (AObj.cells [AVal.slice (strv l) 1 Tag.ro])) 0 (AObj.cells [AVal.slice (strv (Prod.snd (Option.getD y ([], [])))) 1 Tag.ro])))))) : XCall Tryd.prog 56 [.ptr (.out 0) 0, .str w] (Sto.one (.cells [.slice (strv l) 1 .ro])) pk Q :=
  XCall.intro hmix Tryd.func56 (c := code_56_) (by kernel_rfl) (cMust pk) ho (Nat.le_of_ble_eq_true (by kernel_rfl)) (Eq.mpr (by kernel_rfl) h)
theorem name_i (pk : Prop) (l : List Txt) (Q : AVal → Sto → Prop) (ho : OrcOk Tryd.prog (cName pk)) (h : ∀ (y : Rd (List UInt8)), y = rWord (List.map AVal.strOf (strv l)) → gb (okR (strv l) 1) (brV (Option.isNone y) true pk (gb (List.all [AVal.str (Prod.fst (Option.getD y ([], [])))] strIs && (Lt.lenOk 1 && List.all [AVal.str (Prod.fst (Option.getD y ([], [])))] Lt.strOk)) (brV (!hold (List.all [Prod.fst (Option.getD y ([], []))] nameT)) true pk (Q (AVal.str (Prod.fst (Option.getD y ([], [])))) (Sto.set (Sto.one (AObj.cells [AVal.slice (strv l) 1 Tag.ro])) 0 (AObj.cells [AVal.slice (strv (Prod.snd (Option.getD y ([], [])))) 1 Tag.ro]))))))) : XCall Tryd.prog 37 [.ptr (.out 0) 0] (Sto.one (.cells [.slice (strv l) 1 .ro])) pk Q :=
  XCall.intro hmix Tryd.func37 (c := code_37_) (by kernel_rfl) (cName pk) ho (Nat.le_of_ble_eq_true (by kernel_rfl)) (Eq.mpr (by kernel_rfl) h)
theorem value_i (pk : Prop) (l : List Txt) (Q : AVal → Sto → Prop) (ho : OrcOk Tryd.prog (cValue pk)) (h : ∀ (y : Rd (List UInt8)), y = rWord (List.map AVal.strOf (strv l)) → gb (okR (strv l) 1) (brV (Option.isNone y) true pk (∀ (y_1 : Option Vl), y_1 = readV (Prod.fst (Option.getD y ([], []))) → ∀ (y_2 : Vl), y_2 = Option.getD y_1 (Vl.mk (0 : Int) (0 : Int) []) → gb (V.lenT (Prod.fst (Option.getD y ([], [])))) (brV (hold ((if Option.isSome y_1 = true then (0 : Int) else (10 : Int)) != (0 : Int))) true pk (Q (AVal.agg [AVal.int IntKind.i64 (Vl.k y_2), AVal.int IntKind.i64 (Vl.n y_2), AVal.str (Vl.s y_2)]) (Sto.set (Sto.one (AObj.cells [AVal.slice (strv l) 1 Tag.ro])) 0 (AObj.cells [AVal.slice (strv (Prod.snd (Option.getD y ([], [])))) 1 Tag.ro]))))))) : XCall Tryd.prog 54 [.ptr (.out 0) 0] (Sto.one (.cells [.slice (strv l) 1 .ro])) pk Q :=
  XCall.intro hmix Tryd.func54 (c := code_54_) (by kernel_rfl) (cValue pk) ho (Nat.le_of_ble_eq_true (by kernel_rfl)) (Eq.mpr (by kernel_rfl) h)
theorem number_i (pk : Prop) (l : List Txt) (Q : AVal → Sto → Prop) (ho : OrcOk Tryd.prog (cNumber pk)) (h : ∀ (y : Rd Vl), y = rValue (List.map AVal.strOf (strv l)) → gb (okR (strv l) 1) (brV (Option.isNone y) true pk (brV (!hold (decide (Vl.k (Prod.fst (Option.getD y (Vl.mk (0 : Int) (0 : Int) [], []))) = (1 : Int) ∧ List.length (Vl.s (Prod.fst (Option.getD y (Vl.mk (0 : Int) (0 : Int) [], [])))) = 0))) true pk (Q (AVal.int IntKind.i64 (Vl.n (Prod.fst (Option.getD y (Vl.mk (0 : Int) (0 : Int) [], []))))) (Sto.set (Sto.one (AObj.cells [AVal.slice (strv l) 1 Tag.ro])) 0 (AObj.cells [AVal.slice (strv (Prod.snd (Option.getD y (Vl.mk (0 : Int) (0 : Int) [], [])))) 1 Tag.ro])))))) : XCall Tryd.prog 36 [.ptr (.out 0) 0] (Sto.one (.cells [.slice (strv l) 1 .ro])) pk Q :=
  XCall.intro hmix Tryd.func36 (c := code_36_) (by kernel_rfl) (cNumber pk) ho (Nat.le_of_ble_eq_true (by kernel_rfl)) (Eq.mpr (by kernel_rfl) h)
theorem label_i (pk : Prop) (l : List Txt) (Q : AVal → Sto → Prop) (ho : OrcOk Tryd.prog (cLabel pk)) (h : gb (okR (strv l) 1) (brV (hold (decide (List.head? (List.map AVal.strOf (strv l)) = some [(62 : UInt8)]))) true (∀ (y : Rd (List UInt8)), y = rWord (List.map AVal.strOf (strv l)) → gb (okR (strv l) 1) (brV (Option.isNone y) true pk (Q (AVal.str []) (Sto.set (Sto.one (AObj.cells [AVal.slice (strv l) 1 Tag.ro])) 0 (AObj.cells [AVal.slice (strv (Prod.snd (Option.getD y ([], [])))) 1 Tag.ro]))))) (∀ (y : Rd (List UInt8)), y = rName (List.map AVal.strOf (strv l)) → gb (okR (strv l) 1) (brV (Option.isNone y) true pk (Q (AVal.str (Prod.fst (Option.getD y ([], [])))) (Sto.set (Sto.one (AObj.cells [AVal.slice (strv l) 1 Tag.ro])) 0 (AObj.cells [AVal.slice (strv (Prod.snd (Option.getD y ([], [])))) 1 Tag.ro]))))))) : XCall Tryd.prog 40 [.ptr (.out 0) 0] (Sto.one (.cells [.slice (strv l) 1 .ro])) pk Q :=
  XCall.intro hmix Tryd.func40 (c := code_40_) (by kernel_rfl) (cLabel pk) ho (Nat.le_of_ble_eq_true (by kernel_rfl)) (Eq.mpr (by kernel_rfl) h)
theorem edge_i (pk : Prop) (l : List Txt) (Q : AVal → Sto → Prop) (ho : OrcOk Tryd.prog (cEdge pk)) (h : gb (okR (strv l) 1) (brV (hold (decide (List.head? (List.map AVal.strOf (strv l)) = some [(101 : UInt8), (100 : UInt8), (103 : UInt8), (101 : UInt8)]))) true (∀ (y : Rd (List UInt8)), y = rWord (List.map AVal.strOf (strv l)) → gb (okR (strv l) 1) (brV (Option.isNone y) true pk (Q (AVal.bool true) (Sto.set (Sto.one (AObj.cells [AVal.slice (strv l) 1 Tag.ro])) 0 (AObj.cells [AVal.slice (strv (Prod.snd (Option.getD y ([], [])))) 1 Tag.ro]))))) (∀ (y : Rd Unit), y = rMust [(118 : UInt8), (101 : UInt8), (114 : UInt8), (116 : UInt8), (101 : UInt8), (120 : UInt8)] (List.map AVal.strOf (strv l)) → gb (okR (strv l) 1) (brV (Option.isNone y) true pk (Q (AVal.bool false) (Sto.set (Sto.one (AObj.cells [AVal.slice (strv l) 1 Tag.ro])) 0 (AObj.cells [AVal.slice (strv (Prod.snd (Option.getD y (PUnit.unit, [])))) 1 Tag.ro]))))))) : XCall Tryd.prog 39 [.ptr (.out 0) 0] (Sto.one (.cells [.slice (strv l) 1 .ro])) pk Q :=
  XCall.intro hmix Tryd.func39 (c := code_39_) (by kernel_rfl) (cEdge pk) ho (Nat.le_of_ble_eq_true (by kernel_rfl)) (Eq.mpr (by kernel_rfl) h)
theorem node_i (pk : Prop) (l : List Txt) (Q : AVal → Sto → Prop) (ho : OrcOk Tryd.prog (cNode pk)) (h : ∀ (y : Rd (List UInt8)), y = rName (List.map AVal.strOf (strv l)) → gb (okR (strv l) 1) (brV (Option.isNone y) true pk (brV (hold (decide ((0 : Int) < (↑(List.length (strv (Prod.snd (Option.getD y ([], []))))) : Int)))) true (gb (okR (strv (Prod.snd (Option.getD y ([], [])))) 1) (brV (!hold (decide (List.head? (List.map AVal.strOf (strv (Prod.snd (Option.getD y ([], []))))) = some [(41 : UInt8)]))) true (∀ (y_1 : Rd (List UInt8)), y_1 = rName (List.map AVal.strOf (strv (Prod.snd (Option.getD y ([], []))))) → gb (okR (strv (Prod.snd (Option.getD y ([], [])))) 1) (brV (Option.isNone y_1) true pk (∀ (y_2 : Rd Vl), y_2 = rValue (List.map AVal.strOf (strv (Prod.snd (Option.getD y_1 ([], []))))) → gb (okR (strv (Prod.snd (Option.getD y_1 ([], [])))) 1) (brV (Option.isNone y_2) true pk (∀ (y_3 : Rd Vl), y_3 = rValue (List.map AVal.strOf (strv (Prod.snd (Option.getD y_2 (Vl.mk (0 : Int) (0 : Int) [], []))))) → gb (okR (strv (Prod.snd (Option.getD y_2 (Vl.mk (0 : Int) (0 : Int) [], [])))) 1) (brV (Option.isNone y_3) true pk (Q (AVal.agg [AVal.str (Prod.fst (Option.getD y ([], []))), AVal.str (Prod.fst (Option.getD y_1 ([], []))), AVal.int IntKind.i64 (Vl.k (Prod.fst (Option.getD y_2 (Vl.mk (0 : Int) (0 : Int) [], [])))), AVal.int IntKind.i64 (Vl.n (Prod.fst (Option.getD y_2 (Vl.mk (0 : Int) (0 : Int) [], [])))), AVal.str (Vl.s (Prod.fst (Option.getD y_2 (Vl.mk (0 : Int) (0 : Int) [], [])))), AVal.int IntKind.i64 (Vl.k (Prod.fst (Option.getD y_3 (Vl.mk (0 : Int) (0 : Int) [], [])))), AVal.int IntKind.i64 (Vl.n (Prod.fst (Option.getD y_3 (Vl.mk (0 : Int) (0 : Int) [], [])))), AVal.str (Vl.s (Prod.fst (Option.getD y_3 (Vl.mk (0 : Int) (0 : Int) [], []))))]) (Sto.set (Sto.set (Sto.set (Sto.set (Sto.one (AObj.cells [AVal.slice (strv l) 1 Tag.ro])) 0 (AObj.cells [AVal.slice (strv (Prod.snd (Option.getD y ([], [])))) 1 Tag.ro])) 0 (AObj.cells [AVal.slice (strv (Prod.snd (Option.getD y_1 ([], [])))) 1 Tag.ro])) 0 (AObj.cells [AVal.slice (strv (Prod.snd (Option.getD y_2 (Vl.mk (0 : Int) (0 : Int) [], [])))) 1 Tag.ro])) 0 (AObj.cells [AVal.slice (strv (Prod.snd (Option.getD y_3 (Vl.mk (0 : Int) (0 : Int) [], [])))) 1 Tag.ro]))))))))) (Q (AVal.agg [AVal.str (Prod.fst (Option.getD y ([], []))), AVal.str [], AVal.int IntKind.i64 (0 : Int), AVal.int IntKind.i64 (0 : Int), AVal.str [], AVal.int IntKind.i64 (0 : Int), AVal.int IntKind.i64 (0 : Int), AVal.str []]) (Sto.set (Sto.one (AObj.cells [AVal.slice (strv l) 1 Tag.ro])) 0 (AObj.cells [AVal.slice (strv (Prod.snd (Option.getD y ([], [])))) 1 Tag.ro]))))) (Q (AVal.agg [AVal.str (Prod.fst (Option.getD y ([], []))), AVal.str [], AVal.int IntKind.i64 (0 : Int), AVal.int IntKind.i64 (0 : Int), AVal.str [], AVal.int IntKind.i64 (0 : Int), AVal.int IntKind.i64 (0 : Int), AVal.str []]) (Sto.set (Sto.one (AObj.cells [AVal.slice (strv l) 1 Tag.ro])) 0 (AObj.cells [AVal.slice (strv (Prod.snd (Option.getD y ([], [])))) 1 Tag.ro])))))) : XCall Tryd.prog 41 [.ptr (.out 0) 0] (Sto.one (.cells [.slice (strv l) 1 .ro])) pk Q :=
  XCall.intro hmix Tryd.func41 (c := code_41_) (by kernel_rfl) (cNode pk) ho (Nat.le_of_ble_eq_true (by kernel_rfl)) (Eq.mpr (by kernel_rfl) h)
end Go.Proofs.YtcijjgfadkflmaaDoor
end

section
namespace Go.AL
set_option linter.unusedSimpArgs false
set_option linter.unusedVariables false
def CutR {α : Type} (F : List Txt → Rd α) : Prop := ∀ l v r, F l = some (v, r) → r <:+ l ∧ r.length < l.length
def SufR {α : Type} (F : List Txt → Rd α) : Prop := ∀ l v r, F l = some (v, r) → r <:+ l
theorem CutR.suf {α : Type} {F : List Txt → Rd α} (h : CutR F) : SufR F := fun l v r e => (h l v r e).1
theorem rMust_cut (w : Txt) : CutR (rMust w) := by
  intro l v r h
  cases l with
  | nil => cases h
  | cons x t =>
    simp only [rMust] at h
    split at h
    · simp only [Option.some.injEq, Prod.mk.injEq] at h; obtain ⟨_, rfl⟩ := h; exact ⟨List.suffix_cons _ _, by simp⟩
    · cases h
theorem rName_cut : CutR rName := by
  intro l v r h
  cases l with
  | nil => cases h
  | cons x t =>
    simp only [rName] at h
    split at h
    · simp only [Option.some.injEq, Prod.mk.injEq] at h; obtain ⟨_, rfl⟩ := h; exact ⟨List.suffix_cons _ _, by simp⟩
    · cases h
theorem rValue_cut : CutR rValue := by
  intro l v r h
  cases l with
  | nil => cases h
  | cons x t =>
    simp only [rValue, Option.map_eq_some_iff, Prod.mk.injEq] at h
    obtain ⟨_, _, _, rfl⟩ := h; exact ⟨List.suffix_cons _ _, by simp⟩
theorem rNumber_cut : CutR rNumber := by
  intro l v r h
  unfold rNumber at h
  split at h
  · rename_i x r' hv
    split at h
    · simp only [Option.some.injEq, Prod.mk.injEq] at h; obtain ⟨_, rfl⟩ := h; exact rValue_cut l _ _ hv
    · cases h
  · cases h
theorem tail_cut {l : List Txt} {w : Txt} (h : l.head? = some w) : l.tail <:+ l ∧ l.tail.length < l.length := by
  cases l with
  | nil => cases h
  | cons x t => exact ⟨List.suffix_cons _ _, by simp⟩
theorem rLabel_cut : CutR rLabel := by
  intro l v r h
  unfold rLabel at h
  split at h
  · rename_i hh
    simp only [Option.some.injEq, Prod.mk.injEq] at h; obtain ⟨_, rfl⟩ := h; exact tail_cut hh
  · exact rName_cut l v r h
theorem rEdge_cut : CutR rEdge := by
  intro l v r h
  unfold rEdge at h
  split at h
  · rename_i hh
    simp only [Option.some.injEq, Prod.mk.injEq] at h; obtain ⟨_, rfl⟩ := h; exact tail_cut hh
  · simp only [Option.map_eq_some_iff, Prod.mk.injEq] at h
    obtain ⟨x, hx, _, rfl⟩ := h
    exact rMust_cut _ l x.1 x.2 hx
theorem cut_step {a b c : List Txt} (h1 : b <:+ a ∧ b.length < a.length) (h2 : c <:+ b ∧ c.length < b.length) : c <:+ a ∧ c.length < a.length := ⟨h2.1.trans h1.1, by omega⟩
theorem rProp_cut : CutR rProp := by
  intro l v r h
  unfold rProp at h
  split at h
  · cases h
  · rename_i k l1 h1
    split at h
    · cases h
    · rename_i u l2 h2
      simp only [Option.map_eq_some_iff, Prod.mk.injEq] at h
      obtain ⟨x, hx, _, rfl⟩ := h
      exact cut_step (rName_cut _ _ _ h1) (cut_step (rMust_cut _ _ _ _ h2) (rValue_cut _ x.1 x.2 hx))
theorem rPropsF_cut : ∀ f, CutR (rPropsF f)
  | 0 => by intro l v r h; cases h
  | f + 1 => by
    intro l v r h
    unfold rPropsF at h
    split at h
    · rename_i hh
      simp only [Option.some.injEq, Prod.mk.injEq] at h; obtain ⟨_, rfl⟩ := h; exact tail_cut hh
    · split at h
      · cases h
      · rename_i p l1 h1
        simp only [Option.map_eq_some_iff, Prod.mk.injEq] at h
        obtain ⟨x, hx, _, rfl⟩ := h
        exact cut_step (rProp_cut _ _ _ h1) (rPropsF_cut f _ x.1 x.2 hx)
theorem rProps_suf : SufR rProps := by
  intro l v r h
  unfold rProps at h
  split at h
  · rename_i hh
    exact (rPropsF_cut _ _ _ _ h).1.trans (tail_cut hh).1
  · simp only [Option.some.injEq, Prod.mk.injEq] at h; obtain ⟨_, rfl⟩ := h; exact List.suffix_rfl
theorem rNode_cut : CutR rNode := by
  intro l v r h
  unfold rNode at h
  split at h
  · cases h
  · rename_i a l1 h1
    have c1 := rName_cut _ _ _ h1
    split at h
    · simp only [Option.some.injEq, Prod.mk.injEq] at h; obtain ⟨_, rfl⟩ := h; exact c1
    · split at h
      · cases h
      · rename_i k l2 h2
        split at h
        · cases h
        · rename_i lo l3 h3
          simp only [Option.map_eq_some_iff, Prod.mk.injEq] at h
          obtain ⟨x, hx, _, rfl⟩ := h
          exact cut_step c1 (cut_step (rName_cut _ _ _ h2) (cut_step (rValue_cut _ _ _ h3) (rValue_cut _ x.1 x.2 hx)))
theorem rNodesF_suf : ∀ f, SufR (rNodesF f)
  | 0 => by intro l v r h; cases h
  | f + 1 => by
    intro l v r h
    unfold rNodesF at h
    split at h
    · rename_i hh
      split at h
      · cases h
      · rename_i n l1 h1
        split at h
        · cases h
        · rename_i u l2 h2
          simp only [Option.map_eq_some_iff, Prod.mk.injEq] at h
          obtain ⟨x, hx, _, rfl⟩ := h
          exact (rNodesF_suf f _ x.1 x.2 hx).trans ((rMust_cut _ _ _ _ h2).1.trans ((rNode_cut _ _ _ h1).1.trans (tail_cut hh).1))
    · simp only [Option.some.injEq, Prod.mk.injEq] at h; obtain ⟨_, rfl⟩ := h; exact List.suffix_rfl
theorem rLink_cut : CutR rLink := by
  intro l v r h
  unfold rLink at h
  split at h
  · cases h
  · rename_i a l1 h1
    split at h
    · cases h
    · rename_i s l2 h2
      split at h
      · cases h
      · rename_i b l3 h3
        simp only [Option.map_eq_some_iff, Prod.mk.injEq] at h
        obtain ⟨x, hx, _, rfl⟩ := h
        exact cut_step (rNumber_cut _ _ _ h1) (cut_step (rLabel_cut _ _ _ h2) (cut_step (rNumber_cut _ _ _ h3) (rMust_cut _ _ x.1 x.2 hx)))
theorem rLinksF_suf : ∀ f, SufR (rLinksF f)
  | 0 => by intro l v r h; cases h
  | f + 1 => by
    intro l v r h
    unfold rLinksF at h
    split at h
    · rename_i hh
      split at h
      · cases h
      · rename_i n l1 h1
        simp only [Option.map_eq_some_iff, Prod.mk.injEq] at h
        obtain ⟨x, hx, _, rfl⟩ := h
        exact (rLinksF_suf f _ x.1 x.2 hx).trans ((rLink_cut _ _ _ h1).1.trans (tail_cut hh).1)
    · simp only [Option.some.injEq, Prod.mk.injEq] at h; obtain ⟨_, rfl⟩ := h; exact List.suffix_rfl
theorem rPattern_suf : SufR rPattern := by
  intro l v r h
  unfold rPattern at h
  split at h
  · cases h
  · rename_i ns l1 h1
    simp only [Option.map_eq_some_iff, Prod.mk.injEq] at h
    obtain ⟨x, hx, _, rfl⟩ := h
    exact (rLinksF_suf _ _ x.1 x.2 hx).trans (rNodesF_suf _ _ _ _ h1)
def okL (l : List Txt) : Prop := l.length ≤ 1000000 ∧ ∀ w ∈ l, w.length ≤ 1000000
theorem okL.suf {l r : List Txt} (h : okL l) (hr : r <:+ l) : okL r := ⟨Nat.le_trans hr.length_le h.1, fun w hw => h.2 w (hr.subset hw)⟩
end Go.AL
namespace Go.Proofs.YtcijjgfadkflmaaDoor
open Go.AL
set_option linter.unusedSimpArgs false
set_option linter.unusedVariables false
theorem lenL_of {n : Nat} (h : lenL n = true) : n ≤ 1000000 := by simpa [lenL] using h
theorem lenL_mk {n : Nat} (h : n ≤ 1000000) : lenL n = true := by simpa [lenL] using h
theorem okR_mk {l : List Txt} (h : okL l) : okR (strv l) 1 = true := by
  simp only [okR, okW_same, strv_is, strv_length, Bool.true_and, Bool.and_eq_true]
  refine ⟨lenL_mk h.1, ?_⟩
  rw [List.all_eq_true]
  intro x hx
  simp only [strv, List.mem_map] at hx
  obtain ⟨w, hw, rfl⟩ := hx
  exact lenL_mk (h.2 w hw)
theorem okR_of {es : List AVal} (h : okR es 1 = true) : ∃ l, es = strv l ∧ okL l := by
  simp only [okR, Bool.and_eq_true] at h
  obtain ⟨_, h1, h2, h3⟩ := h
  have e := strv_of h1
  refine ⟨_, e, by simpa using lenL_of h2, fun w hw => ?_⟩
  rw [e, List.all_eq_true] at h3
  exact lenL_of (h3 (.str w) (List.mem_map.2 ⟨w, hw, rfl⟩))
def RdC {α : Type} (f : FuncId) (v : α → AVal) (rest : List AVal) (F : List Txt → Rd α) : Prop :=
  ∀ l, okL l → XCall Tryd.prog f (.ptr (.out 0) 0 :: rest) (Sto.one (.cells [.slice (strv l) 1 .ro])) ((F l).isNone = true)
    fun r τ => ∃ x t, F l = some (x, t) ∧ Wk r (v x) ∧ ∃ y, τ.obj 0 = some (.cells y) ∧ WkL y [.slice (strv t) 1 .ro]
theorem noOut_words (l : List Txt) : noOutL 0 [.slice (strv l) 1 .ro] = true := by simp only [noOutL, AVal.noOut, strv_noOut, Bool.and_true]
theorem noTok_words (l : List Txt) : noTokL 0 [.slice (strv l) 1 .ro] = true := by simp only [noTokL, AVal.noTok, strv_noTok, Bool.and_true, Tag.below]
theorem rdA_ok {α : Type} {f : FuncId} {d : α} {v : α → AVal} {rest : List AVal} {F : List Txt → Rd α} (hc : RdC f v rest F) (hv : ∀ x, (v x).noOut 0 = true) (hv2 : ∀ x, (v x).noTok 0 = true)
    (hr1 : noOutL 0 rest = true) (hr2 : noTokL 0 rest = true) {σ : Sto} {k : Nat} {es : List AVal} (hk : σ.obj k = some (.cells [.slice es 1 .ro])) : AnsOk Tryd.prog f (.ptr (.out k) 0 :: rest) σ (rdA σ d v k es 1 (F (es.map AVal.strOf))) := by
  intro hok
  obtain ⟨l, rfl, hl⟩ := okR_of hok
  rw [map_strOf_strv]
  have c := hc l hl
  cases hF : F l with
  | none =>
    refine ⟨fun _ => ?_, fun h => (by cases h)⟩
    refine XPan.ofOne (c.xpan fun r τ ⟨x, t, h, _⟩ => ?_) hr1 hr2 (noOut_words l) (noTok_words l) hk
    rw [hF] at h; cases h
  | some y =>
    refine ⟨fun h => (by cases h), fun _ _ => ?_⟩
    have c' := c.acall (by rw [hF]; exact Bool.false_ne_true)
    refine FCall.ofOne (c'.mono fun r τ ⟨x, t, h, h1, h2⟩ => ?_) hr1 hr2 (noOut_words l) (noTok_words l) (noOut_words y.2) (noTok_words y.2) (hv _) (hv2 _) hk
    rw [hF] at h
    cases h
    exact ⟨h1, h2⟩
theorem rd_ok {α : Type} {f : FuncId} {d : α} {v : α → AVal} {F : List Txt → Rd α} (hc : RdC f v [] F) (hv : ∀ x, (v x).noOut 0 = true) (hv2 : ∀ x, (v x).noTok 0 = true) : EntOk Tryd.prog (rdE f d v F) := by
  intro xs σ
  simp only [rdE, rdr]
  split
  · rename_i k rest
    split
    · rename_i es hk
      split
      · exact rdA_ok hc hv hv2 rfl rfl hk
      · trivial
    · trivial
  · trivial
theorem rdT_ok {α : Type} {f : FuncId} {d : α} {v : α → AVal} {F : Txt → List Txt → Rd α} (hc : ∀ w, RdC f v [.str w] (F w)) (hv : ∀ x, (v x).noOut 0 = true) (hv2 : ∀ x, (v x).noTok 0 = true) : EntOk Tryd.prog (rdTE f d v F) := by
  intro xs σ
  simp only [rdTE, rdr]
  split
  · rename_i k rest
    split
    · rename_i es hk
      split
      · rename_i w
        exact rdA_ok (hc w) hv hv2 rfl rfl hk
      · trivial
    · trivial
  · trivial
end Go.Proofs.YtcijjgfadkflmaaDoor
end
