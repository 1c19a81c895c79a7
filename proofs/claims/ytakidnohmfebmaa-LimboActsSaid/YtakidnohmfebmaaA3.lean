/-
  The abstract layer, part 3: operations that leave the world alone, as functions on abstract values; each with its soundness.
-/
import Derived.Test.YtakidnohmfebmaaA2
import Derived.WalkKit
namespace Go.AL
set_option linter.unusedSimpArgs false
set_option linter.unusedVariables false

/-! ### Constants -/

def absV : Value → AVal
  | .bool b => .bool b
  | .int k n => .int k n
  | .string s => .str s.data.toList
  | .pointer none => .nilptr
  | .slice none 0 0 => .slice [] 0 .nil
  | .map none => .nilmap
  | .nilFunc => .nilfunc
  | .nilIface => .nilIface
  | _ => .undef

theorem Rep.absV {γ : Gh} {w : World} (l : Bool) (v : Value) : Rep γ w l (absV v) v := by
  unfold AL.absV
  split
  · exact .bool _ _
  · exact .int _ _ _
  · rename_i s
    have : (Value.string s) = .string ⟨s.data.toList.toArray⟩ := by simp
    rw [this]
    exact .str _ _
  · exact .nilptr _
  · exact .sliceNil trivial (.inl rfl)
  · exact .nilmap _
  · exact .nilfunc _
  · exact .nilIface _
  · exact .undef _ _

def St.eval (st : St) : Operand → AVal
  | .tmp t => st.get t
  | .const v => absV v
  | .global _ => .undef
  | .func f => .func (.func f) [] []

theorem Conc.eval {γ : Gh} {w : World} {a : Act} {st : St} (h : Conc γ w a st) (x : Operand) : Rep γ w true (st.eval x) (a.eval x) := by
  cases x with
  | tmp t => exact h.fr t
  | const v => exact Rep.absV _ _
  | global g => exact .undef _ _
  | func f => exact .func (.nil _) (.nil _)

/-! ### What is asked of the table of types -/

def tIsAgg (P : Program) (t : TypeId) : Option Bool :=
  match P.underlying t with
  | some (.struct _) => some true
  | some (.array _ _) => some true
  | some _ => some false
  | none => none

/-- A field: its place, its type's number of cells, is it a struct or an array? -/
def tField (P : Program) (s : TypeId) (i : Nat) : Option (Nat × Nat × Bool) :=
  match P.underlying s with
  | some (.struct fs) =>
    match fs[i]? with
    | some f => match P.info? f.type, tIsAgg P f.type with
      | some inf, some g => some (f.offset, inf.size, g)
      | _, _ => none
    | none => none
  | _ => none

/-- A slice type's elements: type, cells each, bytes each, the zero value's cells. -/
def tElem (P : Program) (t : TypeId) : Option (TypeId × Nat × Nat × List Value) :=
  match P.underlying t with
  | some (.slice e) => match P.info? e with
    | some inf => match inf.zero with
      | some z => some (e, inf.size, inf.bytes, z.cells.toList)
      | none => none
    | none => none
  | _ => none

/-- An array type: how many, cells each, are they structs or arrays? -/
def tArr (P : Program) (t : TypeId) : Option (Nat × Nat × Bool) :=
  match P.underlying t with
  | some (.array n e) => match P.info? e, tIsAgg P e with
    | some inf, some g => some (n, inf.size, g)
    | _, _ => none
  | _ => none

/-- A variable's type: its cells, is it a struct or an array? -/
def tVar (P : Program) (t : TypeId) : Option (Nat × Bool) :=
  match P.info? t, tIsAgg P t with
  | some inf, some g => some (inf.size, g)
  | _, _ => none

def isInt (P : Program) (t : TypeId) (k : IntKind) : Bool :=
  match P.underlying t with
  | some (.int k') => k' == k
  | _ => false

def isStr (P : Program) (t : TypeId) : Bool :=
  match P.underlying t with
  | some .string => true
  | _ => false

def isBool (P : Program) (t : TypeId) : Bool :=
  match P.underlying t with
  | some .bool => true
  | _ => false

/-- A part of a struct's or an array's cells. -/
def partA (cs : List AVal) (off n : Nat) (g : Bool) : AVal :=
  match g with
  | true => .agg ((cs.drop off).take n)
  | false => cs.getD off .undef

theorem Rep.cells {γ : Gh} {w : World} {l : Bool} {a : AVal} {v : Value} (h : Rep γ w l a v) (h0 : ∀ vs, v ≠ .agg vs ∨ ∃ cs, a = .agg cs) : RepL γ w l a.cells v.cells.toList := by
  cases h with
  | agg h h1 => simpa [AVal.cells, Value.cells] using h
  | undef l v =>
    cases v with
    | agg vs => exact ((h0 vs).resolve_left (by simp)).elim (fun cs e => by cases e)
    | _ => exact .cons (.undef _ _) (.nil _)
  | bool => exact .cons (.bool _ _) (.nil _)
  | int => exact .cons (.int _ _ _) (.nil _)
  | str => exact .cons (.str _ _) (.nil _)
  | tuple h => exact .cons (.tuple h) (.nil _)
  | sliceRow h hs hc h1 hn hm ht => exact .cons (.sliceRow h hs hc h1 hn hm ht) (.nil _)
  | sliceNil ht ho => exact .cons (.sliceNil ht ho) (.nil _)
  | arr hb ho hn hz => exact .cons (.arr hb ho hn hz) (.nil _)
  | mrow hc hn hb => exact .cons (.mrow hc hn hb) (.nil _)
  | iptr h h1 hc => exact .cons (.iptr h h1 hc) (.nil _)
  | ptr hb ho => exact .cons (.ptr hb ho) (.nil _)
  | nilptr => exact .cons (.nilptr _) (.nil _)
  | map hb ho => exact .cons (.map hb ho) (.nil _)
  | nilmap => exact .cons (.nilmap _) (.nil _)
  | func hf hc => exact .cons (.func hf hc) (.nil _)
  | nilfunc => exact .cons (.nilfunc _) (.nil _)
  | iface h => exact .cons (.iface h) (.nil _)
  | nilIface => exact .cons (.nilIface _) (.nil _)

/-- Values of one cell, known as such. -/
def AVal.one : AVal → Bool
  | .undef => false
  | .agg _ => false
  | .tuple _ => false
  | _ => true

theorem Rep.one {γ : Gh} {w : World} {l : Bool} {a : AVal} {v : Value} (h : Rep γ w l a v) (h1 : a.one = true) : v.oneCell' = true := by
  cases h <;> first | rfl | cases h1

/-- A truth value that the kernel does not look into. -/
noncomputable def hold (b : Bool) : Bool := Classical.choose (⟨b, rfl⟩ : ∃ c : Bool, c = b)
@[simp] theorem hold_eq (b : Bool) : hold b = b := Classical.choose_spec (⟨b, rfl⟩ : ∃ c : Bool, c = b)

/-- A part of a value's cells. -/
def partV (vs : List Value) (off n : Nat) (g : Bool) : Value :=
  match g with
  | true => .agg ((vs.drop off).take n).toArray
  | false => vs.getD off undef

theorem run_part (P : Program) (w : World) {t : TypeId} {n : Nat} {g : Bool} (ht : tVar P t = some (n, g)) (vs : List Value) (off : Nat) (hl : g = false → off < vs.length) :
    (part t vs.toArray off).run P w = .ok (partV vs off n g) w := by
  unfold tVar tIsAgg at ht
  cases hi : P.info? t with
  | none => simp [hi] at ht
  | some inf =>
    cases hu : P.underlying t with
    | none => simp [hi, hu] at ht
    | some d =>
      cases d <;> simp [hi, hu] at ht <;> obtain ⟨rfl, rfl⟩ := ht
      case array => simp [part, isAgg, run_underlying hu, sizeOf, typeInfo, hi, partV]
      case struct => simp [part, isAgg, run_underlying hu, sizeOf, typeInfo, hi, partV]
      all_goals
        have hl := hl rfl
        simp [part, isAgg, run_underlying hu, List.getElem?_eq_getElem hl, partV]

theorem RepL.part {γ : Gh} {w : World} {l : Bool} {cs : List AVal} {vs : List Value} (h : RepL γ w l cs vs) (h1 : ∀ v ∈ vs, v.oneCell' = true) (off n : Nat) (g : Bool) :
    Rep γ w l (partA cs off n g) (partV vs off n g) := by
  cases g with
  | true => exact .agg ((h.drop off).take n) (fun v hv => h1 v (List.mem_of_mem_drop (List.mem_of_mem_take hv)))
  | false =>
    simp only [partA, partV]
    cases hc : cs[off]? with
    | none => simp [List.getD, hc]; exact .undef _ _
    | some a =>
      obtain ⟨v, hv, hr⟩ := h.get hc
      simpa [List.getD, hc, hv] using hr

/-! ### Numbers, bools, strings -/

noncomputable def intA (op : BinOp) (k : IntKind) (a b : Int) : Option (Bool × AVal) :=
  match op with
  | .add => some (true, .int k (k.wrap (a + b)))
  | .sub => some (true, .int k (k.wrap (a - b)))
  | .mul => some (true, .int k (k.wrap (a * b)))
  | .quo => some (decide (b ≠ 0), .int k (k.wrap (a.tdiv b)))
  | .rem => some (decide (b ≠ 0), .int k (a.tmod b))
  | .and => some (true, .int k (bits .and k a b))
  | .or => some (true, .int k (bits .or k a b))
  | .xor => some (true, .int k (bits .xor k a b))
  | .andNot => some (true, .int k (bits .andNot k a b))
  | .eql => some (true, .bool (hold (a == b)))
  | .neq => some (true, .bool (hold (a != b)))
  | .lss => some (true, .bool (hold (decide (a < b))))
  | .leq => some (true, .bool (hold (decide (a ≤ b))))
  | .gtr => some (true, .bool (hold (decide (b < a))))
  | .geq => some (true, .bool (hold (decide (b ≤ a))))
  | _ => none

noncomputable def strA (op : BinOp) (a b : List UInt8) : Option (Bool × AVal) :=
  match op with
  | .add => some (decide (a.length + b.length ≤ 9223372036854775807), .str (a ++ b))
  | .eql => some (true, .bool (hold (a == b)))
  | .neq => some (true, .bool (hold (!(a == b))))
  | .lss => some (true, .bool (hold (Op.bytesLess a b)))
  | .leq => some (true, .bool (hold (Op.bytesLess a b || a == b)))
  | .gtr => some (true, .bool (hold (!(Op.bytesLess a b || a == b))))
  | .geq => some (true, .bool (hold (!Op.bytesLess a b)))
  | _ => none

/-- Are two lists of plain cells the same? -/
def eqC : AVal → AVal → Bool
  | .bool a, .bool b => a == b
  | .int _ a, .int _ b => a == b
  | .str a, .str b => a == b
  | _, _ => false

def eqCs : List AVal → List AVal → Bool
  | a :: as, b :: bs => eqC a b && eqCs as bs
  | _, _ => true

/-- A struct type all of whose fields are plain (bools, numbers, strings), at places 0, 1, ..: their kinds. -/
inductive Leaf where
  | bool | int (k : IntKind) | str
  deriving DecidableEq

def leafOf (P : Program) (t : TypeId) : Option Leaf :=
  match P.underlying t with
  | some .bool => some .bool
  | some (.int k) => some (.int k)
  | some .string => some .str
  | _ => none

def leafs (P : Program) : Nat → List Field → Option (List Leaf)
  | _, [] => some []
  | i, f :: fs =>
    if f.name = "_" ∨ f.offset ≠ i then none else
    match leafOf P f.type, leafs P (i + 1) fs with
    | some x, some r => some (x :: r)
    | _, _ => none

def Leaf.fits : Leaf → AVal → Bool
  | .bool, .bool _ => true
  | .int k, .int k' _ => k == k'
  | .str, .str _ => true
  | _, _ => false

def fitsAll : List Leaf → List AVal → Bool
  | [], [] => true
  | x :: xs, a :: as => x.fits a && fitsAll xs as
  | _, _ => false

/-- A plain struct type: its leaves. -/
def tPlain (P : Program) (t : TypeId) : Option (List Leaf) :=
  match P.underlying t with
  | some (.struct fs) => if P.stoodInHeld t then none else leafs P 0 fs.toList
  | _ => none

/-- The leaves of fields that are plain, or plain structs. -/
def leafs2 (P : Program) : Nat → List Field → Option (List Leaf)
  | _, [] => some []
  | i, f :: fs =>
    if f.name = "_" ∨ f.offset ≠ i then none else
    match leafOf P f.type with
    | some x =>
      match leafs2 P (i + 1) fs with
      | some r => some (x :: r)
      | none => none
    | none =>
      match tPlain P f.type, tVar P f.type with
      | some ls, some (n, true) =>
        if n = ls.length then
          match leafs2 P (i + n) fs with
          | some r => some (ls ++ r)
          | none => none
        else none
      | _, _ => none

/-- A struct type whose fields are plain, or plain structs: its leaves. -/
def tTwo (P : Program) (t : TypeId) : Option (List Leaf) :=
  match P.underlying t with
  | some (.struct fs) => if P.stoodInHeld t then none else leafs2 P 0 fs.toList
  | _ => none

def nilA (op : BinOp) (r : Bool) : Option (Bool × AVal) :=
  match op with
  | .eql => some (true, .bool r)
  | .neq => some (true, .bool (!r))
  | _ => none

noncomputable def binA (P : Program) (op : BinOp) (T : TypeId) (nc : Bool) : AVal → AVal → Option (Bool × AVal)
  | .int k a, .int k' b =>
    match op with
    | .shl => some (decide (0 ≤ b), .int k (k.wrap (a * 2 ^ (min b.toNat k.bits))))
    | .shr => some (decide (0 ≤ b), .int k (a.fdiv (2 ^ (min b.toNat k.bits))))
    | op => if k = k' then intA op k a b else none
  | .str a, .str b => strA op a b
  | .bool a, .bool b => if isBool P T then nilA op (hold (a == b)) else none
  | .agg as, .agg bs =>
    match tPlain P T with
    | some ls => if fitsAll ls as && fitsAll ls bs then nilA op (hold (eqCs as bs)) else none
    | none =>
      match tTwo P T with
      | some ls => if fitsAll ls as && fitsAll ls bs then nilA op (hold (eqCs as bs)) else none
      | none => none
  | .nilptr, .nilptr => nilP op true
  | .nilptr, .ptr _ _ => nilP op false
  | .ptr _ _, .nilptr => nilP op false
  | .nilptr, .iptr _ => nilP op false
  | .iptr _, .nilptr => nilP op false
  | .nilIface, .nilIface => if nc then nilI op true else none
  | .nilIface, .iface _ _ => nilI op false
  | .iface _ _, .nilIface => nilI op false
  | _, _ => none
where
  nilP (op : BinOp) (r : Bool) : Option (Bool × AVal) :=
    match P.underlying T with
    | some (.pointer _) => nilA op r
    | _ => none
  nilI (op : BinOp) (r : Bool) : Option (Bool × AVal) :=
    match P.underlying T with
    | some (.interface _) => nilA op r
    | _ => none

theorem intA_sound {P : Program} {w : World} {op : BinOp} {T : TypeId} {k : IntKind} {a b : Int} {p : Bool} {r : AVal} (h : intA op k a b = some (p, r)) (hp : p) :
    ∃ u, (binOp op T (.int k a) (.int k b)).run P w = .ok u w ∧ ∀ γ l, Rep γ w l r u := by
  cases op <;> simp only [intA, Option.some.injEq, Prod.mk.injEq, reduceCtorEq] at h <;> obtain ⟨rfl, rfl⟩ := h
  case add => exact ⟨_, by simp [binOp, Op.intArith], fun γ l => .int _ _ _⟩
  case sub => exact ⟨_, by simp [binOp, Op.intArith], fun γ l => .int _ _ _⟩
  case mul => exact ⟨_, by simp [binOp, Op.intArith], fun γ l => .int _ _ _⟩
  case quo => exact ⟨_, by have hp := of_decide_eq_true hp; simp [binOp, Op.intDiv, hp], fun γ l => .int _ _ _⟩
  case rem => exact ⟨_, by have hp := of_decide_eq_true hp; simp [binOp, Op.intDiv, hp], fun γ l => .int _ _ _⟩
  case and => exact ⟨_, by simp [binOp, intBits_and], fun γ l => .int _ _ _⟩
  case or => exact ⟨_, by simp [binOp, intBits_or], fun γ l => .int _ _ _⟩
  case xor => exact ⟨_, by simp [binOp, intBits_xor], fun γ l => .int _ _ _⟩
  case andNot => exact ⟨_, by simp [binOp, intBits_andNot], fun γ l => .int _ _ _⟩
  case eql => exact ⟨_, by simp [binOp, Op.intCmp], fun γ l => .bool _ _⟩
  case neq => exact ⟨_, by simp [binOp, Op.intCmp], fun γ l => .bool _ _⟩
  case lss => exact ⟨_, by simp [binOp, Op.intCmp], fun γ l => .bool _ _⟩
  case leq => exact ⟨_, by simp [binOp, Op.intCmp], fun γ l => .bool _ _⟩
  case gtr => exact ⟨_, by simp [binOp, Op.intCmp], fun γ l => .bool _ _⟩
  case geq => exact ⟨_, by simp [binOp, Op.intCmp], fun γ l => .bool _ _⟩

theorem strA_sound {P : Program} {w : World} {op : BinOp} {T : TypeId} {a b : List UInt8} {p : Bool} {r : AVal} (h : strA op a b = some (p, r)) (hp : p) :
    ∃ u, (binOp op T (.string ⟨a.toArray⟩) (.string ⟨b.toArray⟩)).run P w = .ok u w ∧ ∀ γ l, Rep γ w l r u := by
  have es : ∀ x : List UInt8, (ByteArray.mk x.toArray).size = x.length := fun x => by simp [ByteArray.size]
  cases op <;> simp only [strA, Option.some.injEq, Prod.mk.injEq, reduceCtorEq] at h <;> obtain ⟨rfl, rfl⟩ := h
  case add =>
    refine ⟨.string ⟨(a ++ b).toArray⟩, ?_, fun γ l => .str _ _⟩
    have hp := of_decide_eq_true hp
    have hm : IntKind.max .i64 = 9223372036854775807 := by decide
    have h2 : ¬ (9223372036854775807 < ((a.length : Int) + (b.length : Int))) := by omega
    have h3 : (ByteArray.mk a.toArray ++ ByteArray.mk b.toArray) = ByteArray.mk (a ++ b).toArray := by
      apply ByteArray.ext
      simp
    simp [binOp, Op.stringOp, es, hm, h2, h3]
  case eql => exact ⟨.bool (a == b), by simp [binOp, Op.stringOp], fun γ l => by rw [hold_eq]; exact .bool _ _⟩
  case neq => exact ⟨.bool (!(a == b)), by simp [binOp, Op.stringOp], fun γ l => by rw [hold_eq]; exact .bool _ _⟩
  case lss => exact ⟨.bool (Op.bytesLess a b), by simp [binOp, Op.stringOp], fun γ l => by rw [hold_eq]; exact .bool _ _⟩
  case leq => exact ⟨.bool (Op.bytesLess a b || a == b), by simp [binOp, Op.stringOp], fun γ l => by rw [hold_eq]; exact .bool _ _⟩
  case gtr => exact ⟨.bool (!(Op.bytesLess a b || a == b)), by simp [binOp, Op.stringOp], fun γ l => by rw [hold_eq]; exact .bool _ _⟩
  case geq => exact ⟨.bool (!Op.bytesLess a b), by simp [binOp, Op.stringOp], fun γ l => by rw [hold_eq]; exact .bool _ _⟩

/-! ### Structs whose fields are plain -/

theorem Leaf.spec {P : Program} {t : TypeId} {x : Leaf} (h : leafOf P t = some x) :
    (x = .bool ∧ P.underlying t = some .bool) ∨ (∃ k, x = .int k ∧ P.underlying t = some (.int k)) ∨ (x = .str ∧ P.underlying t = some .string) := by
  unfold leafOf at h
  split at h <;> simp_all

theorem fits_spec {x : Leaf} {a : AVal} (h : x.fits a = true) : (x = .bool ∧ ∃ b, a = .bool b) ∨ (∃ k n, x = .int k ∧ a = .int k n) ∨ (x = .str ∧ ∃ s, a = .str s) := by
  cases x <;> cases a <;> simp [Leaf.fits] at h ⊢
  exact h.symm

theorem run_equalLeaf {P : Program} {w w0 : World} {γ : Gh} {l : Bool} {t : TypeId} {x : Leaf} (hx : leafOf P t = some x) {a b : AVal} (ha : x.fits a = true) (hb : x.fits b = true) {u v : Value}
    (hu : Rep γ w0 l a u) (hv : Rep γ w0 l b v) (d : Nat) : (Op.equalIn (d + 1) t u v).run P w = .ok (eqC a b) w := by
  rcases Leaf.spec hx with ⟨rfl, ht⟩ | ⟨k, rfl, ht⟩ | ⟨rfl, ht⟩
  · obtain ⟨_, x, rfl⟩ : Leaf.bool = .bool ∧ ∃ x, a = .bool x := by rcases fits_spec ha with h | ⟨_, _, h, _⟩ | ⟨h, _⟩ <;> first | exact h | cases h
    obtain ⟨_, y, rfl⟩ : Leaf.bool = .bool ∧ ∃ x, b = .bool x := by rcases fits_spec hb with h | ⟨_, _, h, _⟩ | ⟨h, _⟩ <;> first | exact h | cases h
    cases hu; cases hv
    simp [Op.equalIn, run_underlying ht, eqC]
  · obtain ⟨k', x, e, rfl⟩ : ∃ k' n, Leaf.int k = .int k' ∧ a = .int k' n := by rcases fits_spec ha with ⟨h, _⟩ | h | ⟨h, _⟩ <;> first | exact h | cases h
    obtain ⟨k2, y, e2, rfl⟩ : ∃ k' n, Leaf.int k = .int k' ∧ b = .int k' n := by rcases fits_spec hb with ⟨h, _⟩ | h | ⟨h, _⟩ <;> first | exact h | cases h
    cases e; cases e2
    cases hu; cases hv
    simp [Op.equalIn, run_underlying ht, eqC]
  · obtain ⟨_, x, rfl⟩ : Leaf.str = .str ∧ ∃ x, a = .str x := by rcases fits_spec ha with ⟨h, _⟩ | ⟨_, _, h, _⟩ | h <;> first | exact h | cases h
    obtain ⟨_, y, rfl⟩ : Leaf.str = .str ∧ ∃ x, b = .str x := by rcases fits_spec hb with ⟨h, _⟩ | ⟨_, _, h, _⟩ | h <;> first | exact h | cases h
    cases hu; cases hv
    have : ((ByteArray.mk x.toArray == ByteArray.mk y.toArray) : Bool) = (x == y) := by
      show (x.toArray == y.toArray) = _
      simp
    simp [Op.equalIn, run_underlying ht, eqC, this]

theorem run_part_leaf {P : Program} {w : World} {t : TypeId} {x : Leaf} (hx : leafOf P t = some x) (vs : List Value) (off : Nat) (hl : off < vs.length) : (part t vs.toArray off).run P w = .ok vs[off] w := by
  rcases Leaf.spec hx with ⟨rfl, ht⟩ | ⟨k, rfl, ht⟩ | ⟨rfl, ht⟩ <;> simp [part, isAgg, run_underlying ht, List.getElem?_eq_getElem hl]

theorem run_forIn_eq {P : Program} {w w0 : World} {γ : Gh} {l : Bool} (d : Nat) (us vs : List Value) (as bs : List AVal) (hu : RepL γ w0 l as us) (hv : RepL γ w0 l bs vs) :
    ∀ (fs : List Field) (i : Nat) (ls : List Leaf), leafs P i fs = some ls → fitsAll ls (as.drop i) = true → fitsAll ls (bs.drop i) = true → ∀ (init : Option Bool × Unit) ,
      init.1 = none →
      ∃ r, (forIn (m := Sem) fs init fun f r =>
        (do
          if f.name ≠ "_" then
            if !(← Op.equalIn (d + 1) f.type (← part f.type us.toArray f.offset) (← part f.type vs.toArray f.offset)) then return ForInStep.done (some false, ())
          return ForInStep.yield (none, ()) : Sem (ForInStep (Option Bool × Unit)))).run P w = .ok r w ∧ (r.1 = if eqCs (as.drop i) (bs.drop i) then none else some false) := by
  intro fs
  induction fs with
  | nil =>
    intro i ls hls ha hb init hi
    simp only [leafs, Option.some.injEq] at hls
    subst hls
    cases hda : as.drop i with
    | nil => exact ⟨init, by simp, by simp [eqCs, hi]⟩
    | cons x xs => rw [hda] at ha; simp [fitsAll] at ha
  | cons f fs ih =>
    intro i ls hls ha hb init hi
    simp only [leafs] at hls
    split at hls
    · cases hls
    · rename_i hno
      have hname : f.name ≠ "_" := fun e => hno (.inl e)
      have hoff : f.offset = i := Classical.byContradiction fun e => hno (.inr e)
      split at hls
      · rename_i x r hx hr
        cases hls
        cases hda : as.drop i with
        | nil => rw [hda] at ha; simp [fitsAll] at ha
        | cons a as' =>
          cases hdb : bs.drop i with
          | nil => rw [hdb] at hb; simp [fitsAll] at hb
          | cons b bs' =>
            rw [hda] at ha; rw [hdb] at hb
            simp only [fitsAll, Bool.and_eq_true] at ha hb
            have ga : as[i]? = some a := by have := congrArg (·[0]?) hda; simpa using this
            have gb : bs[i]? = some b := by have := congrArg (·[0]?) hdb; simpa using this
            obtain ⟨u, gu, ru⟩ := hu.get ga
            obtain ⟨v, gv, rv⟩ := hv.get gb
            have lu : i < us.length := by rcases Nat.lt_or_ge i us.length with h | h; exact h; rw [List.getElem?_eq_none h] at gu; cases gu
            have lv : i < vs.length := by rcases Nat.lt_or_ge i vs.length with h | h; exact h; rw [List.getElem?_eq_none h] at gv; cases gv
            have eu : us[i] = u := by rw [List.getElem?_eq_getElem lu] at gu; exact Option.some.inj gu
            have ev : vs[i] = v := by rw [List.getElem?_eq_getElem lv] at gv; exact Option.some.inj gv
            have h1 := run_part_leaf (P := P) (w := w) hx us f.offset (by rw [hoff]; exact lu)
            have h2 := run_part_leaf (P := P) (w := w) hx vs f.offset (by rw [hoff]; exact lv)
            have h3 := run_equalLeaf (P := P) (w := w) hx ha.1 hb.1 ru rv d
            simp only [hoff, eu] at h1
            simp only [hoff, ev] at h2
            have da : as.drop (i + 1) = as' := by rw [← List.drop_drop, hda]; rfl
            have db : bs.drop (i + 1) = bs' := by rw [← List.drop_drop, hdb]; rfl
            cases hc : eqC a b with
            | true =>
              rw [hc] at h3
              obtain ⟨r', hr1, hr2⟩ := ih (i + 1) r hr (by rw [da]; exact ha.2) (by rw [db]; exact hb.2) (none, ()) rfl
              rw [da, db] at hr2
              refine ⟨r', ?_, by simpa [eqCs, hc] using hr2⟩
              simp only [List.forIn_cons]
              simp [hname, hoff, h1, h2, h3]
              simpa using hr1
            | false =>
              rw [hc] at h3
              refine ⟨(some false, ()), ?_, by simp [eqCs, hc]⟩
              simp only [List.forIn_cons]
              simp [hname, hoff, h1, h2, h3]
      · cases hls

theorem run_equalInPlain {P : Program} {w w0 : World} {γ : Gh} {l : Bool} {T : TypeId} {ls : List Leaf} (hT : tPlain P T = some ls) {as bs : List AVal} {us vs : List Value} (hu : RepL γ w0 l as us) (hv : RepL γ w0 l bs vs)
    (ha : fitsAll ls as = true) (hb : fitsAll ls bs = true) (d : Nat) : (Op.equalIn (d + 1 + 1) T (.agg us.toArray) (.agg vs.toArray)).run P w = .ok (eqCs as bs) w := by
  unfold tPlain at hT
  split at hT
  · rename_i fs hfs
    split at hT
    · cases hT
    · rename_i hstood
      obtain ⟨r, hr1, hr2⟩ := run_forIn_eq (P := P) (w := w) d us vs as bs hu hv fs.toList 0 ls hT (by simpa using ha) (by simpa using hb) (none, ()) rfl
      simp only [List.drop_zero] at hr2
      rw [Op.equalIn]
      simp only [Sem.run_bind, run_underlying hfs, Result.andThen_ok, run_program, hstood, Bool.false_eq_true, if_false]
      refine (congrArg (fun x => Result.andThen x _) (?_ : _ = .ok r w)).trans ?_
      · rw [← Array.forIn_toList]; exact hr1
      · simp only [Result.andThen_ok]
        cases he : eqCs as bs with
        | true => rw [he, if_pos rfl] at hr2; rw [hr2]; rfl
        | false => rw [he, if_neg (by simp)] at hr2; rw [hr2]; rfl
  · cases hT

theorem eqGuardType_plain {P : Program} {T : TypeId} {ls : List Leaf} (hT : tPlain P T = some ls) (d : Nat) : P.eqGuardType (d + 1 + 1) T = false := by
  unfold tPlain at hT
  split at hT
  · rename_i fs hfs
    split at hT
    · cases hT
    · have key : ∀ (l : List Field) (i : Nat) (ls : List Leaf), leafs P i l = some ls → ∀ f ∈ l, P.eqGuardType (d + 1) f.type = false := by
        intro l
        induction l with
        | nil => intro _ _ _ f hf; cases hf
        | cons x r ih =>
          intro i ls h f hf
          simp only [leafs] at h
          split at h
          · cases h
          · split at h
            · rename_i y z hx hr
              rcases List.mem_cons.1 hf with rfl | hf
              · rcases Leaf.spec hx with ⟨_, ht⟩ | ⟨k, _, ht⟩ | ⟨_, ht⟩ <;> simp [Program.eqGuardType, ht]
              · exact ih _ _ hr f hf
            · cases h
      rw [Program.eqGuardType]
      simp only [hfs]
      rw [← Array.any_toList, List.any_eq_false]
      intro f hf
      simp [key _ _ _ hT f hf]
  · cases hT

theorem run_eqGuard_plain {P : Program} {w : World} {T : TypeId} {ls : List Leaf} (hT : tPlain P T = some ls) (op : BinOp) (x y : Operand) (us vs : Array Value) : (eqGuard op T x y (.agg us) (.agg vs)).run P w = .ok () w := by
  unfold eqGuard
  have hd : P.depth = 2 * (P.types.size + Made.depth) + 1 + 1 := rfl
  have := eqGuardType_plain hT (2 * (P.types.size + Made.depth))
  rw [← hd] at this
  cases op <;> simp [this]

theorem fitsAll_append : ∀ {ls r : List Leaf} {as : List AVal}, fitsAll (ls ++ r) as = true → fitsAll ls (as.take ls.length) = true ∧ fitsAll r (as.drop ls.length) = true
  | [], r, as, h => ⟨by simp [fitsAll], by simpa using h⟩
  | x :: ls, r, [], h => by simp [fitsAll] at h
  | x :: ls, r, a :: as, h => by
    simp only [List.cons_append, fitsAll, Bool.and_eq_true] at h
    have := fitsAll_append (as := as) h.2
    refine ⟨?_, by simpa using this.2⟩
    simp only [List.length_cons, List.take_succ_cons, fitsAll, Bool.and_eq_true]
    exact ⟨h.1, this.1⟩
theorem eqCs_split : ∀ (n : Nat) (as bs : List AVal), eqCs as bs = (eqCs (as.take n) (bs.take n) && eqCs (as.drop n) (bs.drop n))
  | 0, as, bs => by simp [eqCs]
  | n + 1, [], bs => by simp [eqCs]
  | n + 1, a :: as, [] => by simp [eqCs]
  | n + 1, a :: as, b :: bs => by
    simp only [List.take_succ_cons, List.drop_succ_cons, eqCs]
    rw [eqCs_split n as bs, Bool.and_assoc]

theorem run_forIn_eq2 {P : Program} {w w0 : World} {γ : Gh} {l : Bool} (d : Nat) (us vs : List Value) (as bs : List AVal) (hu : RepL γ w0 l as us) (hv : RepL γ w0 l bs vs) :
    ∀ (fs : List Field) (i : Nat) (ls : List Leaf), leafs2 P i fs = some ls → fitsAll ls (as.drop i) = true → fitsAll ls (bs.drop i) = true → ∀ (init : Option Bool × Unit) ,
      init.1 = none →
      ∃ r, (forIn (m := Sem) fs init fun f r =>
        (do
          if f.name ≠ "_" then
            if !(← Op.equalIn (d + 1 + 1) f.type (← part f.type us.toArray f.offset) (← part f.type vs.toArray f.offset)) then return ForInStep.done (some false, ())
          return ForInStep.yield (none, ()) : Sem (ForInStep (Option Bool × Unit)))).run P w = .ok r w ∧ (r.1 = if eqCs (as.drop i) (bs.drop i) then none else some false) := by
  intro fs
  induction fs with
  | nil =>
    intro i ls hls ha hb init hi
    simp only [leafs2, Option.some.injEq] at hls
    subst hls
    cases hda : as.drop i with
    | nil => exact ⟨init, by simp, by simp [eqCs, hi]⟩
    | cons x xs => rw [hda] at ha; simp [fitsAll] at ha
  | cons f fs ih =>
    intro i ls hls ha hb init hi
    simp only [leafs2] at hls
    split at hls
    · cases hls
    · rename_i hno
      have hname : f.name ≠ "_" := fun e => hno (.inl e)
      have hoff : f.offset = i := Classical.byContradiction fun e => hno (.inr e)
      split at hls
      · rename_i x hx
        split at hls
        · rename_i r hr
          cases hls
          cases hda : as.drop i with
          | nil => rw [hda] at ha; simp [fitsAll] at ha
          | cons a as' =>
            cases hdb : bs.drop i with
            | nil => rw [hdb] at hb; simp [fitsAll] at hb
            | cons b bs' =>
              rw [hda] at ha; rw [hdb] at hb
              simp only [fitsAll, Bool.and_eq_true] at ha hb
              have ga : as[i]? = some a := by have := congrArg (·[0]?) hda; simpa using this
              have gb : bs[i]? = some b := by have := congrArg (·[0]?) hdb; simpa using this
              obtain ⟨u, gu, ru⟩ := hu.get ga
              obtain ⟨v, gv, rv⟩ := hv.get gb
              have lu : i < us.length := by rcases Nat.lt_or_ge i us.length with h | h; exact h; rw [List.getElem?_eq_none h] at gu; cases gu
              have lv : i < vs.length := by rcases Nat.lt_or_ge i vs.length with h | h; exact h; rw [List.getElem?_eq_none h] at gv; cases gv
              have eu : us[i] = u := by rw [List.getElem?_eq_getElem lu] at gu; exact Option.some.inj gu
              have ev : vs[i] = v := by rw [List.getElem?_eq_getElem lv] at gv; exact Option.some.inj gv
              have h1 := run_part_leaf (P := P) (w := w) hx us f.offset (by rw [hoff]; exact lu)
              have h2 := run_part_leaf (P := P) (w := w) hx vs f.offset (by rw [hoff]; exact lv)
              have h3 := run_equalLeaf (P := P) (w := w) hx ha.1 hb.1 ru rv (d + 1)
              simp only [hoff, eu] at h1
              simp only [hoff, ev] at h2
              have da : as.drop (i + 1) = as' := by rw [← List.drop_drop, hda]; rfl
              have db : bs.drop (i + 1) = bs' := by rw [← List.drop_drop, hdb]; rfl
              cases hc : eqC a b with
              | true =>
                rw [hc] at h3
                obtain ⟨r', hr1, hr2⟩ := ih (i + 1) r hr (by rw [da]; exact ha.2) (by rw [db]; exact hb.2) (none, ()) rfl
                rw [da, db] at hr2
                refine ⟨r', ?_, by simpa [eqCs, hc] using hr2⟩
                simp only [List.forIn_cons]
                simp [hname, hoff, h1, h2, h3]
                simpa using hr1
              | false =>
                rw [hc] at h3
                refine ⟨(some false, ()), ?_, by simp [eqCs, hc]⟩
                simp only [List.forIn_cons]
                simp [hname, hoff, h1, h2, h3]
        · cases hls
      · split at hls
        · rename_i ls1 n hp hvar
          split at hls
          · rename_i hn
            split at hls
            · rename_i r hr
              cases hls
              subst hn
              have fa := fitsAll_append ha
              have fb := fitsAll_append hb
              have h1 := run_part P w hvar us f.offset (fun h => by cases h)
              have h2 := run_part P w hvar vs f.offset (fun h => by cases h)
              rw [hoff] at h1 h2
              have h3 := run_equalInPlain (P := P) (w := w) hp ((hu.drop i).take ls1.length) ((hv.drop i).take ls1.length) fa.1 fb.1 d
              have es := eqCs_split ls1.length (as.drop i) (bs.drop i)
              simp only [partV] at h1 h2
              cases hc : eqCs ((as.drop i).take ls1.length) ((bs.drop i).take ls1.length) with
              | true =>
                rw [hc] at h3
                obtain ⟨r', hr1, hr2⟩ := ih (i + ls1.length) r hr (by rw [← List.drop_drop]; exact fa.2) (by rw [← List.drop_drop]; exact fb.2) (none, ()) rfl
                rw [← List.drop_drop, ← List.drop_drop] at hr2
                refine ⟨r', ?_, by rw [es, hc, Bool.true_and]; exact hr2⟩
                simp only [List.forIn_cons]
                simp [hname, hoff, h1, h2, h3]
                simpa using hr1
              | false =>
                rw [hc] at h3
                refine ⟨(some false, ()), ?_, by rw [es, hc]; simp⟩
                simp only [List.forIn_cons]
                simp [hname, hoff, h1, h2, h3]
            · cases hls
          · cases hls
        · cases hls

theorem run_equalInTwo {P : Program} {w w0 : World} {γ : Gh} {l : Bool} {T : TypeId} {ls : List Leaf} (hT : tTwo P T = some ls) {as bs : List AVal} {us vs : List Value} (hu : RepL γ w0 l as us) (hv : RepL γ w0 l bs vs)
    (ha : fitsAll ls as = true) (hb : fitsAll ls bs = true) (d : Nat) : (Op.equalIn (d + 1 + 1 + 1) T (.agg us.toArray) (.agg vs.toArray)).run P w = .ok (eqCs as bs) w := by
  unfold tTwo at hT
  split at hT
  · rename_i fs hfs
    split at hT
    · cases hT
    · rename_i hstood
      obtain ⟨r, hr1, hr2⟩ := run_forIn_eq2 (P := P) (w := w) d us vs as bs hu hv fs.toList 0 ls hT (by simpa using ha) (by simpa using hb) (none, ()) rfl
      simp only [List.drop_zero] at hr2
      rw [Op.equalIn]
      simp only [Sem.run_bind, run_underlying hfs, Result.andThen_ok, run_program, hstood, Bool.false_eq_true, if_false]
      refine (congrArg (fun x => Result.andThen x _) (?_ : _ = .ok r w)).trans ?_
      · rw [← Array.forIn_toList]; exact hr1
      · simp only [Result.andThen_ok]
        cases he : eqCs as bs with
        | true => rw [he, if_pos rfl] at hr2; rw [hr2]; rfl
        | false => rw [he, if_neg (by simp)] at hr2; rw [hr2]; rfl
  · cases hT

theorem eqGuardType_two {P : Program} {T : TypeId} {ls : List Leaf} (hT : tTwo P T = some ls) (d : Nat) : P.eqGuardType (d + 1 + 1 + 1) T = false := by
  unfold tTwo at hT
  split at hT
  · rename_i fs hfs
    split at hT
    · cases hT
    · have key : ∀ (l : List Field) (i : Nat) (ls : List Leaf), leafs2 P i l = some ls → ∀ f ∈ l, P.eqGuardType (d + 1 + 1) f.type = false := by
        intro l
        induction l with
        | nil => intro _ _ _ f hf; cases hf
        | cons x r ih =>
          intro i ls h f hf
          simp only [leafs2] at h
          split at h
          · cases h
          · split at h
            · rename_i y hx
              split at h
              · rename_i z hr
                rcases List.mem_cons.1 hf with rfl | hf
                · rcases Leaf.spec hx with ⟨_, ht⟩ | ⟨k, _, ht⟩ | ⟨_, ht⟩ <;> simp [Program.eqGuardType, ht]
                · exact ih _ _ hr f hf
              · cases h
            · split at h
              · rename_i ls1 n hp hvar
                split at h
                · split at h
                  · rename_i z hr
                    rcases List.mem_cons.1 hf with rfl | hf
                    · exact eqGuardType_plain hp d
                    · exact ih _ _ hr f hf
                  · cases h
                · cases h
              · cases h
      rw [Program.eqGuardType]
      simp only [hfs]
      rw [← Array.any_toList, List.any_eq_false]
      intro f hf
      simp [key _ _ _ hT f hf]
  · cases hT

theorem run_eqGuard_two {P : Program} {w : World} {T : TypeId} {ls : List Leaf} (hT : tTwo P T = some ls) (op : BinOp) (x y : Operand) (us vs : Array Value) : (eqGuard op T x y (.agg us) (.agg vs)).run P w = .ok () w := by
  unfold eqGuard
  have h0 : Made.depth = (Made.depth - 1) + 1 := by decide
  have hd : P.depth = 2 * (P.types.size + (Made.depth - 1)) + 1 + 1 + 1 + 1 := by
    show 2 * (P.types.size + Made.depth) + 1 + 1 = _
    omega
  have := eqGuardType_two hT (2 * (P.types.size + (Made.depth - 1)) + 1)
  rw [← hd] at this
  cases op <;> simp [this]

def isNilConst : Operand → Bool
  | .const .nilIface => true
  | _ => false

theorem isNilConst_spec {x : Operand} (h : isNilConst x = true) : x = .const .nilIface := by
  unfold isNilConst at h
  split at h
  · rfl
  · cases h

theorem run_equal_bool {P : Program} {T : TypeId} (ht : P.underlying T = some .bool) (w : World) (s t : Bool) : (Op.equal T (.bool s) (.bool t)).run P w = .ok (s == t) w := by
  show (Op.equalIn (9999 + 1) T _ _).run P w = _
  rw [Op.equalIn]
  simp [run_underlying ht]

theorem run_equal_ptr {P : Program} {T e : TypeId} (ht : P.underlying T = some (.pointer e)) (w : World) (a b : Option Addr) (h : a = none ∨ b = none) : (Op.equal T (.pointer a) (.pointer b)).run P w = .ok (a.isNone && b.isNone) w := by
  show (Op.equalIn (9999 + 1) T _ _).run P w = _
  rw [Op.equalIn]
  simp only [Sem.run_bind, run_underlying ht, Result.andThen_ok]
  cases a with
  | none => simp
  | some a => cases b with
    | none => simp
    | some b => rcases h with h | h <;> cases h

theorem run_equal_iface {P : Program} {T : TypeId} {ms : Array (String × TypeId)} (ht : P.underlying T = some (.interface ms)) (w : World) (t : TypeId) (v : Value) :
    (Op.equal T .nilIface .nilIface).run P w = .ok true w ∧ (Op.equal T .nilIface (.iface t v)).run P w = .ok false w ∧ (Op.equal T (.iface t v) .nilIface).run P w = .ok false w := by
  refine ⟨?_, ?_, ?_⟩ <;>
    (show (Op.equalIn (9999 + 1) T _ _).run P w = _
     rw [Op.equalIn]
     simp [run_underlying ht])

theorem run_eqGuard_ptr (P : Program) (w : World) (op : BinOp) (T : TypeId) (x y : Operand) (a b : Option Addr) : (eqGuard op T x y (.pointer a) (.pointer b)).run P w = .ok () w := by
  cases op <;> simp [eqGuard]

theorem binA_ptr {P : Program} {op : BinOp} {T : TypeId} {s : Bool} {p : Bool} {r : AVal} (h : binA.nilP P T op s = some (p, r)) {γ : Gh} {w : World} {l : Bool} {a b : Option Addr} (hab : a = none ∨ b = none) (hs : s = (a.isNone && b.isNone)) (x y : Operand) :
    ∃ z, (do eqGuard op T x y (.pointer a) (.pointer b); binOp op T (.pointer a) (.pointer b) : Sem Value).run P w = .ok z w ∧ Rep γ w l r z := by
  unfold binA.nilP at h
  split at h
  · rename_i e ht
    have hg := run_eqGuard_ptr P w op T x y a b
    have he := run_equal_ptr ht w a b hab
    cases op <;> simp only [nilA, Option.some.injEq, Prod.mk.injEq, reduceCtorEq] at h <;> obtain ⟨rfl, rfl⟩ := h
    · refine ⟨.bool s, ?_, .bool _ _⟩
      rw [hs]
      simp only [Sem.run_bind, hg, Result.andThen_ok]
      cases a <;> cases b <;> first | (simp [binOp]; simp [he]) | (rcases hab with h | h <;> cases h)
    · refine ⟨.bool (!s), ?_, .bool _ _⟩
      rw [hs]
      simp only [Sem.run_bind, hg, Result.andThen_ok]
      cases a <;> cases b <;> first | (simp [binOp]; simp [he]) | (rcases hab with h | h <;> cases h)
  · cases h

theorem nilA_spec {op : BinOp} {s : Bool} {p : Bool} {r : AVal} (h : nilA op s = some (p, r)) : (op = .eql ∧ r = .bool s) ∨ (op = .neq ∧ r = .bool (!s)) := by
  cases op <;> simp only [nilA, Option.some.injEq, Prod.mk.injEq, reduceCtorEq] at h <;> obtain ⟨rfl, rfl⟩ := h <;> simp

/-- 'a op b' of two values: sound. 'nc': is one of the two operands the literal nil? -/
theorem binA_sound {P : Program} {op : BinOp} {T : TypeId} {nc : Bool} {a b : AVal} {p : Bool} {r : AVal} (h : binA P op T nc a b = some (p, r)) (hp : p) {γ : Gh} {w : World} {l : Bool} {u v : Value}
    (hu : Rep γ w l a u) (hv : Rep γ w l b v) {x y : Operand} (hnc : nc = true → (isNilConst x || isNilConst y) = true) :
    ∃ z, (do eqGuard op T x y u v; binOp op T u v : Sem Value).run P w = .ok z w ∧ Rep γ w l r z := by
  unfold binA at h
  split at h
  · rename_i k m k' n
    cases hu; cases hv
    have hg : (eqGuard op T x y (.int k m) (.int k' n)).run P w = .ok () w := by cases op <;> simp [eqGuard]
    split at h
    · simp only [Option.some.injEq, Prod.mk.injEq] at h
      obtain ⟨rfl, rfl⟩ := h
      first | replace hp := of_decide_eq_true hp | skip
      have : ¬ n < 0 := by omega
      exact ⟨_, by simp [hg, binOp, Op.shift, this], .int _ _ _⟩
    · simp only [Option.some.injEq, Prod.mk.injEq] at h
      obtain ⟨rfl, rfl⟩ := h
      first | replace hp := of_decide_eq_true hp | skip
      have : ¬ n < 0 := by omega
      exact ⟨_, by simp [hg, binOp, Op.shift, this], .int _ _ _⟩
    · split at h
      · rename_i hk
        subst hk
        obtain ⟨z, h1, h2⟩ := intA_sound (P := P) (w := w) (T := T) h hp
        exact ⟨z, by simp [hg, h1], h2 γ l⟩
      · cases h
  · rename_i s t
    cases hu; cases hv
    have hg : (eqGuard op T x y (.string ⟨s.toArray⟩) (.string ⟨t.toArray⟩)).run P w = .ok () w := by cases op <;> simp [eqGuard]
    obtain ⟨z, h1, h2⟩ := strA_sound (P := P) (w := w) (T := T) h hp
    exact ⟨z, by simp [hg, h1], h2 γ l⟩
  · rename_i s t
    cases hu; cases hv
    have hg : (eqGuard op T x y (.bool s) (.bool t)).run P w = .ok () w := by cases op <;> simp [eqGuard]
    split at h
    · rename_i hb
      unfold isBool at hb
      split at hb
      · rename_i ht
        have he := run_equal_bool ht w s t
        rcases nilA_spec h with ⟨rfl, rfl⟩ | ⟨rfl, rfl⟩
        · exact ⟨.bool (s == t), by simp [hg, binOp]; simp [he], (by first | exact .bool _ _ | (rw [hold_eq]; exact .bool _ _))⟩
        · exact ⟨.bool (!(s == t)), by simp [hg, binOp]; simp [he], (by first | exact .bool _ _ | (rw [hold_eq]; exact .bool _ _))⟩
      · cases hb
    · cases h
  · rename_i as bs
    cases hu with
    | agg h1 h1' =>
      cases hv with
      | agg h2 h2' =>
        rename_i us vs
        split at h
        · rename_i ls hls
          split at h
          · rename_i hf
            simp only [Bool.and_eq_true] at hf
            have hg := run_eqGuard_plain (w := w) hls op x y us.toArray vs.toArray
            have he := run_equalInPlain (P := P) (w := w) hls h1 h2 hf.1 hf.2 9998
            have he' : (Op.equal T (.agg us.toArray) (.agg vs.toArray)).run P w = .ok (eqCs as bs) w := he
            rcases nilA_spec h with ⟨rfl, rfl⟩ | ⟨rfl, rfl⟩
            · exact ⟨.bool (eqCs as bs), by simp [hg, binOp]; simp [he'], (by first | exact .bool _ _ | (rw [hold_eq]; exact .bool _ _))⟩
            · exact ⟨.bool (!(eqCs as bs)), by simp [hg, binOp]; simp [he'], (by first | exact .bool _ _ | (rw [hold_eq]; exact .bool _ _))⟩
          · cases h
        · split at h
          · rename_i ls hls
            split at h
            · rename_i hf
              simp only [Bool.and_eq_true] at hf
              have hg := run_eqGuard_two (w := w) hls op x y us.toArray vs.toArray
              have he := run_equalInTwo (P := P) (w := w) hls h1 h2 hf.1 hf.2 9997
              have he' : (Op.equal T (.agg us.toArray) (.agg vs.toArray)).run P w = .ok (eqCs as bs) w := he
              rcases nilA_spec h with ⟨rfl, rfl⟩ | ⟨rfl, rfl⟩
              · exact ⟨.bool (eqCs as bs), by simp [hg, binOp]; simp [he'], (by first | exact .bool _ _ | (rw [hold_eq]; exact .bool _ _))⟩
              · exact ⟨.bool (!(eqCs as bs)), by simp [hg, binOp]; simp [he'], (by first | exact .bool _ _ | (rw [hold_eq]; exact .bool _ _))⟩
            · cases h
          · cases h
  · cases hu; cases hv; exact binA_ptr h (.inl rfl) rfl x y
  · cases hu; cases hv; exact binA_ptr h (.inl rfl) rfl x y
  · cases hu; cases hv; exact binA_ptr h (.inr rfl) rfl x y
  · cases hu; cases hv; exact binA_ptr h (.inl rfl) rfl x y
  · cases hu; cases hv; exact binA_ptr h (.inr rfl) rfl x y
  · cases hu; cases hv
    split at h
    · rename_i hn
      have hn := hnc hn
      unfold binA.nilI at h
      split at h
      · rename_i ms ht
        have he := (run_equal_iface ht w 0 .nilIface).1
        have hg : (eqGuard op T x y .nilIface .nilIface).run P w = .ok () w := by
          have hn : isNilConst x = true ∨ isNilConst y = true := by simpa using hn
          rcases hn with h | h
          · rw [isNilConst_spec h]; cases op <;> simp [eqGuard]
          · rw [isNilConst_spec h]; cases op <;> simp [eqGuard]
        rcases nilA_spec h with ⟨rfl, rfl⟩ | ⟨rfl, rfl⟩
        · exact ⟨.bool true, by simp [hg, binOp]; simp [he], (by first | exact .bool _ _ | (rw [hold_eq]; exact .bool _ _))⟩
        · exact ⟨.bool (!true), by simp [hg, binOp]; simp [he], (by first | exact .bool _ _ | (rw [hold_eq]; exact .bool _ _))⟩
      · cases h
    · cases h
  · cases hu; cases hv
    rename_i t c v' hv'
    unfold binA.nilI at h
    split at h
    · rename_i ms ht
      have he := (run_equal_iface ht w t v').2.1
      have hg : (eqGuard op T x y .nilIface (.iface t v')).run P w = .ok () w := by cases op <;> simp [eqGuard]
      rcases nilA_spec h with ⟨rfl, rfl⟩ | ⟨rfl, rfl⟩
      · exact ⟨.bool false, by simp [hg, binOp]; simp [he], (by first | exact .bool _ _ | (rw [hold_eq]; exact .bool _ _))⟩
      · exact ⟨.bool (!false), by simp [hg, binOp]; simp [he], (by first | exact .bool _ _ | (rw [hold_eq]; exact .bool _ _))⟩
    · cases h
  · cases hu; cases hv
    rename_i t c v' hv'
    unfold binA.nilI at h
    split at h
    · rename_i ms ht
      have he := (run_equal_iface ht w t v').2.2
      have hg : (eqGuard op T x y (.iface t v') .nilIface).run P w = .ok () w := by cases op <;> simp [eqGuard]
      rcases nilA_spec h with ⟨rfl, rfl⟩ | ⟨rfl, rfl⟩
      · exact ⟨.bool false, by simp [hg, binOp]; simp [he], (by first | exact .bool _ _ | (rw [hold_eq]; exact .bool _ _))⟩
      · exact ⟨.bool (!false), by simp [hg, binOp]; simp [he], (by first | exact .bool _ _ | (rw [hold_eq]; exact .bool _ _))⟩
    · cases h
  · cases h

/-! ### Maps' keys -/
/-- A value that can be a key: a number, a text, a bool, or a struct of such. -/
def kOk (P : Program) (T : TypeId) (a : AVal) : Bool :=
  match leafOf P T with
  | some x => x.fits a
  | none =>
    match tPlain P T with
    | some ls => (match a with | .agg as => fitsAll ls as | _ => false)
    | none => false
def eqK : AVal → AVal → Bool
  | .agg as, .agg bs => eqCs as bs
  | a, b => eqC a b
def mapFind (k : AVal) : List (AVal × AVal) → Nat → Option (Nat × AVal)
  | [], _ => none
  | x :: r, i => match eqK k x.1 with
    | true => some (i, x.2)
    | false => mapFind k r (i + 1)
def mapPut (k v : AVal) (es : List (AVal × AVal)) : List (AVal × AVal) :=
  match mapFind k es 0 with
  | some x => es.set x.1 (k, v)
  | none => es ++ [(k, v)]
def mapDel (k : AVal) (es : List (AVal × AVal)) : List (AVal × AVal) :=
  match mapFind k es 0 with
  | some x => es.eraseIdx x.1
  | none => es

theorem eqK_leaf {x : Leaf} {a b : AVal} (h : x.fits a = true) : eqK a b = eqC a b := by
  rcases fits_spec h with ⟨_, b, rfl⟩ | ⟨k, n, _, rfl⟩ | ⟨_, s, rfl⟩ <;> rfl

theorem run_equalK {P : Program} {w w0 : World} {γ : Gh} {l : Bool} {T : TypeId} {a b : AVal} (ha : kOk P T a = true) (hb : kOk P T b = true) {u v : Value} (hu : Rep γ w0 l a u) (hv : Rep γ w0 l b v) :
    (Op.equal T u v).run P w = .ok (eqK a b) w := by
  unfold kOk at ha hb
  cases hx : leafOf P T with
  | some x =>
    rw [hx] at ha hb
    simp only [] at ha hb
    rw [eqK_leaf ha]
    exact run_equalLeaf hx ha hb hu hv 9999
  | none =>
    rw [hx] at ha hb
    simp only [] at ha hb
    cases ht : tPlain P T with
    | none => rw [ht] at ha; cases ha
    | some ls =>
      rw [ht] at ha hb
      simp only [] at ha hb
      split at ha
      · split at hb
        · cases hu with
          | agg hu h1 => cases hv with
            | agg hv h2 => exact run_equalInPlain ht hu hv ha hb 9998
        · cases hb
      · cases ha

theorem eqC_val {γ : Gh} {w : World} {l : Bool} {x : Leaf} {a b : AVal} (ha : x.fits a = true) (hb : x.fits b = true) (he : eqC a b = true) {u v : Value} (hu : Rep γ w l a u) (hv : Rep γ w l b v) : u = v ∧ ∀ n, Instr.sameBits n u u = true := by
  rcases fits_spec ha with ⟨rfl, x, rfl⟩ | ⟨k, n, rfl, rfl⟩ | ⟨rfl, s, rfl⟩
  · rcases fits_spec hb with ⟨_, y, rfl⟩ | ⟨_, _, h, _⟩ | ⟨h, _⟩
    · simp only [eqC, beq_iff_eq] at he
      subst he
      cases hu; cases hv
      exact ⟨rfl, fun n => by cases n <;> simp [Instr.sameBits]⟩
    · cases h
    · cases h
  · rcases fits_spec hb with ⟨h, _⟩ | ⟨k', m, h, rfl⟩ | ⟨h, _⟩
    · cases h
    · cases h
      simp only [eqC, beq_iff_eq] at he
      subst he
      cases hu; cases hv
      exact ⟨rfl, fun n => by cases n <;> simp [Instr.sameBits]⟩
    · cases h
  · rcases fits_spec hb with ⟨h, _⟩ | ⟨_, _, h, _⟩ | ⟨_, t, rfl⟩
    · cases h
    · cases h
    · simp only [eqC, beq_iff_eq] at he
      subst he
      cases hu; cases hv
      have hs : ((ByteArray.mk s.toArray == ByteArray.mk s.toArray) : Bool) = true := by
        show (s.toArray == s.toArray) = true
        simp
      exact ⟨rfl, fun n => by cases n <;> simp only [Instr.sameBits, hs]⟩

theorem eqCs_val {γ : Gh} {w : World} {l : Bool} : ∀ {ls : List Leaf} {as bs : List AVal} {us vs : List Value}, fitsAll ls as = true → fitsAll ls bs = true → eqCs as bs = true → RepL γ w l as us → RepL γ w l bs vs →
    us = vs ∧ ∀ n, (us.zip us).all (fun x => Instr.sameBits n x.1 x.2) = true
  | [], [], [], _, _, _, _, _, .nil _, .nil _ => ⟨rfl, fun n => rfl⟩
  | x :: xs, a :: as, b :: bs, _, _, ha, hb, he, .cons h1 t1, .cons h2 t2 => by
    simp only [fitsAll, Bool.and_eq_true] at ha hb
    simp only [eqCs, Bool.and_eq_true] at he
    obtain ⟨e1, e2⟩ := eqC_val ha.1 hb.1 he.1 h1 h2
    obtain ⟨e3, e4⟩ := eqCs_val ha.2 hb.2 he.2 t1 t2
    exact ⟨by rw [e1, e3], fun n => by simp only [List.zip_cons_cons, List.all_cons, e2 n, e4 n, Bool.and_self]⟩
  | [], [], _ :: _, _, _, _, hb, _, _, _ => by simp [fitsAll] at hb
  | [], _ :: _, _, _, _, ha, _, _, _, _ => by simp [fitsAll] at ha
  | _ :: _, [], _, _, _, ha, _, _, _, _ => by simp [fitsAll] at ha
  | _ :: _, _ :: _, [], _, _, _, hb, _, _, _ => by simp [fitsAll] at hb

/-- A key that is laid again is the same value. -/
theorem run_keyStays {P : Program} {w w0 : World} {γ : Gh} {l : Bool} {T : TypeId} {a b : AVal} (ha : kOk P T a = true) (hb : kOk P T b = true) (he : eqK a b = true) {u v : Value} (hu : Rep γ w0 l a u) (hv : Rep γ w0 l b v) :
    (Instr.keyThatStays v u).run P w = .ok u w := by
  have key : v = u ∧ Instr.sameBits 10000 u u = true := by
    unfold kOk at ha hb
    cases hx : leafOf P T with
    | some x =>
      rw [hx] at ha hb
      simp only [] at ha hb
      rw [eqK_leaf ha] at he
      obtain ⟨h1, h2⟩ := eqC_val ha hb he hu hv
      exact ⟨h1.symm, h2 _⟩
    | none =>
      rw [hx] at ha hb
      simp only [] at ha hb
      cases ht : tPlain P T with
      | none => rw [ht] at ha; cases ha
      | some ls =>
        rw [ht] at ha hb
        simp only [] at ha hb
        split at ha
        · split at hb
          · cases hu with
            | agg hu h1 => cases hv with
              | agg hv h2 =>
                obtain ⟨e1, e2⟩ := eqCs_val ha hb he hu hv
                subst e1
                exact ⟨rfl, by simp only [Instr.sameBits, beq_self_eq_true, Bool.true_and]; exact e2 9999⟩
          · cases hb
        · cases ha
  obtain ⟨rfl, h⟩ := key
  simp [Instr.keyThatStays, h]

theorem run_forIn_ck {P : Program} {w : World} {e : Bool} (d : Nat) (us : List Value) : ∀ (fs : List Field) (i : Nat) (ls : List Leaf), leafs P i fs = some ls → i + ls.length ≤ us.length →
    (forIn (m := Sem) fs PUnit.unit fun f r =>
      (do
        if f.name ≠ "_" then Instr.checkKey e (d + 1) f.type (← part f.type us.toArray f.offset)
        return ForInStep.yield PUnit.unit : Sem (ForInStep PUnit))).run P w = .ok PUnit.unit w := by
  intro fs
  induction fs with
  | nil => intro i ls _ _; simp
  | cons f fs ih =>
    intro i ls hls hl
    simp only [leafs] at hls
    split at hls
    · cases hls
    · rename_i hno
      have hname : f.name ≠ "_" := fun e => hno (.inl e)
      have hoff : f.offset = i := Classical.byContradiction fun e => hno (.inr e)
      split at hls
      · rename_i x r hx hr
        cases hls
        simp only [List.length_cons] at hl
        have lu : i < us.length := by omega
        have h1 := run_part_leaf (P := P) (w := w) hx us f.offset (by rw [hoff]; exact lu)
        simp only [hoff] at h1
        have h2 : (Instr.checkKey e (d + 1) f.type us[i]).run P w = .ok () w := by
          rcases Leaf.spec hx with ⟨rfl, ht⟩ | ⟨k, rfl, ht⟩ | ⟨rfl, ht⟩ <;> simp [Instr.checkKey, run_underlying ht]
        have h3 := ih (i + 1) r hr (by omega)
        simp only [List.forIn_cons]
        simp [hname, hoff, h1, h2]
        simpa using h3
      · cases hls

theorem fitsAll_length : ∀ {ls : List Leaf} {as : List AVal}, fitsAll ls as = true → ls.length = as.length
  | [], [], _ => rfl
  | x :: xs, a :: as, h => by
    simp only [fitsAll, Bool.and_eq_true] at h
    simp [fitsAll_length h.2]
  | [], _ :: _, h => by simp [fitsAll] at h
  | _ :: _, [], h => by simp [fitsAll] at h

theorem run_checkKey {P : Program} {w w0 : World} {γ : Gh} {l e : Bool} {T : TypeId} {a : AVal} (ha : kOk P T a = true) {u : Value} (hu : Rep γ w0 l a u) : (Instr.checkKey e 10000 T u).run P w = .ok () w := by
  unfold kOk at ha
  cases hx : leafOf P T with
  | some x =>
    rcases Leaf.spec hx with ⟨rfl, ht⟩ | ⟨k, rfl, ht⟩ | ⟨rfl, ht⟩ <;> (rw [Instr.checkKey]; simp only [Sem.run_bind, run_underlying ht, Result.andThen_ok]; rfl)
  | none =>
    rw [hx] at ha
    simp only [] at ha
    cases ht : tPlain P T with
    | none => rw [ht] at ha; cases ha
    | some ls =>
      rw [ht] at ha
      simp only [] at ha
      split at ha
      · cases hu with
        | @agg _ _ vs hu h1 =>
          unfold tPlain at ht
          split at ht
          · rename_i fs hfs
            split at ht
            · cases ht
            · have hl := fitsAll_length ha
              have hl2 := hu.length
              have := run_forIn_ck (P := P) (w := w) (e := e) 9998 vs fs.toList 0 ls ht (by omega)
              rw [Instr.checkKey]
              simp only [Sem.run_bind, run_underlying hfs, Result.andThen_ok]
              rw [← Array.forIn_toList]
              rw [this]
              rfl
          · cases ht
      · cases ha
end Go.AL
