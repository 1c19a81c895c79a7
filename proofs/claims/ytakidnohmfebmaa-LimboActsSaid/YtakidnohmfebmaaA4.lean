/-
  The abstract layer, part 4: the other operations that leave the world alone.
-/
import Derived.Test.YtakidnohmfebmaaA3
import Derived.Laws.Cover4
namespace Go.AL
noncomputable section
set_option linter.unusedSimpArgs false
set_option linter.unusedVariables false

def unA (op : UnOp) : AVal → Option (Bool × AVal)
  | .int k n =>
    match op with
    | .neg => some (true, .int k (k.wrap (0 - n)))
    | .xor => some (true, .int k (bits .xor k (if k.signed then -1 else k.max) n))
    | _ => none
  | .bool b =>
    match op with
    | .not => some (true, .bool (!b))
    | _ => none
  | _ => none

def byteOf : AVal → UInt8
  | .int _ n => UInt8.ofNat n.toNat
  | _ => 0

def isU8 : AVal → Bool
  | .int .u8 _ => true
  | _ => false

def isBytes (P : Program) (t : TypeId) : Bool :=
  match P.underlying t with
  | some (.slice e) => isInt P e .u8
  | _ => false

/-- A rune's bytes. -/
def encA (n : Int) : List UInt8 := (Utf8.encode n).data.toList
/-- Runes' bytes. -/
def encV : AVal → List UInt8
  | .int _ n => encA n
  | _ => []
def isR32 : AVal → Bool
  | .int .i32 _ => true
  | _ => false
def isRnT (P : Program) (t : TypeId) : Bool :=
  match P.underlying t with
  | some (.slice e) => isInt P e .i32
  | _ => false
def convA (P : Program) (lk : Oid → Option AObj) (src dst : TypeId) : AVal → Option (Bool × AVal)
  | .int _ n =>
    match P.underlying src, P.underlying dst with
    | some _, some (.int k) => some (true, .int k (k.wrap n))
    | some _, some .string => some (true, .str (encA n))
    | _, _ => none
  | .str s =>
    match P.underlying src, P.underlying dst with
    | some .string, some .string => some (true, .str s)
    | _, _ => none
  | .slice es _ _ => if isBytes P src && isStr P dst then some (decide (es.all isU8 = true), .str (es.map byteOf)) else
    if isRnT P src && isStr P dst then some (decide (es.all isR32 = true), .str (es.flatMap encV)) else none
  | .arr o off len _ =>
    if isBytes P src && isStr P dst then
      match lk o with
      | some (.cells cs) => some (decide (off + len ≤ cs.length ∧ ((cs.drop off).take len).all isU8 = true), .str (((cs.drop off).take len).map byteOf))
      | _ => none
    else none
  | _ => none

def fieldAddrA (P : Program) (S i : Nat) (x : AVal) : Option (Bool × AVal) :=
  match tField P S i with
  | some (off, n, _) =>
    if n = 0 then none else
    match x with
    | .iptr cs => some (true, .iptr (cs.drop off))
    | .ptr o k => some (true, .ptr o (k + off))
    | _ => none
  | none => none

def fieldA (P : Program) (S i : Nat) (x : AVal) : Option (Bool × AVal) :=
  match tField P S i, x with
  | some (off, n, g), .agg cs => some (decide (off < cs.length), partA cs off n g)
  | _, _ => none

/-- An element's cells. -/
def elemAt (es : List AVal) (i : Int) : List AVal := (es.getD i.toNat .undef).cells

def indexAddrA (P : Program) (T : TypeId) (x ix : AVal) : Option (Bool × AVal) :=
  match ix with
  | .int _ i =>
    match x with
    | .slice es s _ =>
      match tElem P T with
      | some (_, n, _, _) => if n = s then some (decide (0 ≤ i ∧ i < es.length), .iptr (elemAt es i)) else none
      | none => none
    | .arr o off len _ =>
      match tElem P T with
      | some (_, n, _, _) => some (decide (0 ≤ i ∧ i < len), .ptr o (off + i.toNat * n))
      | none => none
    | .ptr o off =>
      match tArr P T with
      | some (m, n, _) => some (decide (0 ≤ i ∧ i < m), .ptr o (off + i.toNat * n))
      | none => none
    | .iptr cs =>
      match tArr P T with
      | some (m, n, _) => some (decide (0 ≤ i ∧ i < m), .iptr (cs.drop (i.toNat * n)))
      | none => none
    | _ => none
  | _ => none

def indexA (P : Program) (T : TypeId) (x ix : AVal) : Option (Bool × AVal) :=
  match ix with
  | .int _ i =>
    match x with
    | .str s => if isStr P T then some (decide (0 ≤ i ∧ i < s.length), .int .u8 (s.getD i.toNat 0).toNat) else none
    | .agg cs =>
      match tArr P T with
      | some (m, n, g) => some (decide (0 ≤ i ∧ i < m ∧ i.toNat * n < cs.length), partA cs (i.toNat * n) n g)
      | none => none
    | _ => none
  | _ => none

/-! ### What is loaded is written down as its type says -/

/-- What a cell holds. -/
inductive Sh where
  | bool | int (k : IntKind) | str | slice (w : Nat) | any

def AVal.boolOf : AVal → Bool
  | .bool b => b
  | _ => false
def AVal.intOf : AVal → Int
  | .int _ n => n
  | _ => 0
def AVal.strOf : AVal → List UInt8
  | .str s => s
  | _ => []
def AVal.elems : AVal → List AVal
  | .slice es _ _ => es
  | _ => []

def etaC : Sh → AVal → AVal
  | .bool, v => .bool v.boolOf
  | .int k, v => .int k v.intOf
  | .str, v => .str v.strOf
  | .slice w, v => .slice v.elems w .ro
  | .any, v => v

def sliceOk (w : Nat) : AVal → Bool
  | .slice _ s t => s == w || t.isNil
  | _ => false

def etaOk : Sh → AVal → Bool
  | .bool, v => match v with | .bool _ => true | _ => false
  | .int k, v => match v with | .int k' _ => k == k' | _ => false
  | .str, v => match v with | .str _ => true | _ => false
  | .slice w, v => sliceOk w v
  | .any, _ => true

def etaL : List Sh → List AVal → Nat → List AVal
  | [], _, _ => []
  | s :: r, cs, i => etaC s (cs.getD i .undef) :: etaL r cs (i + 1)

def etaOkL : List Sh → List AVal → Nat → Bool
  | [], _, _ => true
  | s :: r, cs, i => etaOk s (cs.getD i .undef) && etaOkL r cs (i + 1)

def cellSh (P : Program) (deep : Bool) (T : TypeId) : Sh :=
  match P.underlying T with
  | some .bool => .bool
  | some (.int k) => .int k
  | some .string => .str
  | some (.slice e) =>
    match deep with
    | true => match P.info? e with
      | some inf => .slice inf.size
      | none => .any
    | false => .any
  | _ => .any

def fieldShs (r : TypeId → Option (List Sh)) : List Field → Option (List Sh)
  | [] => some []
  | f :: fs => match r f.type, fieldShs r fs with
    | some a, some b => some (a ++ b)
    | _, _ => none

/-- A type's cells. -/
def shOf (P : Program) (deep : Bool) : Nat → TypeId → Option (List Sh)
  | 0, _ => none
  | n + 1, T => match P.underlying T with
    | some (.struct fs) => fieldShs (shOf P deep n) fs.toList
    | some (.array m e) => if m ≤ 64 then (match shOf P deep n e with | some a => some (List.replicate m a).flatten | none => none) else none
    | some _ => some [cellSh P deep T]
    | none => none

def loadV (P : Program) (T : TypeId) (deep : Bool) (n : Nat) (g : Bool) (cs : List AVal) (off : Nat) : Bool × AVal :=
  match g with
  | false => (etaOk (cellSh P deep T) (cs.getD off .undef), etaC (cellSh P deep T) (cs.getD off .undef))
  | true => match shOf P deep 6 T with
    | some shs => if shs.length = n then (etaOkL shs cs off, .agg (etaL shs cs off)) else (true, partA cs off n true)
    | none => (true, partA cs off n true)

def loadA (P : Program) (lk : Oid → Option AObj) (T : TypeId) (x : AVal) : Option (Bool × AVal) :=
  match tVar P T with
  | some (n, g) =>
    match x with
    | .iptr cs => some (decide (n ≤ cs.length ∧ 0 < n) && (loadV P T true n g cs 0).1, (loadV P T true n g cs 0).2)
    | .ptr o off =>
      match lk o with
      | some (.cells cs) => some (decide (off + n ≤ cs.length ∧ 0 < n) && (loadV P T false n g cs off).1, (loadV P T false n g cs off).2)
      | _ => none
    | _ => none
  | none => none

/-- A bound of a slice expression, or its default. -/
def boundA (d : Int) : Option AVal → Option Int
  | none => some d
  | some (.int _ n) => some n
  | some _ => none

def sliceTag (lo hi : Option AVal) : Tag → Tag
  | .nil => .nil
  | .ro => .ro
  | .full => match hi with | none => .full | some _ => .ro
  | .own p => match lo, hi with | none, none => .own p | _, _ => .ro

def sliceA (P : Program) (T : TypeId) (x : AVal) (lo hi mx : Option AVal) : Option (Bool × AVal) :=
  match x with
  | .str s =>
    if isStr P T then
      match mx, boundA 0 lo, boundA s.length hi with
      | none, some l, some h => some (decide (0 ≤ l ∧ l ≤ h ∧ h ≤ s.length), .str ((s.drop l.toNat).take (h.toNat - l.toNat)))
      | _, _, _ => none
    else none
  | .slice es s tag =>
    match tElem P T with
    | some (_, n, _, _) =>
      if n = s ∨ tag.isNil = true then
        match mx with
        | none =>
          match boundA 0 lo, boundA es.length hi with
          | some l, some h => some (decide (0 ≤ l ∧ l ≤ h ∧ h ≤ es.length), .slice ((es.drop l.toNat).take (h.toNat - l.toNat)) s (sliceTag lo hi tag))
          | _, _ => none
        | some m =>
          match boundA 0 lo, hi, m with
          | some l, some (.int _ h), .int _ m => some (decide (0 ≤ l ∧ l ≤ h ∧ h ≤ es.length ∧ m = h), .slice ((es.drop l.toNat).take (h.toNat - l.toNat)) s .full)
          | _, _, _ => none
      else none
    | none => none
  | .arr o off len cap =>
    match tElem P T, boundA 0 lo, boundA len hi with
    | some (_, n, _, _), some l, some h =>
      match mx with
      | none => some (decide (0 ≤ l ∧ l ≤ h ∧ h ≤ cap), .arr o (off + l.toNat * n) (h.toNat - l.toNat) (cap - l.toNat))
      | some m =>
        match hi, m with
        | some (.int _ _), .int _ m => some (decide (0 ≤ l ∧ l ≤ h ∧ h ≤ m ∧ m ≤ cap), .arr o (off + l.toNat * n) (h.toNat - l.toNat) (m.toNat - l.toNat))
        | _, _ => none
    | _, _, _ => none
  | _ => none

def lenA (P : Program) (lk : Oid → Option AObj) (T : TypeId) (x : AVal) : Option (Bool × AVal) :=
  match P.underlying T, x with
  | some .string, .str s => some (true, .int .i64 s.length)
  | some (.slice _), .slice es _ _ => some (true, .int .i64 es.length)
  | some (.slice _), .arr _ _ len _ => some (true, .int .i64 len)
  | some (.slice _), .mrow _ len => some (true, .int .i64 len)
  | some (.array n _), _ => some (true, .int .i64 n)
  | some (.map _ _), .nilmap => some (true, .int .i64 0)
  | some (.map _ _), .map o =>
    match lk o with
    | some (.map es) => some (true, .int .i64 es.length)
    | _ => none
  | _, _ => none

def maxA : AVal → List AVal → Option AVal
  | a, [] => some a
  | .int k x, .int _ y :: r => maxA (.int k (if x < y then y else x)) r
  | _, _ => none

def minA : AVal → List AVal → Option AVal
  | a, [] => some a
  | .int k x, .int _ y :: r => minA (.int k (if y < x then y else x)) r
  | _, _ => none

/-- Cells laid over others. -/
def setRange (cs : List AVal) (off : Nat) (xs : List AVal) : List AVal := cs.take off ++ xs ++ cs.drop (off + xs.length)

/-- Is a value's number of cells known? -/
def AVal.sized : AVal → Bool
  | .agg _ => true
  | .undef => false
  | .tuple _ => false
  | _ => true

def fillA (place : Nat → Option (Nat × Nat)) (cs : List AVal) : List (Nat × AVal) → Option (List AVal)
  | [] => some cs
  | x :: r =>
    match place x.1 with
    | some (off, n) => if x.2.sized && x.2.cells.length == n && decide (off + n ≤ cs.length) then fillA place (setRange cs off x.2.cells) r else none
    | none => none

def structPlace (P : Program) (T : TypeId) (i : Nat) : Option (Nat × Nat) :=
  match tField P T i with
  | some (off, n, _) => some (off, n)
  | none => none

def absZ : Value → Option AVal
  | .agg cs => if cs.toList.all fun v => v.oneCell' then some (.agg (cs.toList.map absV)) else none
  | .tuple _ => none
  | v => some (absV v)

/-- A type's zero value. -/
def zeroV (P : Program) (T : TypeId) : Option AVal :=
  match P.info? T with
  | some inf => match inf.zero with
    | some z => absZ z
    | none => none
  | none => none

/-- .. its cells. -/
def zeroA (P : Program) (T : TypeId) : Option (List AVal) :=
  match zeroV P T with
  | some v => some v.cells
  | none => none

def isStruct (P : Program) (T : TypeId) : Bool :=
  match P.underlying T with
  | some (.struct fs) => fs.toList.all fun f => (P.info? f.type).isSome
  | _ => false

def isStruct0 (P : Program) (T : TypeId) : Bool :=
  match P.underlying T with
  | some (.struct _) => true
  | _ => false

def buildA (P : Program) (T : TypeId) (parts : List (Nat × AVal)) : Option (Bool × AVal) :=
  if isStruct P T then
    match zeroA P T with
    | some zs => match fillA (structPlace P T) zs parts with
      | some cs => some (true, .agg cs)
      | none => none
    | none => none
  else
    match tArr P T, zeroA P T with
    | some (_, n, _), some zs => match fillA (fun i => some (i * n, n)) zs parts with
      | some cs => some (true, .agg cs)
      | none => none
    | _, _ => none

def isIface (P : Program) (T : TypeId) : Option Bool :=
  match P.underlying T with
  | some (.interface _) => some true
  | some _ => some false
  | none => none

def assertA (P : Program) (x : AVal) (T : TypeId) (ok : Bool) : Option (Bool × AVal) :=
  match isIface P T, x with
  | some false, .iface t v =>
    if ok then
      if t = T then some (true, .tuple [v, .bool true]) else
      match zeroV P T with
      | some z => some (true, .tuple [z, .bool false])
      | none => none
    else some (decide (t = T), v)
  | some false, .nilIface =>
    if ok then
      match zeroV P T with
      | some z => some (true, .tuple [z, .bool false])
      | none => none
    else none
  | _, _ => none

def nilCheckA : AVal → Option (Bool × AVal)
  | .ptr o k => some (true, .ptr o k)
  | .iptr cs => some (true, .iptr cs)
  | .iface t v => some (true, .iface t v)
  | .func (.func f) a c => some (true, .func (.func f) a c)
  | _ => none

def pickA (c a b : AVal) : Option (Bool × AVal) :=
  match c with
  | .bool t => some (true, bif t then a else b)
  | _ => none

def capA (P : Program) (T : TypeId) (x : AVal) : Option (Bool × AVal) :=
  match P.underlying T, x with
  | some (.slice _), .arr _ _ _ cap => some (true, .int .i64 cap)
  | _, _ => none

def builtinA (P : Program) (lk : Oid → Option AObj) (b : Builtin) (ts : List TypeId) (xs : List AVal) : Option (Bool × AVal) :=
  match b, ts, xs with
  | .len, [t], [x] => lenA P lk t x
  | .cap, [t], [x] => capA P t x
  | .max, _, x :: r => (maxA x r).map fun v => (true, v)
  | .min, _, x :: r => (minA x r).map fun v => (true, v)
  | _, _, _ => none

def isAggN (n : Nat) : AVal → Bool
  | .agg cs => cs.length == n
  | _ => false
/-- A map's element, written down as its type says. -/
def lookV (P : Program) (T : TypeId) (v : AVal) : Bool × AVal :=
  match tVar P T with
  | some (n, g) =>
    match g with
    | false => (etaOk (cellSh P true T) v, etaC (cellSh P true T) v)
    | true => match shOf P true 6 T with
      | some shs => (isAggN n v && (shs.length == n && etaOkL shs v.cells 0), .agg (etaL shs v.cells 0))
      | none => (false, v)
  | none => (false, v)
def mapVal (k z : AVal) (es : List (AVal × AVal)) : AVal :=
  match mapFind k es 0 with
  | some x => x.2
  | none => z
def keysOk (P : Program) (T : TypeId) (es : List (AVal × AVal)) : Bool := es.all fun e => kOk P T e.1
def okVal (ok : Bool) (v : AVal) (b : Bool) : AVal :=
  match ok with
  | true => .tuple [v, .bool b]
  | false => v
def lookupA (P : Program) (lk : Oid → Option AObj) (T : TypeId) (x ix : AVal) (ok : Bool) : Option (Bool × AVal) :=
  match P.underlying T with
  | some (.map kt et) =>
    match zeroV P et with
    | some z =>
      match x with
      | .nilmap => some (kOk P kt ix, okVal ok z false)
      | .map o =>
        match lk o with
        | some (.map es) => some (kOk P kt ix && (keysOk P kt es && (lookV P et (mapVal ix z es)).1), okVal ok (lookV P et (mapVal ix z es)).2 (hold (mapFind ix es 0).isSome))
        | _ => none
      | _ => none
    | none => none
  | _ => none
/-- An operation that leaves the world alone: what is asked, what it yields. -/
def pureOp (P : Program) (ρ : Operand → AVal) (lk : Oid → Option AObj) : Op → Option (Bool × AVal)
  | .move x => some (true, ρ x)
  | .assign x => some (true, ρ x)
  | .pick c a b => pickA (ρ c) (ρ a) (ρ b)
  | .nilCheck x => nilCheckA (ρ x)
  | .binOp op T x y _ => binA P op T (isNilConst x || isNilConst y) (ρ x) (ρ y)
  | .unOp op _ x => unA op (ρ x)
  | .convert src dst x => convA P lk src dst (ρ x)
  | .makeInterface T x => match isIface P T with | some false => some (true, .iface T (ρ x)) | _ => none
  | .makeFunc fn f c => some (true, .func fn (f.toList.map ρ) (c.toList.map ρ))
  | .slice T x lo hi mx => sliceA P T (ρ x) (lo.map ρ) (hi.map ρ) (mx.map ρ)
  | .fieldAddr S x i => fieldAddrA P S i (ρ x)
  | .field S x i => fieldA P S i (ρ x)
  | .indexAddr T x i => indexAddrA P T (ρ x) (ρ i)
  | .index T x i => indexA P T (ρ x) (ρ i)
  | .load T x => loadA P lk T (ρ x)
  | .lookup T x i ok => lookupA P lk T (ρ x) (ρ i) ok
  | .build T ps => buildA P T (ps.toList.map fun x => (x.1, ρ x.2))
  | .typeAssert x _ T ok => assertA P (ρ x) T ok
  | .extract t i => match ρ t with | .tuple vs => (match vs[i]? with | some v => some (true, v) | none => none) | _ => none
  | .call ⟨.builtin b, args, ts⟩ => builtinA P lk b ts.toList (args.toList.map ρ)
  | _ => none

/-! ### Soundness -/

structure Ok (γ : Gh) (w : World) (lk : Oid → Option AObj) : Prop where
  obj : ∀ i x, lk i = some x → (∀ s g, x ≠ .buf [] s g) → ∃ b, γ.obj i = some b ∧ objOk γ w (!i.isOut) b x

theorem Conc.ok {γ : Gh} {w : World} {a : Act} {st : St} (h : Conc γ w a st) : Ok γ w st.objAt := ⟨fun _ _ hx hn => h.inv.objc hx hn⟩

/-- The run yields a value that the abstract one is true of, in the same world. -/
def Yields (P : Program) (γ : Gh) (w : World) (s : Sem Value) (r : AVal) : Prop := ∃ u, s.run P w = .ok u w ∧ Rep γ w true r u

theorem unA_sound {P : Program} {γ : Gh} {w : World} {op : UnOp} {a : AVal} {u : Value} (hu : Rep γ w true a u) {p : Bool} {r : AVal} (h : unA op a = some (p, r)) (_hp : p) : Yields P γ w (Op.unary op u) r := by
  unfold unA at h
  split at h
  · cases hu
    split at h <;> simp only [Option.some.injEq, Prod.mk.injEq, reduceCtorEq] at h <;> obtain ⟨rfl, rfl⟩ := h
    · exact ⟨_, by simp [Op.unary, Op.intArith], .int _ _ _⟩
    · exact ⟨_, by simp [Op.unary, intBits_xor], .int _ _ _⟩
  · cases hu
    split at h <;> simp only [Option.some.injEq, Prod.mk.injEq, reduceCtorEq] at h <;> obtain ⟨rfl, rfl⟩ := h
    exact ⟨_, by simp [Op.unary], .bool _ _⟩
  · cases h

theorem run_bytesToString {P : Program} {γ : Gh} {w : World} {l : Bool} {es : List AVal} {vs : List Value} (h : RepL γ w l es vs) (h8 : es.all isU8 = true) (a : Addr) (c : Nat)
    (hc : ∀ j v, vs[j]? = some v → w.cell? (a.add j) = some v) :
    (Conv.bytesToString (.slice (some a) es.length c)).run P w = .ok (.string ⟨(es.map byteOf).toArray⟩) w := by
  have hvs : ∃ ns : List Int, vs = ns.map (Value.int .u8) ∧ es.map byteOf = ns.map (fun n => UInt8.ofNat n.toNat) := by
    clear hc
    induction es generalizing vs with
    | nil => cases h; exact ⟨[], rfl, rfl⟩
    | cons e es ih =>
      cases h with
      | cons h t =>
        simp only [List.all_cons, Bool.and_eq_true] at h8
        obtain ⟨ns, rfl, h2⟩ := ih t h8.2
        have : ∃ n, e = .int .u8 n := by
          have := h8.1
          cases e <;> simp [isU8] at this
          rename_i k n
          cases k <;> simp at this
          exact ⟨n, rfl⟩
        obtain ⟨n, rfl⟩ := this
        cases h
        exact ⟨n :: ns, rfl, by simp [h2, byteOf]⟩
  obtain ⟨ns, rfl, hns⟩ := hvs
  have hl := h.length
  rw [hl]
  have hload := run_loadCells_list (P := P) w a (ns.map (Value.int .u8)) hc
  rw [hns]
  simp only [Conv.bytesToString, Sem.run_bind, hload, Result.andThen_ok]
  have e : ns.foldl (fun r n => r.push (UInt8.ofNat n.toNat)) ByteArray.empty = ⟨(ns.map (fun n => UInt8.ofNat n.toNat)).toArray⟩ := by
    have : ∀ (ns : List Int) (r : ByteArray), ns.foldl (fun r n => r.push (UInt8.ofNat n.toNat)) r = ⟨r.data ++ (ns.map (fun n => UInt8.ofNat n.toNat)).toArray⟩ := by
      intro ns
      induction ns with
      | nil => intro r; simp
      | cons n ns ih => intro r; simp only [List.foldl_cons, ih]; simp [ByteArray.push]
    simpa using this ns ByteArray.empty
  rw [← Array.forIn_toList]
  rw [run_forIn_bytes _ (by intro n r; simp [Sem.run_pure]), e]
  rfl

theorem isBytes_spec {P : Program} {t : TypeId} (h : isBytes P t = true) : ∃ e, P.underlying t = some (.slice e) ∧ P.underlying e = some (.int .u8) := by
  unfold isBytes at h
  split at h
  · rename_i e he
    unfold isInt at h
    split at h
    · rename_i k hk
      simp only [beq_iff_eq] at h
      subst h
      exact ⟨e, he, hk⟩
    · cases h
  · cases h

theorem isStr_spec {P : Program} {t : TypeId} (h : isStr P t = true) : P.underlying t = some .string := by
  unfold isStr at h
  split at h
  · assumption
  · cases h

theorem flat_u8 {es : List AVal} (h : es.all isU8 = true) : flat es = es := by
  induction es with
  | nil => rfl
  | cons e es ih =>
    simp only [List.all_cons, Bool.and_eq_true] at h
    have : e.cells = [e] := by cases e <;> simp [isU8] at h <;> rfl
    simp [flat, this]
    exact ih h.2

theorem addr_add (b off j : Nat) : (⟨b, off, none⟩ : Addr).add j = ⟨b, off + j, none⟩ := by
  unfold Addr.add
  split
  · rename_i h; simp [h]
  · rfl

theorem isRnT_spec {P : Program} {t : TypeId} (h : isRnT P t = true) : ∃ e, P.underlying t = some (.slice e) ∧ P.underlying e = some (.int .i32) := by
  unfold isRnT at h
  split at h
  · rename_i e he
    unfold isInt at h
    split at h
    · rename_i k hk
      simp only [beq_iff_eq] at h
      subst h
      exact ⟨e, he, hk⟩
    · cases h
  · cases h
theorem flat_r32 {es : List AVal} (h : es.all isR32 = true) : flat es = es := by
  induction es with
  | nil => rfl
  | cons e es ih =>
    simp only [List.all_cons, Bool.and_eq_true] at h
    have : e.cells = [e] := by cases e <;> simp [isR32] at h <;> rfl
    simp [flat, this]
    exact ih h.2
theorem runesBytes_enc (ns : List Int) : runesBytes ns = ⟨(ns.flatMap encA).toArray⟩ := by
  have : ∀ (ns : List Int) (r : ByteArray), ns.foldl (fun r n => r ++ Utf8.encode n) r = ⟨r.data ++ (ns.flatMap encA).toArray⟩ := by
    intro ns
    induction ns with
    | nil => intro r; simp
    | cons n ns ih =>
      intro r
      simp only [List.foldl_cons, ih, List.flatMap_cons]
      have : (r ++ Utf8.encode n).data = r.data ++ (encA n).toArray := by
        rw [ByteArray.data_append]; simp [encA]
      rw [this]
      simp
  have h := this ns ByteArray.empty
  unfold runesBytes
  rw [h]
  simp
theorem run_runesToStr {P : Program} {γ : Gh} {w : World} {l : Bool} {es : List AVal} {vs : List Value} (h : RepL γ w l es vs) (h8 : es.all isR32 = true) (a : Addr) (c : Nat)
    (hc : ∀ j v, vs[j]? = some v → w.cell? (a.add j) = some v) :
    (Conv.runesToString (.slice (some a) es.length c)).run P w = .ok (.string ⟨(es.flatMap encV).toArray⟩) w := by
  have hvs : ∃ ns : List Int, vs = ns.map (Value.int .i32) ∧ es.flatMap encV = ns.flatMap encA := by
    clear hc
    induction es generalizing vs with
    | nil => cases h; exact ⟨[], rfl, rfl⟩
    | cons e es ih =>
      cases h with
      | cons h t =>
        simp only [List.all_cons, Bool.and_eq_true] at h8
        obtain ⟨ns, rfl, h2⟩ := ih t h8.2
        have : ∃ n, e = .int .i32 n := by
          have := h8.1
          cases e <;> simp [isR32] at this
          rename_i k n
          cases k <;> simp at this
          exact ⟨n, rfl⟩
        obtain ⟨n, rfl⟩ := this
        cases h
        exact ⟨n :: ns, rfl, by simp [h2, encV]⟩
  obtain ⟨ns, rfl, hns⟩ := hvs
  have hl := h.length
  have hload := run_loadCells_list (P := P) w a (ns.map (Value.int .i32)) hc
  rw [hl, hns, ← runesBytes_enc]
  exact run_runesToString w a _ c ns hload

theorem convA_sound {P : Program} {γ : Gh} {w : World} {lk : Oid → Option AObj} (hk : Ok γ w lk) {src dst : TypeId} {a : AVal} {u : Value} (hu : Rep γ w true a u) {p : Bool} {r : AVal}
    (h : convA P lk src dst a = some (p, r)) (hp : p) : Yields P γ w (convert src dst u) r := by
  unfold convA at h
  split at h
  · cases hu
    split at h
    · rename_i ds k h1 h2
      simp only [Option.some.injEq, Prod.mk.injEq] at h
      obtain ⟨rfl, rfl⟩ := h
      first | replace hp := of_decide_eq_true hp | skip
      refine ⟨_, ?_, .int _ _ _⟩
      simp [convert, run_underlying h1, run_underlying h2, Conv.intToInt]
    · rename_i ds h1 h2
      simp only [Option.some.injEq, Prod.mk.injEq] at h
      obtain ⟨rfl, rfl⟩ := h
      first | replace hp := of_decide_eq_true hp | skip
      refine ⟨.string (Utf8.encode _), ?_, .str _ _⟩
      simp [convert, run_underlying h1, run_underlying h2, Conv.intToString]
    · cases h
  · cases hu
    split at h
    · rename_i h1 h2
      simp only [Option.some.injEq, Prod.mk.injEq] at h
      obtain ⟨rfl, rfl⟩ := h
      first | replace hp := of_decide_eq_true hp | skip
      refine ⟨_, ?_, .str _ _⟩
      simp [convert, run_underlying h1, run_underlying h2]
    · cases h
  · split at h
    · rename_i hb
      simp only [Option.some.injEq, Prod.mk.injEq] at h
      obtain ⟨rfl, rfl⟩ := h
      first | replace hp := of_decide_eq_true hp | skip
      simp only [Bool.and_eq_true] at hb
      obtain ⟨e, h1, h2⟩ := isBytes_spec hb.1
      have h3 := isStr_spec hb.2
      cases hu with
      | sliceRow hr hs hc h1' hn hm ht =>
        rw [flat_u8 hp] at hr
        refine ⟨_, ?_, .str _ _⟩
        rw [run_convert_bytes_string w src dst e _ _ _ h1 h2 h3]
        exact run_bytesToString hr hp _ _ (fun j v hj => by rw [addr_add]; exact (hc j v hj).2)
      | @sliceNil _ _ _ oo ht ho =>
        refine ⟨.string ⟨[].toArray⟩, ?_, .str _ _⟩
        rw [run_convert_bytes_string w src dst e _ _ _ h1 h2 h3]
        cases oo <;> rfl
    · split at h
      · rename_i hb
        simp only [Option.some.injEq, Prod.mk.injEq] at h
        obtain ⟨rfl, rfl⟩ := h
        first | replace hp := of_decide_eq_true hp | skip
        simp only [Bool.and_eq_true] at hb
        obtain ⟨e, h1, h2⟩ := isRnT_spec hb.1
        have h3 := isStr_spec hb.2
        cases hu with
        | sliceRow hr hs hc h1' hn hm ht =>
          rw [flat_r32 hp] at hr
          refine ⟨_, ?_, .str _ _⟩
          rw [run_convert_runes_string w src dst e _ _ _ h1 h2 h3]
          exact run_runesToStr hr hp _ _ (fun j v hj => by rw [addr_add]; exact (hc j v hj).2)
        | @sliceNil _ _ _ oo ht ho =>
          refine ⟨.string ⟨[].toArray⟩, ?_, .str _ _⟩
          rw [run_convert_runes_string w src dst e _ _ _ h1 h2 h3]
          cases oo <;> rfl
      · cases h
  · rename_i o off len cap
    split at h
    · rename_i hb
      simp only [Bool.and_eq_true] at hb
      obtain ⟨e, h1, h2⟩ := isBytes_spec hb.1
      have h3 := isStr_spec hb.2
      split at h
      · rename_i cs hcs
        simp only [Option.some.injEq, Prod.mk.injEq] at h
        obtain ⟨rfl, rfl⟩ := h
        first | replace hp := of_decide_eq_true hp | skip
        cases hu with
        | @arr _ _ _ off' _ _ b hb' ho hn h0 =>
          obtain ⟨b', hb2, vs, T, hh, hr, h1', hni⟩ := hk.obj _ _ hcs (by simp)
          rw [hb'] at hb2
          cases hb2
          have hr2 := (hr.drop off).take len
          refine ⟨_, ?_, .str _ _⟩
          rw [run_convert_bytes_string w src dst e _ _ _ h1 h2 h3]
          have hlen : ((cs.drop off).take len).length = len := by simp; omega
          have := run_bytesToString (P := P) (w := w) hr2 hp.2 ⟨b, off', none⟩ cap (fun j v hj => by
            rw [addr_add]
            rw [List.getElem?_take] at hj
            split at hj
            · rw [List.getElem?_drop] at hj
              obtain rfl := h0 (by omega)
              simp only [World.cell?, hh]
              simpa using hj
            · cases hj)
          rw [hlen] at this
          exact this
      · cases h
    · cases h
  · cases h

theorem tField_spec {P : Program} {S i off n : Nat} {g : Bool} (h : tField P S i = some (off, n, g)) :
    ∃ fs f, P.underlying S = some (.struct fs) ∧ fs[i]? = some f ∧ f.offset = off ∧ (∃ inf, P.info? f.type = some inf ∧ inf.size = n) ∧ tVar P f.type = some (n, g) := by
  unfold tField at h
  split at h
  · rename_i fs hfs
    split at h
    · rename_i f hf
      split at h
      · rename_i inf g' hi hg
        simp only [Option.some.injEq, Prod.mk.injEq] at h
        obtain ⟨rfl, rfl, rfl⟩ := h
        first | replace hp := of_decide_eq_true hp | skip
        exact ⟨fs, f, hfs, hf, rfl, ⟨inf, hi, rfl⟩, by simp [tVar, hi, hg]⟩
      · cases h
    · cases h
  · cases h

theorem fieldAddrA_sound {P : Program} {γ : Gh} {w : World} {S i : Nat} {a : AVal} {u : Value} (hu : Rep γ w true a u) {p : Bool} {r : AVal} (h : fieldAddrA P S i a = some (p, r)) (_hp : p) : Yields P γ w (Instr.fieldAt S u i) r := by
  unfold fieldAddrA at h
  split at h
  · rename_i off n g hf
    obtain ⟨fs, f, h1, h2, h3, ⟨inf, h4, h5⟩, _⟩ := tField_spec hf
    split at h
    · cases h
    · rename_i hn
      have hrun : ∀ b o, (Instr.fieldAt S (.pointer (some ⟨b, o, none⟩)) i).run P w = .ok (.pointer (some ⟨b, o + off, none⟩)) w := by
        intro b o
        have hsz : inf.size ≠ 0 := by omega
        simp [Instr.fieldAt, run_underlying h1, h2, Instr.sureAddr, fieldPlace, sizeOf, typeInfo, h4, hsz, h3, addr_add]
      split at h
      · cases hu with
        | iptr hr hc' hc =>
          simp only [Option.some.injEq, Prod.mk.injEq] at h
          obtain ⟨rfl, rfl⟩ := h
          first | replace hp := of_decide_eq_true hp | skip
          exact ⟨_, hrun _ _, .iptr (hr.drop off) (fun v hv => hc' v (List.mem_of_mem_drop hv)) (hc.drop off)⟩
      · cases hu with
        | ptr hb ho =>
          simp only [Option.some.injEq, Prod.mk.injEq] at h
          obtain ⟨rfl, rfl⟩ := h
          first | replace hp := of_decide_eq_true hp | skip
          exact ⟨_, hrun _ _, .ptr hb ho⟩
      · cases h
  · cases h

theorem fieldA_sound {P : Program} {γ : Gh} {w : World} {S i : Nat} {a : AVal} {u : Value} (hu : Rep γ w true a u) {p : Bool} {r : AVal} (h : fieldA P S i a = some (p, r)) (hp : p) : Yields P γ w (Instr.field S u i) r := by
  unfold fieldA at h
  split at h
  · rename_i off n g cs hf
    simp only [Option.some.injEq, Prod.mk.injEq] at h
    obtain ⟨rfl, rfl⟩ := h
    first | replace hp := of_decide_eq_true hp | skip
    obtain ⟨fs, f, h1, h2, h3, _, h6⟩ := tField_spec hf
    cases hu with
    | agg hr h1' =>
      rename_i vs
      have hl := hr.length
      have hrun := run_part P w h6 vs off (fun _ => by omega)
      refine ⟨_, ?_, hr.part h1' off n g⟩
      simp [Instr.field, run_underlying h1, h2, asAgg, h3, hrun]
  · cases h

end
end Go.AL
