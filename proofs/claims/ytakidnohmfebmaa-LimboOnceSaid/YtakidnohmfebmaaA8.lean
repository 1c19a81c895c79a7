/-
  The abstract layer, part 8: one operation (no call), as a step from state to state; its soundness.
-/
import Derived.Test.YtakidnohmfebmaaA7
namespace Go.AL
noncomputable section
set_option linter.unusedSimpArgs false
set_option linter.unusedVariables false

/-- What is known of a call's answer: it turns nothing; it turns permissions; it turns what it turns; 'nm': the same, with a name for a part. -/
inductive Ans : Type 1 where
  | pure (c : Bool) (v : AVal)
  | own (c : Bool) (v : AVal) (ow : Nat → Option Nat) (nw : Nat)
  | full (c : Bool) (v : AVal) (σ : Sto)
  | nm {α : Type} (x : α) (f : α → Ans)
  | br (b : Bool) (x y : Ans)

/-- How a function is read: which slots are kept beyond their region; at which slots an object is made that others may see; at which slots a slice is made whose elements are written; which slots' slices are appended to round a loop (with the elements' width); at which slots a closure is made whose captured variables never change any more; which slots' numbers, texts, bools get a name. -/
structure Cfg where
  keep : List Nat
  out : List Nat := []
  wr : List Nat := []
  orc : FuncId → List AVal → Sto → Option Ans := fun _ _ _ => none
  cut : List (Nat × List Nat × List Nat) := []
  grow : List (Nat × Nat) := []
  frz : List Nat := []
  nmd : List Nat := []
  ext : FuncId → Bool := fun _ => false
  rdo : List Nat := []
  frl : List (Nat × Nat × Nat) := []

def AObj.noLoc : AObj → Bool
  | .cells cs => noLocL cs
  | .map es => es.all fun x => x.1.noLoc && x.2.noLoc
  | .siter _ _ => true
  | .buf es _ _ => noLocL (flat es)

def St.fin (cfg : Cfg) (dst : Option Nat) (v : AVal) (st : St) : Bool × St :=
  match dst with
  | none => (true, st)
  | some d => (d < st.n, st.put cfg.keep d v)

def allocA (cfg : Cfg) (st : St) (d : Nat) (x : AObj) (v : Oid → AVal) : Option (Bool × St) :=
  if cfg.out.elem d then some (decide (x.noLoc = true ∧ d < st.n), ({ st with σ := st.σ.push x } : St).put cfg.keep d (v (.out st.σ.nobj)))
  else some (decide ((st.put cfg.keep d .undef).noRef d = true ∧ x.noRef d = true ∧ d < st.n), ((st.put cfg.keep d .undef).setLoc d x).put cfg.keep d (v (.loc d)))

def storeA (P : Program) (st : St) (T : TypeId) (a v : AVal) : Option (Bool × St) :=
  match tVar P T, a with
  | some (n, _), .ptr o off =>
    match st.objAt o with
    | some (.cells cs) => if v.sized && v.cells.length == n then some (decide (off + n ≤ cs.length ∧ (o.isOut = true → noLocL v.cells = true)), st.setObj o (.cells (setRange cs off v.cells))) else none
    | _ => none
  | _, _ => none

/-- The elements of a slice literal: at each place the last that is laid there. -/
def setElems (es : List AVal) : List (Nat × AVal) → List AVal
  | [] => es
  | x :: r => setElems (es.set x.1 x.2) r

def elemsOk (n len : Nat) : List (Nat × AVal) → Bool
  | [] => true
  | x :: r => x.2.sized && x.2.cells.length == n && decide (x.1 < len) && elemsOk n len r

def buildSliceA (P : Program) (cfg : Cfg) (st : St) (T len : Nat) (ps : List (Nat × AVal)) (dst : Option Nat) : Option (Bool × St) :=
  match tElem P T with
  | some (e, n, _, _) =>
    match zeroV P e, dst with
    | some z, some d =>
      if z.cells.length = n ∧ elemsOk n len ps = true ∧ len * n ≤ 16777216 ∧ 0 < n then
        if cfg.wr.elem d then allocA cfg st d (.cells (flat (setElems (List.replicate len z) ps))) (fun o => .arr o 0 len len)
        else some (decide (noLocL (flat (setElems (List.replicate len z) ps)) = true ∧ d < st.n), st.put cfg.keep d (.slice (setElems (List.replicate len z) ps) n .full))
      else none
    | _, _ => none
  | none => none

def sameOperand : Operand → Operand → Bool
  | .tmp a, .tmp b => a == b
  | .const (.int _ a), .const (.int _ b) => a == b
  | _, _ => false

def makeSliceA (P : Program) (cfg : Cfg) (st : St) (T : TypeId) (lo co : Operand) (dst : Option Nat) : Option (Bool × St) :=
  match tElem P T with
  | some (e, n, bs, _) =>
    match zeroV P e, dst, st.eval lo, st.eval co with
    | some z, some d, .int .i64 l, .int .i64 c =>
      if z.cells.length = n ∧ 0 < n then
        if cfg.wr.elem d then
          match allocA cfg st d (.cells (flat (List.replicate l.toNat z))) (fun o => .arr o 0 l.toNat l.toNat) with
          | some (p, st') => some (decide (0 ≤ l ∧ l = c ∧ (bs : Int) * c ≤ 281474976710656 ∧ c ≤ 9223372036854775807 ∧ p), st')
          | none => none
        else some (decide (0 ≤ l ∧ l ≤ c ∧ (bs : Int) * c ≤ 281474976710656 ∧ c ≤ 9223372036854775807 ∧ z.noLoc = true ∧ d < st.n),
          st.put cfg.keep d (.slice (List.replicate l.toNat z) n (if sameOperand lo co then .full else .ro)))
      else none
    | _, _, _, _ => none
  | none => none

/-- A text's runes, from a place on. -/
def runeF (s : ByteArray) : Nat → Nat → List Int
  | 0, _ => []
  | f + 1, i => if i < s.size then ((Utf8.decode s i).1 : Int) :: runeF s f (i + (Utf8.decode s i).2) else []
def runeL (s : List UInt8) : List Int := runeF ⟨s.toArray⟩ s.length 0
theorem runesFrom_eq (s : ByteArray) : ∀ (b i : Nat) (acc : Array Value), (Conv.runesFrom s b i acc).toList = acc.toList ++ (runeF s b i).map (Value.int .i32)
  | 0, i, acc => by simp [Conv.runesFrom, runeF]
  | b + 1, i, acc => by
    unfold Conv.runesFrom runeF
    split
    · simp only [runesFrom_eq s b, Array.toList_push, List.append_assoc, List.map_cons]
      rfl
    · simp
theorem runeF_length (s : ByteArray) : ∀ (b i : Nat), (runeF s b i).length ≤ b
  | 0, i => by simp [runeF]
  | b + 1, i => by
    have := runeF_length s b (i + (Utf8.decode s i).2)
    unfold runeF
    split
    · rw [List.length_cons]; omega
    · simp
def isRunes (P : Program) (t : TypeId) : Bool :=
  match P.underlying t with
  | some (.slice e) => isInt P e .i32
  | _ => false
def bytesOfA (P : Program) (cfg : Cfg) (st : St) (src dst : TypeId) (x : AVal) (d : Option Nat) : Option (Bool × St) :=
  match x, d with
  | .str s, some d => if isStr P src && isBytes P dst then some (decide (s.length ≤ 9223372036854775807 ∧ d < st.n), st.put cfg.keep d (.slice (s.map ofByte) 1 .ro))
    else if isStr P src && isRunes P dst then some (decide (s.length ≤ 70368744177664 ∧ d < st.n), st.put cfg.keep d (.slice ((runeL s).map (AVal.int .i32)) 1 .ro)) else none
  | _, _ => none

/-- A map's entry is laid; a map's entry is taken out. -/
def mapPutA (P : Program) (st : St) (T : TypeId) (m k v : AVal) : Option (Bool × St) :=
  match P.underlying T, m with
  | some (.map kt _), .map o =>
    match st.objAt o with
    | some (.map es) => some (kOk P kt k && (keysOk P kt es && (!o.isOut || (k.noLoc && v.noLoc))), st.setObj o (.map (mapPut k v es)))
    | _ => none
  | _, _ => none
def mapDelA (P : Program) (st : St) (T : TypeId) (m k : AVal) : Option (Bool × St) :=
  match P.underlying T, m with
  | some (.map kt _), .map o =>
    match st.objAt o with
    | some (.map es) => some (kOk P kt k && keysOk P kt es, st.setObj o (.map (mapDel k es)))
    | _ => none
  | _, _ => none
def effOp0 (P : Program) (cfg : Cfg) (o : Oper) (st : St) : Option (Bool × St) :=
  match o.op with
  | .alloc T => match zeroA P T, o.dst with | some cs, some d => allocA cfg st d (.cells cs) (fun o => .ptr o 0) | _, _ => none
  | .box T x => match o.dst with | some d => if (st.eval x).sized then allocA cfg st d (.cells (st.eval x).cells) (fun o => .ptr o 0) else none | none => none
  | .store T x y => match o.dst with | none => storeA P st T (st.eval x) (st.eval y) | some _ => none
  | .buildSlice T len ps => buildSliceA P cfg st T len (ps.toList.map fun x => (x.1, st.eval x.2)) o.dst
  | .makeSlice T l c => makeSliceA P cfg st T l c o.dst
  | .convert src dst x => bytesOfA P cfg st src dst (st.eval x) o.dst
  | .makeMap _ r => match r, o.dst with | none, some d => allocA cfg st d (.map []) (fun o => .map o) | _, _ => none
  | .range T x => match isStr P T, st.eval x, o.dst with | true, .str s, some d => allocA cfg st d (.siter s 0) (fun o => .ptr o 0) | _, _, _ => none
  | .mapUpdate T m k x => match o.dst with | none => mapPutA P st T (st.eval m) (st.eval k) (st.eval x) | some _ => none
  | .insert T m k x => match o.dst with | none => mapPutA P st T (st.eval m) (st.eval k) (st.eval x) | some _ => none
  | .call ⟨.builtin .delete, args, ts⟩ =>
    match args.toList, ts.toList with
    | [m, k], [T, _] => match mapDelA P st T (st.eval m) (st.eval k) with
      | some (p, st') => some (decide (p ∧ (st'.fin cfg o.dst (.tuple [])).1), (st'.fin cfg o.dst (.tuple [])).2)
      | none => none
    | _, _ => none
  | .call ⟨.builtin .append, args, ts⟩ =>
    match args.toList, ts.toList with
    | [s, x], [T, T'] => match appendA P st.objAt st.σ T T' (st.eval s) (st.eval x) with
      | some (p, v, σ') => some (decide (p ∧ (({ st with σ := σ' } : St).fin cfg o.dst v).1), (({ st with σ := σ' } : St).fin cfg o.dst v).2)
      | none => none
    | _, _ => none
  | _ => none

/-! ### Arrays that are written in place -/

/-- What is laid over an array's cells: how many elements, their cells. -/
def srcC (P : Program) (lk : Oid → Option AObj) (n : Nat) (T : TypeId) : AVal → Option (Bool × Nat × List AVal)
  | .slice es s tag =>
    match tElem P T with
    | some _ => if s = n ∨ tag.isNil = true then some (true, es.length, flat es) else none
    | none => none
  | .str l => if isStr P T ∧ n = 1 then some (true, l.length, l.map ofByte) else none
  | .arr o off len _ =>
    match tElem P T, lk o with
    | some _, some (.cells cs) => some (decide (off + len * n ≤ cs.length), len, (cs.drop off).take (len * n))
    | _, _ => none
  | _ => none

/-- An operation that writes an array in place: what it yields, the object, its cells. -/
def arrOp (P : Program) (ρ : Operand → AVal) (lk : Oid → Option AObj) : Op → Option (Bool × AVal × Oid × List AVal)
  | .call ⟨.builtin .copy, args, ts⟩ =>
    match args.toList, ts.toList with
    | [d, s], [T, T'] =>
      match ρ d, tElem P T with
      | .arr o off len _, some (_, n, _, _) =>
        match lk o, srcC P lk n T' (ρ s) with
        | some (.cells cs), some (q, m, xs) => some (decide (q ∧ off + min m len * n ≤ cs.length ∧ (o.isOut = true → noLocL (xs.take (min m len * n)) = true)), .int .i64 (min m len : Nat), o, setRange cs off (xs.take (min m len * n)))
        | _, _ => none
      | _, _ => none
    | _, _ => none
  | .call ⟨.builtin .append, args, ts⟩ =>
    match args.toList, ts.toList with
    | [d, s], [T, T'] =>
      match ρ d, tElem P T with
      | .arr o off len cap, some (_, n, _, _) =>
        match lk o, srcC P lk n T' (ρ s) with
        | some (.cells cs), some (q, m, xs) => some (decide (q ∧ len + m ≤ cap ∧ off + (len + m) * n ≤ cs.length ∧ (o.isOut = true → noLocL xs = true)), .arr o off (len + m) cap, o, setRange cs (off + len * n) xs)
        | _, _ => none
      | _, _ => none
    | _, _ => none
  | .call ⟨.builtin .clear, args, ts⟩ =>
    match args.toList, ts.toList with
    | [d], [T] =>
      match ρ d, tElem P T with
      | .arr o off len _, some (e, n, _, _) =>
        match lk o, zeroV P e with
        | some (.cells cs), some z => if z.cells.length = n ∧ 0 < n then some (decide (off + len * n ≤ cs.length ∧ z.noLoc = true), .tuple [], o, setRange cs off (flat (List.replicate len z))) else none
        | _, _ => none
      | _, _ => none
    | _, _ => none
  | _ => none

/-- A copy that never changes: an append to a slice that has neither elements nor room. -/
def frzA (P : Program) (lk : Oid → Option AObj) (T T' : TypeId) (s x : AVal) : Option (Bool × AVal) :=
  match tElem P T, s, x with
  | some (_, n, bs, zs), .slice es0 s0 .full, .slice es1 s1 t1 =>
    if 0 < n ∧ zs.length = n ∧ s0 = n then
      match srcA P lk n T' (.slice es1 s1 t1) with
      | some (q, es') => some (decide (q ∧ (es0.length + es'.length) * bs ≤ 140737488355328 ∧ es0.length + es'.length ≤ 9223372036854775807), .slice (es0 ++ es') n .ro)
      | none => none
    else none
  | _, _, _ => none
def frzOp (P : Program) (cfg : Cfg) (ρ : Operand → AVal) (lk : Oid → Option AObj) (o : Oper) : Option (Bool × AVal) :=
  match o.op, o.dst with
  | .call ⟨.builtin .append, args, ts⟩, some d =>
    if cfg.rdo.elem d then
      match args.toList, ts.toList with
      | [s, x], [T, T'] => frzA P lk T T' (ρ s) (ρ x)
      | _, _ => none
    else none
  | _, _ => none

def effOp (P : Program) (cfg : Cfg) (o : Oper) (st : St) : Option (Bool × St) :=
  match frzOp P cfg st.eval st.objAt o with
  | some (p, v) => some (decide (p ∧ (st.fin cfg o.dst v).1), (st.fin cfg o.dst v).2)
  | none =>
  match effOp0 P cfg o st with
  | some x => some x
  | none =>
    match arrOp P st.eval st.objAt o.op with
    | some (p, v, oid, cs) => some (decide (p ∧ ((st.setObj oid (.cells cs)).fin cfg o.dst v).1), ((st.setObj oid (.cells cs)).fin cfg o.dst v).2)
    | none => none

/-- One operation that is no call of a function. -/
def stepOp (P : Program) (cfg : Cfg) (o : Oper) (st : St) : Option (Bool × St) :=
  match pureOp P st.eval st.objAt o.op with
  | some (p, v) => some (decide (p ∧ (st.fin cfg o.dst v).1), (st.fin cfg o.dst v).2)
  | none => effOp P cfg o st

/-- What a step comes to, in the machine. -/
def Does (P : Program) (γ : Gh) (w : World) (a : Act) (o : Oper) (st st' : St) : Prop :=
  ∃ γ' w' u, ((execOp a.eval o).run P w = .ok (.value u) w' ∨ ((execOp a.eval o).run P w = .ok .skip w' ∧ u = undef)) ∧ Conc γ' w' (a.put o.dst u) st' ∧ EvoS γ w st γ' w' st'

theorem Conc.fin {γ : Gh} {w : World} {a : Act} {st : St} (h : Conc γ w a st) (cfg : Cfg) {dst : Option Nat} {v : AVal} (hd : (st.fin cfg dst v).1) {u : Value} (hu : Rep γ w true v u) : Conc γ w (a.put dst u) (st.fin cfg dst v).2 := by
  cases dst with
  | none => exact h
  | some d => exact h.put cfg.keep (of_decide_eq_true hd) hu

theorem fin_objAt (cfg : Cfg) (dst : Option Nat) (v : AVal) (st : St) : (st.fin cfg dst v).2.objAt = st.objAt := by
  cases dst with
  | none => rfl
  | some d => exact St.put_objAt _ _ _ _

theorem fin_σ (cfg : Cfg) (dst : Option Nat) (v : AVal) (st : St) : (st.fin cfg dst v).2.σ = st.σ := by
  cases dst with
  | none => rfl
  | some d => exact St.put_σ _ _ _ _

theorem EvoS.put {γ γ' : Gh} {w w' : World} {st st' st2 : St} (h : EvoS γ w st γ' w' st') (h1 : st2.objAt = st'.objAt) (h2 : st2.σ = st'.σ) : EvoS γ w st γ' w' st2 := by
  unfold EvoS at h ⊢
  rw [h1, h2]
  exact h

theorem Conc.undefSlot {γ : Gh} {w : World} {a : Act} {st : St} (h : Conc γ w a st) (keep : List Nat) (d : Nat) : Conc γ w a (st.put keep d .undef) where
  size := by simpa using h.size
  fr t := by
    rw [St.get_put]
    split
    · exact .undef _ _
    · exact h.fr t
  defers := h.defers
  inv := by rw [St.put_objAt, St.put_σ]; exact h.inv

theorem AObj.objOk_new {γ γ' : Gh} {w w' : World} {l : Bool} {b : Nat} {cs : List AVal} {vs : List Value} {T : TypeId} (hr : RepL γ w l cs vs) (h1 : ∀ v ∈ vs, v.oneCell' = true) (e : Ext l γ w γ' w') (hb : w'.heap[b]? = some (.cells vs.toArray T)) (hn : ∀ o, ¬ γ'.imm b o) :
    objOk γ' w' l b (.cells cs) := ⟨vs, T, hb, RepL.mono e hr, h1, hn⟩

/-- A new object of cells. -/
theorem allocA_sound {P : Program} {γ : Gh} {w : World} {a : Act} {st : St} (hC : Conc γ w a st) {cfg : Cfg} {d : Nat} {cs : List AVal} {mk : Oid → AVal} {p : Bool} {st' : St} (h : allocA cfg st d (.cells cs) mk = some (p, st')) (hp : p)
    {vs : List Value} (T : TypeId) (hr : RepL γ w true cs vs) (h1 : ∀ v ∈ vs, v.oneCell' = true) {u : Value} (hu : ∀ γ' i, γ'.obj i = some w.heap.size → Rep γ' (w.alloc (.cells vs.toArray T)) true (mk i) u) :
    ∃ γ', Conc γ' (w.alloc (.cells vs.toArray T)) (a.put (some d) u) st' ∧ EvoS γ w st γ' (w.alloc (.cells vs.toArray T)) st' := by
  unfold allocA at h
  split at h
  · simp only [Option.some.injEq, Prod.mk.injEq] at h
    obtain ⟨rfl, rfl⟩ := h
    first | replace hp := of_decide_eq_true hp | skip
    obtain ⟨hl, hd⟩ := hp
    have hr2 := RepL.noLoc hr hl
    obtain ⟨γ', c1, c2, c3, c4⟩ := hC.allocOut (.cells vs.toArray T) (.cells cs) (fun γ' w' e hb hn => AObj.objOk_new hr2 h1 e.weak hb hn)
    exact ⟨γ', c1.put cfg.keep hd (hu γ' _ c3), c2.put (St.put_objAt _ _ _ _) (St.put_σ _ _ _ _)⟩
  · simp only [Option.some.injEq, Prod.mk.injEq] at h
    obtain ⟨rfl, rfl⟩ := h
    first | replace hp := of_decide_eq_true hp | skip
    obtain ⟨hl, hl2, hd⟩ := hp
    have hC1 := hC.undefSlot cfg.keep d
    obtain ⟨γ', c1, c2, c3⟩ := hC1.allocLoc d (St.noRef_sem hl) (.cells vs.toArray T) (.cells cs) (fun γ' w' _ e hb hn => AObj.objOk_new (RepL.setLoc hr hl2) h1 e hb hn)
    refine ⟨γ', c1.put cfg.keep (by simpa [St.setLoc] using hd) (hu γ' _ c3), ?_⟩
    have hE : EvoS γ w st γ' (w.alloc (.cells vs.toArray T)) ((st.put cfg.keep d .undef).setLoc d (.cells cs)) := by
      unfold EvoS at c2 ⊢
      rw [St.put_objAt, St.put_σ] at c2
      exact c2
    exact hE.put (St.put_objAt _ _ _ _) (St.put_σ _ _ _ _)

/-- A new object of the activation's own, to which nothing refers. -/
theorem allocLoc_does {P : Program} {γ : Gh} {w : World} {a : Act} {st : St} (hC : Conc γ w a st) {cfg : Cfg} {o : Oper} {T : TypeId} (ho : o.op = .alloc T) {d : Nat} (hd : o.dst = some d) {cs : List AVal} (hz : ∃ inf z, P.info? T = some inf ∧ inf.zero = some z ∧ RepL γ w true cs z.cells.toList ∧ ∀ x ∈ z.cells.toList, x.oneCell' = true)
    (hl2 : noRefL d cs = true) (hdn : d < st.n) (hl : (st.put cfg.keep d .undef).NoRef d) :
    Does P γ w a o st (((st.put cfg.keep d .undef).setLoc d (.cells cs)).put cfg.keep d (.ptr (.loc d) 0)) := by
  obtain ⟨inf, z, hi, hz', hr, h1⟩ := hz
  have hC1 := hC.undefSlot cfg.keep d
  obtain ⟨γ', c1, c2, c3⟩ := hC1.allocLoc d hl (.cells z.cells.toList.toArray T) (.cells cs) (fun γ' w' _ e hb hn => AObj.objOk_new (RepL.setLoc hr hl2) h1 e hb hn)
  have hE : EvoS γ w st γ' (w.alloc (.cells z.cells.toList.toArray T)) ((st.put cfg.keep d .undef).setLoc d (.cells cs)) := by
    unfold EvoS at c2 ⊢
    rw [St.put_objAt, St.put_σ] at c2
    exact c2
  refine ⟨γ', _, .pointer (some ⟨w.heap.size, 0, none⟩), .inl ?_, by rw [hd]; exact c1.put cfg.keep (by simpa [St.setLoc] using hdn) (.ptr c3 (.inl rfl)), hE.put (St.put_objAt _ _ _ _) (St.put_σ _ _ _ _)⟩
  simp [execOp, ho, Instr.alloc, run_zeroValue hi hz', newVar, newRow]

theorem storeA_sound {P : Program} {γ : Gh} {w : World} {a : Act} {st : St} (hC : Conc γ w a st) {T : TypeId} {x y : Operand} {p : Bool} {st' : St} (h : storeA P st T (st.eval x) (st.eval y) = some (p, st')) (hp : p) :
    ∃ w', (Instr.storeAt T (a.eval x) (a.eval y)).run P w = .ok () w' ∧ Conc γ w' a st' ∧ EvoS γ w st γ w' st' := by
  have hx := hC.eval x
  have hy := hC.eval y
  unfold storeA at h
  split at h
  · rename_i n g o off ht hxe
    rw [hxe] at hx
    generalize a.eval x = u at hx ⊢
    generalize a.eval y = v at hy ⊢
    split at h
    · rename_i cs hcs
      split at h
      · rename_i hs
        simp only [Bool.and_eq_true, beq_iff_eq] at hs
        simp only [Option.some.injEq, Prod.mk.injEq] at h
        obtain ⟨rfl, rfl⟩ := h
        first | replace hp := of_decide_eq_true hp | skip
        cases hx with
        | @ptr _ _ _ b hb ho =>
          obtain ⟨b', hb2, vs, T', hh, hr, h1, hni⟩ := hC.inv.objc hcs (by simp)
          rw [hb] at hb2
          cases hb2
          obtain ⟨hyr, hy1⟩ := sized_cells hy hs.1
          have hl := hr.length
          have hly := hyr.length
          simp only [Array.length_toList] at hly
          have hlv : v.cells.size = n := by omega
          have hst := run_storeCells_at P b off T' v.cells.toList 0 vs.toArray w hh (by simp; omega) hy1
          simp only [Nat.add_zero] at hst
          have hsz : ∃ inf, P.info? T = some inf ∧ inf.size = n := by
            unfold tVar at ht
            cases hi : P.info? T with
            | none => simp [hi] at ht
            | some inf =>
              cases hg : tIsAgg P T with
              | none => simp [hi, hg] at ht
              | some g' => simp [hi, hg] at ht; exact ⟨inf, rfl, ht.1⟩
          obtain ⟨inf, hi, hin⟩ := hsz
          have hrun : (Instr.storeAt T (.pointer (some ⟨b, off, none⟩)) v).run P w = .ok () (w.setRow b (vs.take off ++ v.cells.toList ++ vs.drop (off + v.cells.toList.length)).toArray) := by
            have e1 : (storeCells ⟨b, off, none⟩ v.cells.toList).run P w = .ok () (w.setRow b (vs.take off ++ v.cells.toList ++ vs.drop (off + v.cells.toList.length)).toArray) := by
              simpa using hst
            simp only [Instr.storeAt, Instr.sureAddr, Sem.run_bind, Sem.run_pure, Result.andThen_ok, storeVar, run_sizeOf' hi]
            have e2 : P.cellsOf T = n := by simp [Program.cellsOf, hi, hin]
            rw [e2]
            simp only [hlv, ne_eq, not_true_eq_false, if_false]
            exact e1
          have hnew := setRow_heap w b vs.toArray (vs.take off ++ v.cells.toList ++ vs.drop (off + v.cells.toList.length)).toArray T' (0, 0) hh
          obtain ⟨c1, c2⟩ := hC.setBlock (w' := w.setRow b (vs.take off ++ v.cells.toList ++ vs.drop (off + v.cells.toList.length)).toArray) (x := .cells (setRange cs off (st.eval y).cells)) hcs hb (fun b' hb' => setRow_other w b b' _ hb') (by simp) rfl rfl rfl
            (fun e hni => by
              refine ⟨_, T', hnew, ?_, ?_, hni⟩
              · have hw : Ext (!o.isOut) γ w γ (w.setRow b (vs.take off ++ v.cells.toList ++ vs.drop (off + v.cells.toList.length)).toArray) := by
                  cases o with
                  | loc k => exact e
                  | out k => exact e.weak
                refine RepL.mono hw (RepL.setRange hr ?_ off)
                cases o with
                | loc k => exact hyr
                | out k => exact RepL.noLoc hyr (hp.2 rfl)
              · intro x hx
                rcases List.mem_append.1 hx with hx | hx
                · rcases List.mem_append.1 hx with hx | hx
                  · exact h1 x (List.mem_of_mem_take hx)
                  · exact hy1 x hx
                · exact h1 x (List.mem_of_mem_drop hx))
          exact ⟨_, hrun, c1, c2⟩
      · cases h
    · cases h
  · cases h

theorem flat_set {n : Nat} : ∀ {es : List AVal} (hs : ∀ e ∈ es, e.cells.length = n) {i : Nat} {x : AVal}, i < es.length → x.cells.length = n → flat (es.set i x) = setRange (flat es) (i * n) x.cells
  | [], _, i, x, h, _ => by simp at h
  | y :: es, hs, 0, x, _, hx => by
    have hy := hs y (by simp)
    simp only [List.set_cons_zero, flat, List.flatMap_cons, setRange, Nat.zero_mul, List.take_zero, List.nil_append, Nat.zero_add]
    rw [hx, ← hy, List.drop_left' rfl]
  | y :: es, hs, i + 1, x, h, hx => by
    have ih := flat_set (es := es) (fun e he => hs e (by simp [he])) (i := i) (x := x) (by simpa using h) hx
    have hy := hs y (by simp)
    simp only [List.set_cons_succ, flat, List.flatMap_cons] at ih ⊢
    rw [ih]
    simp only [setRange, Nat.succ_mul]
    have e1 : (y.cells ++ es.flatMap AVal.cells).take (i * n + n) = y.cells ++ (es.flatMap AVal.cells).take (i * n) := by
      rw [Nat.add_comm, ← hy, List.take_length_add_append]
    have e2 : (y.cells ++ es.flatMap AVal.cells).drop (i * n + n + x.cells.length) = (es.flatMap AVal.cells).drop (i * n + x.cells.length) := by
      rw [show i * n + n + x.cells.length = n + (i * n + x.cells.length) by omega, ← List.drop_drop, ← hy, List.drop_left' rfl]
    rw [e1, e2]
    simp

theorem setElems_sound {γ : Gh} {w : World} {ρA : Operand → AVal} {ρ : Operand → Value} (hρ : ∀ x, Rep γ w true (ρA x) (ρ x)) {n len : Nat} :
    ∀ {ps : List (Nat × Operand)} {es : List AVal} {vs : Array Value}, elemsOk n len (ps.map fun x => (x.1, ρA x.2)) = true → es.length = len → (∀ e ∈ es, e.cells.length = n) → RepL γ w true (flat es) vs.toList → (∀ v ∈ vs.toList, v.oneCell' = true) →
    ∃ us : Array Value, Instr.fill (fun i => some (i * n, n)) vs (ps.map fun x => (x.1, ρ x.2)) = some us ∧ RepL γ w true (flat (setElems es (ps.map fun x => (x.1, ρA x.2)))) us.toList ∧ (∀ v ∈ us.toList, v.oneCell' = true) ∧
      (∀ e ∈ setElems es (ps.map fun x => (x.1, ρA x.2)), e.cells.length = n) ∧ (setElems es (ps.map fun x => (x.1, ρA x.2))).length = len
  | [], es, vs, _, hl, hs, hr, h1 => ⟨vs, rfl, hr, h1, hs, hl⟩
  | x :: ps, es, vs, hok, hl, hs, hr, h1 => by
    simp only [List.map_cons, elemsOk, Bool.and_eq_true, beq_iff_eq, decide_eq_true_eq] at hok
    obtain ⟨⟨⟨ok1, ok2⟩, ok3⟩, ok4⟩ := hok
    obtain ⟨hx, hx1⟩ := sized_cells (hρ x.2) ok1
    have hlen := hr.length
    rw [flat_length hs] at hlen
    have hlx := hx.length
    simp only [Array.length_toList] at hlen hlx
    have hfit : x.1 * n + (ρ x.2).cells.size ≤ vs.size := by
      rw [← hlx, ok2, ← hlen, hl, ← Nat.succ_mul]
      exact Nat.mul_le_mul_right _ ok3
    have hrange := fill_range (x.1 * n) (ρ x.2).cells.toList 0 vs (by simpa using hfit)
    simp only [Nat.add_zero] at hrange
    have hfold : (ρ x.2).cells.zipIdx.foldl (fun cs (c, j) => cs.setIfInBounds (x.1 * n + j) c) vs = (((ρ x.2).cells.toList.zipIdx 0).foldl (fun cs (y : Value × Nat) => cs.setIfInBounds (x.1 * n + y.2) y.1) vs) := by
      rw [← Array.foldl_toList, Array.toList_zipIdx]
    have hset := flat_set hs (i := x.1) (x := ρA x.2) (by omega) ok2
    have hr2 := hr.setRange hx (x.1 * n)
    rw [← hset] at hr2
    have hs2 : ∀ e ∈ es.set x.1 (ρA x.2), e.cells.length = n := fun e he => by
      rcases List.mem_or_eq_of_mem_set he with he | rfl
      · exact hs e he
      · exact ok2
    obtain ⟨us, g1, g2, g3, g4, g5⟩ := setElems_sound hρ (ps := ps) (es := es.set x.1 (ρA x.2)) (vs := (ρ x.2).cells.zipIdx.foldl (fun cs (c, j) => cs.setIfInBounds (x.1 * n + j) c) vs) ok4 (by simpa using hl) hs2 (by rw [hfold, hrange]; exact hr2) (by
      rw [hfold, hrange]
      intro v hv
      rcases List.mem_append.1 hv with hv | hv
      · rcases List.mem_append.1 hv with hv | hv
        · exact h1 v (List.mem_of_mem_take hv)
        · exact hx1 v hv
      · exact h1 v (List.mem_of_mem_drop hv))
    refine ⟨us, ?_, g2, g3, g4, g5⟩
    simp only [List.map_cons, Instr.fill]
    rw [if_neg]
    · exact g1
    · simp only [Bool.or_eq_true, decide_eq_true_eq, ne_eq]
      omega

theorem replicate_flat {γ : Gh} {w : World} {l : Bool} {z : AVal} {v : Value} (hz : RepL γ w l z.cells v.cells.toList) : ∀ k : Nat, RepL γ w l (flat (List.replicate k z)) (List.replicate k v.cells.toList).flatten
  | 0 => .nil _
  | k + 1 => by
    simp only [List.replicate_succ, flat, List.flatMap_cons, List.flatten_cons]
    exact RepL.append (replicate_flat hz k) hz

/-- The zero cells of a new row. -/
theorem zeros_eq (zc : Array Value) (n k : Nat) (hz : zc.size = n) (hn : 0 < n) : ((Array.range (k * n)).map (zc[· % zc.size]!)).toList = (List.replicate k zc.toList).flatten := by
  subst hz
  induction k with
  | zero => simp
  | succ k ih =>
    have h1 : (Array.range ((k + 1) * zc.size)).toList = List.range (k * zc.size + zc.size) := by rw [Nat.succ_mul]; simp
    have h2 : ((Array.range (k * zc.size)).map (zc[· % zc.size]!)).toList = (List.range (k * zc.size)).map (zc[· % zc.size]!) := by simp
    rw [h2] at ih
    rw [Array.toList_map, h1, List.range_add, List.map_append, ih, List.replicate_succ', List.flatten_append]
    congr 1
    simp only [List.map_map, List.flatten_cons, List.flatten_nil, List.append_nil]
    apply List.ext_getElem
    · simp
    · intro i h3 h4
      simp only [List.length_map, List.length_range] at h3
      simp only [List.getElem_map, List.getElem_range, Function.comp_apply]
      have : (k * zc.size + i) % zc.size = i := by rw [Nat.mul_comm, Nat.mul_add_mod]; exact Nat.mod_eq_of_lt h3
      rw [this, getElem!_pos zc i h3]
      simp

theorem replicate_one {z : Value} (hz : ∀ x ∈ z.cells.toList, x.oneCell' = true) (k : Nat) : ∀ x ∈ (List.replicate k z.cells.toList).flatten, x.oneCell' = true := by
  intro x hx
  obtain ⟨l, hl, hxl⟩ := List.mem_flatten.1 hx
  rw [List.eq_of_mem_replicate hl] at hxl
  exact hz x hxl

theorem buildSliceA_sound {P : Program} {γ : Gh} {w : World} {a : Act} {st : St} (hC : Conc γ w a st) {cfg : Cfg} {T len : Nat} {ps : Array (Nat × Operand)} {dst : Option Nat} {p : Bool} {st' : St}
    (h : buildSliceA P cfg st T len (ps.toList.map fun x => (x.1, st.eval x.2)) dst = some (p, st')) (hp : p) :
    ∃ γ' w' u, (Instr.buildSlice T len (ps.map fun (i, x) => (i, a.eval x))).run P w = .ok u w' ∧ Conc γ' w' (a.put dst u) st' ∧ EvoS γ w st γ' w' st' := by
  unfold buildSliceA at h
  split at h
  · rename_i e n bs zs he
    obtain ⟨inf, zv, g1, g2, g3, g4, g5, g6⟩ := tElem_spec he
    split at h
    · rename_i z d hz
      obtain ⟨inf', zv', gi, gz, ga⟩ := zeroV_spec hz
      rw [g2] at gi; cases gi
      rw [g5] at gz; cases gz
      obtain ⟨_, r2, r3⟩ := absZ_spec ga γ w true
      split at h
      · rename_i hc
        obtain ⟨hzn, hok, hbig, hn⟩ := hc
        have hzs : zv.cells.size = n := by have := r2.length; simp at this; omega
        have hlist : (ps.map fun (i, x) => (i, a.eval x)).toList = ps.toList.map fun x => (x.1, a.eval x.2) := by simp
        generalize (ps.map fun (i, x) => (i, a.eval x)) = qs at hlist ⊢
        have hr0 : RepL γ w true (flat (List.replicate len z)) ((Array.range (len * n)).map (zv.cells[· % zv.cells.size]!)).toList := by
          rw [zeros_eq zv.cells n len hzs hn]
          exact replicate_flat r2 len
        have h10 : ∀ v ∈ ((Array.range (len * n)).map (zv.cells[· % zv.cells.size]!)).toList, v.oneCell' = true := by
          rw [zeros_eq zv.cells n len hzs hn]
          exact replicate_one r3 len
        obtain ⟨us, f1, f2, f3, f4, f5⟩ := setElems_sound (fun x => hC.eval x) (ps := ps.toList) (es := List.replicate len z) hok (by simp) (fun e he => by rw [List.eq_of_mem_replicate he]; exact hzn) hr0 h10
        have hrun : (Instr.buildSlice T len qs).run P w = .ok (.slice (some ⟨w.heap.size, 0, none⟩) len len) (w.alloc (.cells us.toList.toArray e)) := by
          have hb : ¬ 16777216 < len * n := by omega
          rw [← hlist] at f1
          by_cases hl0 : len * n = 0
          · have hl00 : len = 0 := by rcases Nat.mul_eq_zero.1 hl0 with h1 | h1 <;> omega
            subst hl00
            simp only [Nat.zero_mul] at f1
            have e0 : ∀ f : Nat → Value, (Array.range 0).map f = #[] := fun f => Array.ext' (by simp)
            rw [e0] at f1
            simp [Instr.buildSlice, run_underlying g1, sizeOf, typeInfo, g2, g3, e0, f1, newRow]
          · simp [Instr.buildSlice, run_underlying g1, sizeOf, typeInfo, g2, g3, hb, hl0, run_zeroValue g2 g5, f1, newRow]
        split at h
        · obtain ⟨γ', c1, c2⟩ := allocA_sound (P := P) hC h hp e f2 f3 (u := .slice (some ⟨w.heap.size, 0, none⟩) len len) (fun γ' i hi => .arr hi (.inl rfl) (Nat.le_refl _) (fun _ => rfl))
          exact ⟨γ', _, _, hrun, c1, c2⟩
        · simp only [Option.some.injEq, Prod.mk.injEq] at h
          obtain ⟨rfl, rfl⟩ := h
          first | replace hp := of_decide_eq_true hp | skip
          obtain ⟨hl, hd⟩ := hp
          have f2' := RepL.noLoc f2 hl
          obtain ⟨c1, c2, c3⟩ := hC.allocImm us.toList e (0, 0)
          refine ⟨_, _, _, hrun, c1.put cfg.keep hd ?_, c2.put (St.put_objAt _ _ _ _) (St.put_σ _ _ _ _)⟩
          have := Rep.sliceRow (γ := γ.addImm w.heap.size us.toList.length) (l := true) (tag := .full) (cap := len) (RepL.mono c3.weak f2') f4 (cellsAt_new us.toList e (0, 0)) f3 (by omega) (by simp [maxLen]; have : len ≤ len * n := Nat.le_mul_of_pos_right _ hn; omega) (by simp [AL.tagRow, f5])
          rw [f5] at this
          exact this
      · cases h
    · cases h
  · cases h

theorem flat_replicate_len {z : AVal} {n : Nat} (hz : z.cells.length = n) (k : Nat) : ∀ e ∈ List.replicate k z, e.cells.length = n := fun e he => by rw [List.eq_of_mem_replicate he]; exact hz

theorem makeSliceA_sound {P : Program} {γ : Gh} {w : World} {a : Act} {st : St} (hC : Conc γ w a st) {cfg : Cfg} {T : Nat} {lo co : Operand} {dst : Option Nat} {p : Bool} {st' : St}
    (h : makeSliceA P cfg st T lo co dst = some (p, st')) (hp : p) :
    ∃ γ' w' u, (Instr.makeSlice T (a.eval lo) (a.eval co)).run P w = .ok u w' ∧ Conc γ' w' (a.put dst u) st' ∧ EvoS γ w st γ' w' st' := by
  have hl := hC.eval lo
  have hcv := hC.eval co
  unfold makeSliceA at h
  split at h
  · rename_i e n bs zs he
    obtain ⟨inf, zv, g1, g2, g3, g4, g5, g6⟩ := tElem_spec he
    split at h
    · rename_i z d l c hz hle hce
      obtain ⟨inf', zv', gi, gz, ga⟩ := zeroV_spec hz
      rw [g2] at gi; cases gi
      rw [g5] at gz; cases gz
      obtain ⟨_, r2, r3⟩ := absZ_spec ga γ w true
      rw [hle] at hl; rw [hce] at hcv
      have hl := hl.int_inv
      have hcv := hcv.int_inv
      split at h
      · rename_i hc
        obtain ⟨hzn, hn⟩ := hc
        have hzs : zv.cells.size = n := by have := r2.length; simp at this; omega
        have run : 0 ≤ l → l ≤ c → (bs : Int) * c ≤ 281474976710656 → c ≤ 9223372036854775807 → (Instr.makeSlice T (.int .i64 l) (.int .i64 c)).run P w =
            .ok (.slice (some ⟨w.heap.size, 0, none⟩) l.toNat c.toNat) (w.alloc (.cells (List.replicate c.toNat zv.cells.toList).flatten.toArray e)) := by
          intro h0 h1 h2 h3
          have e1 : IntKind.i64.wrap l = l := IntWalk.i64_in l (by omega)
          have e2 : IntKind.i64.wrap c = c := IntWalk.i64_in c (by omega)
          have hz2 := zeros_eq zv.cells n c.toNat hzs hn
          have hz3 : (Array.range (c.toNat * n)).map (zv.cells[· % zv.cells.size]!) = (List.replicate c.toNat zv.cells.toList).flatten.toArray := by
            apply Array.ext'
            rw [hz2]
          by_cases hc0 : c.toNat * n = 0
          · have hc00 : c.toNat = 0 := by rcases Nat.mul_eq_zero.1 hc0 with h1 | h1 <;> omega
            have hc1 : c = 0 := by omega
            have hl1 : l = 0 := by omega
            subst hc1; subst hl1
            have e0 : ∀ f : Nat → Value, (Array.range 0).map f = #[] := fun f => Array.ext' (by simp)
            simp [Instr.makeSlice, run_underlying g1, asInt, asIntOf, typeInfo, g2, e1, sizeOf, newRow, e0]
          · have t1 : ¬ (c < 0 ∨ 281474976710656 < (inf.bytes : Int) * c) := by rw [g4]; omega
            have t2 : ¬ l < 0 := by omega
            have t3 : ¬ c < l := by omega
            have n1 : ¬ c < 0 := by omega
            have n2 : ¬ 281474976710656 < (inf.bytes : Int) * c := by rw [g4]; omega
            simp [Instr.makeSlice, run_underlying g1, asInt, asIntOf, typeInfo, g2, e1, e2, n1, n2, t2, t3, sizeOf, g3, hc0, run_zeroValue g2 g5, hz3, newRow]
        split at h
        · split at h
          · rename_i p' st'' hal
            simp only [Option.some.injEq, Prod.mk.injEq] at h
            obtain ⟨rfl, rfl⟩ := h
            first | replace hp := of_decide_eq_true hp | skip
            obtain ⟨q1, q2, q3, q4, q5⟩ := hp
            subst q2
            obtain ⟨γ', c1, c2⟩ := allocA_sound (P := P) hC hal q5 e (replicate_flat r2 l.toNat) (replicate_one r3 l.toNat) (u := .slice (some ⟨w.heap.size, 0, none⟩) l.toNat l.toNat) (fun γ' i hi => .arr hi (.inl rfl) (Nat.le_refl _) (fun _ => rfl))
            refine ⟨γ', _, _, ?_, c1, c2⟩
            rw [hl, hcv]
            exact run q1 (Int.le_refl _) q3 q4
          · cases h
        · simp only [Option.some.injEq, Prod.mk.injEq] at h
          obtain ⟨rfl, rfl⟩ := h
          first | replace hp := of_decide_eq_true hp | skip
          obtain ⟨q1, q2, q3, q4, q5, q6⟩ := hp
          have hzz := absZ_spec ga γ w true
          have r2' : RepL γ w false z.cells zv.cells.toList := (absZ_spec ga γ w false).2.1
          obtain ⟨c1, c2, c3⟩ := hC.allocImm (List.replicate c.toNat zv.cells.toList).flatten e (0, 0)
          refine ⟨_, _, _, by rw [hl, hcv]; exact run q1 q2 q3 q4, c1.put cfg.keep q6 ?_, c2.put (St.put_objAt _ _ _ _) (St.put_σ _ _ _ _)⟩
          have hall := cellsAt_new (γ := γ) (w := w) (List.replicate c.toNat zv.cells.toList).flatten e (0, 0)
          have hpre : (List.replicate l.toNat zv.cells.toList).flatten = ((List.replicate c.toNat zv.cells.toList).flatten).take (l.toNat * n) := by
            have : c.toNat = l.toNat + (c.toNat - l.toNat) := by omega
            rw [this, List.replicate_append_replicate.symm, List.flatten_append, List.take_left']
            simp [List.length_flatten, hzs]
          have hcap : c.toNat ≤ maxLen := by simp [maxLen]; omega
          have := Rep.sliceRow (γ := γ.addImm w.heap.size (List.replicate c.toNat zv.cells.toList).flatten.length) (l := true) (es := List.replicate l.toNat z) (tag := if sameOperand lo co then .full else .ro) (cap := c.toNat) (vs := (List.replicate l.toNat zv.cells.toList).flatten)
            (RepL.mono c3.weak (replicate_flat r2' l.toNat)) (flat_replicate_len hzn _) (by rw [hpre]; exact hall.take _) (replicate_one r3 _) (by simp; omega) hcap (by
              split
              · rename_i hs
                simp only [AL.tagRow, List.length_replicate]
                have : l = c := by
                  unfold sameOperand at hs
                  split at hs
                  · rename_i t1 t2
                    simp only [beq_iff_eq] at hs
                    subst hs
                    rw [hle] at hce
                    cases hce; rfl
                  · rename_i k1 a1 k2 b1
                    simp only [beq_iff_eq] at hs
                    subst hs
                    simp [St.eval, absV] at hle hce
                    omega
                  · cases hs
                omega
              · trivial)
          simpa using this
      · cases h
    · cases h
  · cases h

theorem isRunes_spec {P : Program} {t : TypeId} (h : isRunes P t = true) : ∃ e, P.underlying t = some (.slice e) ∧ P.underlying e = some (.int .i32) := by
  unfold isRunes at h
  split at h
  · rename_i e he
    unfold isInt at h
    split at h
    · rename_i k hk
      simp only [beq_iff_eq] at h
      subst h
      exact ⟨e, he, hk⟩
    · cases h
  · cases h

theorem bytesOfA_sound {P : Program} {γ : Gh} {w : World} {a : Act} {st : St} (hC : Conc γ w a st) {cfg : Cfg} {src dst : TypeId} {x : Operand} {d : Option Nat} {p : Bool} {st' : St}
    (h : bytesOfA P cfg st src dst (st.eval x) d = some (p, st')) (hp : p) :
    ∃ γ' w' u, (convert src dst (a.eval x)).run P w = .ok u w' ∧ Conc γ' w' (a.put d u) st' ∧ EvoS γ w st γ' w' st' := by
  have hx := hC.eval x
  unfold bytesOfA at h
  split at h
  · rename_i s d hs
    rw [hs] at hx
    generalize a.eval x = v at hx ⊢
    cases hx
    split at h
    · rename_i hb
      simp only [Bool.and_eq_true] at hb
      obtain ⟨e, h1, h2⟩ := isBytes_spec hb.2
      have h3 := isStr_spec hb.1
      simp only [Option.some.injEq, Prod.mk.injEq] at h
      obtain ⟨rfl, rfl⟩ := h
      first | replace hp := of_decide_eq_true hp | skip
      obtain ⟨hp0, hp⟩ := hp
      have hrun := run_bytes_of_string w src dst e ⟨s.toArray⟩ h3 h1 h2
      have hsz : (ByteArray.mk s.toArray).size = s.length := by simp [ByteArray.size]
      rw [hsz] at hrun
      generalize hcap : grownCap w s.length 0 e = cap at hrun
      have hge : s.length ≤ cap := by rw [← hcap]; exact grownCap_ge _ _ _ _
      have hm : cap ≤ maxLen := by rw [← hcap]; exact grownCap_le_maxLen w _ _ e (by simp [maxLen]; omega)
      have hrow : bytesRow ⟨s.toArray⟩ cap = (s.map (fun b : UInt8 => Value.int .u8 b.toNat) ++ List.replicate (cap - s.length) (Value.int .u8 0)).toArray := by
        apply Array.ext'
        simp [bytesRow, hsz]
      have hC1 : Conc γ w.drew a st := hC.ofHeap rfl
      have hE1 : EvoS γ w st γ w.drew st := EvoS.ofHeap rfl rfl rfl rfl
      rw [hrow] at hrun
      obtain ⟨c1, c2, c3⟩ := hC1.allocImm (s.map (fun b : UInt8 => Value.int .u8 b.toNat) ++ List.replicate (cap - s.length) (Value.int .u8 0)) e ((s.map (fun b : UInt8 => Value.int .u8 b.toNat) ++ List.replicate (cap - s.length) (Value.int .u8 0)).toArray.size, (s.map (fun b : UInt8 => Value.int .u8 b.toNat) ++ List.replicate (cap - s.length) (Value.int .u8 0)).toArray.size + 1)
      refine ⟨_, _, _, hrun, c1.put cfg.keep hp ?_, EvoS.put (st' := st) (hE1.trans c2) (St.put_objAt _ _ _ _) (St.put_σ _ _ _ _)⟩
      have hall := cellsAt_new (γ := γ) (w := w.drew) (s.map (fun b : UInt8 => Value.int .u8 b.toNat) ++ List.replicate (cap - s.length) (Value.int .u8 0)) e ((s.map (fun b : UInt8 => Value.int .u8 b.toNat) ++ List.replicate (cap - s.length) (Value.int .u8 0)).toArray.size, (s.map (fun b : UInt8 => Value.int .u8 b.toNat) ++ List.replicate (cap - s.length) (Value.int .u8 0)).toArray.size + 1)
      have hpre := hall.take s.length
      rw [List.take_left' (by simp)] at hpre
      have hrep : ∀ (γ : Gh) (w : World) (l : List UInt8), RepL γ w false (l.map ofByte) (l.map fun b : UInt8 => Value.int .u8 b.toNat) := by
        intro γ w l
        induction l with
        | nil => exact .nil _
        | cons b l ih => exact .cons (.int _ _ _) ih
      have hone : ∀ v ∈ (s.map fun b : UInt8 => Value.int .u8 b.toNat), v.oneCell' = true := by
        intro v hv
        obtain ⟨_, _, rfl⟩ := List.mem_map.1 hv
        rfl
      obtain ⟨f1, f2⟩ := flat_ones (hrep γ w s) hone
      have := Rep.sliceRow (l := true) (es := s.map ofByte) (s := 1) (tag := .ro) (cap := cap) (by rw [f1]; exact hrep _ _ s) f2 hpre hone (by simpa using hge) hm trivial
      simpa using this
    · split at h
      · rename_i hb
        simp only [Bool.and_eq_true] at hb
        obtain ⟨e, h1, h2⟩ := isRunes_spec hb.2
        have h3 := isStr_spec hb.1
        simp only [Option.some.injEq, Prod.mk.injEq] at h
        obtain ⟨rfl, rfl⟩ := h
        first | replace hp := of_decide_eq_true hp | skip
        obtain ⟨hp0, hp⟩ := hp
        have hsz : (ByteArray.mk s.toArray).size = s.length := by simp [ByteArray.size]
        have hle := size_runesFrom ⟨s.toArray⟩ s.length 0 #[]
        have hL : (Conv.runesFrom ⟨s.toArray⟩ s.length 0 #[]).toList = (runeL s).map (Value.int .i32) := by rw [runesFrom_eq]; rfl
        have hrun := run_runes_of_string w src dst e ⟨s.toArray⟩ h3 h1 h2 (by rw [hsz]; simp at hle; omega)
        rw [hsz] at hrun
        generalize hR : Conv.runesFrom ⟨s.toArray⟩ s.length 0 #[] = R at hrun hL hle
        have hRs : R.size = (runeL s).length := by rw [← Array.length_toList, hL, List.length_map]
        generalize hcap : grownCap w R.size 0 e = cap at hrun
        have hge : R.size ≤ cap := by rw [← hcap]; exact grownCap_ge _ _ _ _
        have hm : cap ≤ maxLen := by rw [← hcap]; exact grownCap_le_maxLen w _ _ e (by simp at hle; simp [maxLen]; omega)
        have hrow : R ++ Array.replicate (cap - R.size) (Value.int .i32 0) = ((runeL s).map (Value.int .i32) ++ List.replicate (cap - R.size) (Value.int .i32 0)).toArray := by
          apply Array.ext'
          simp [hL]
        have hC1 : Conc γ w.drew a st := hC.ofHeap rfl
        have hE1 : EvoS γ w st γ w.drew st := EvoS.ofHeap rfl rfl rfl rfl
        rw [hrow] at hrun
        obtain ⟨c1, c2, c3⟩ := hC1.allocImm ((runeL s).map (Value.int .i32) ++ List.replicate (cap - R.size) (Value.int .i32 0)) e (0, 0)
        refine ⟨_, _, _, hrun, c1.put cfg.keep hp ?_, EvoS.put (st' := st) (hE1.trans c2) (St.put_objAt _ _ _ _) (St.put_σ _ _ _ _)⟩
        have hall := cellsAt_new (γ := γ) (w := w.drew) ((runeL s).map (Value.int .i32) ++ List.replicate (cap - R.size) (Value.int .i32 0)) e (0, 0)
        have hpre := hall.take (runeL s).length
        rw [List.take_left' (by simp)] at hpre
        have hrep : ∀ (γ : Gh) (w : World) (l : List Int), RepL γ w false (l.map (AVal.int .i32)) (l.map (Value.int .i32)) := by
          intro γ w l
          induction l with
          | nil => exact .nil _
          | cons x r ih => exact .cons (.int _ _ _) ih
        have hone : ∀ v ∈ (runeL s).map (Value.int .i32), v.oneCell' = true := by
          intro v hv
          obtain ⟨_, _, rfl⟩ := List.mem_map.1 hv
          rfl
        obtain ⟨f1, f2⟩ := flat_ones (hrep γ w (runeL s)) hone
        have := Rep.sliceRow (l := true) (es := (runeL s).map (AVal.int .i32)) (s := 1) (tag := .ro) (cap := cap) (by rw [f1]; exact hrep _ _ (runeL s)) f2 hpre hone (by rw [List.length_map, ← hRs]; exact hge) hm trivial
        rw [List.length_map, ← hRs] at this
        simpa using this
      · cases h
  · cases h

/-- An iterator over a text is made. -/
theorem allocIter_sound {P : Program} {γ : Gh} {w : World} {a : Act} {st : St} (hC : Conc γ w a st) {cfg : Cfg} {d : Nat} {s : List UInt8} {p : Bool} {st' : St} (h : allocA cfg st d (.siter s 0) (fun o => .ptr o 0) = some (p, st')) (hp : p) :
    ∃ γ', Conc γ' (w.alloc (.stringIter ⟨s.toArray⟩ 0)) (a.put (some d) (.pointer (some ⟨w.heap.size, 0, none⟩))) st' ∧ EvoS γ w st γ' (w.alloc (.stringIter ⟨s.toArray⟩ 0)) st' := by
  have hok : ∀ (γ' : Gh) (w' : World) (l : Bool), w'.heap[w.heap.size]? = some (.stringIter ⟨s.toArray⟩ 0) → (∀ o, ¬ γ'.imm w.heap.size o) → objOk γ' w' l w.heap.size (.siter s 0) := fun γ' w' l hb hn => ⟨hb, hn⟩
  unfold allocA at h
  split at h
  · simp only [Option.some.injEq, Prod.mk.injEq] at h
    obtain ⟨rfl, rfl⟩ := h
    first | replace hp := of_decide_eq_true hp | skip
    obtain ⟨hl, hd⟩ := hp
    obtain ⟨γ', c1, c2, c3, c4⟩ := hC.allocOut (.stringIter ⟨s.toArray⟩ 0) (.siter s 0) (fun γ' w' e hb hn => hok γ' w' _ hb hn)
    exact ⟨γ', c1.put cfg.keep hd (.ptr c3 (.inl rfl)), c2.put (St.put_objAt _ _ _ _) (St.put_σ _ _ _ _)⟩
  · simp only [Option.some.injEq, Prod.mk.injEq] at h
    obtain ⟨rfl, rfl⟩ := h
    first | replace hp := of_decide_eq_true hp | skip
    obtain ⟨hl, hl2, hd⟩ := hp
    have hC1 := hC.undefSlot cfg.keep d
    obtain ⟨γ', c1, c2, c3⟩ := hC1.allocLoc d (St.noRef_sem hl) (.stringIter ⟨s.toArray⟩ 0) (.siter s 0) (fun γ' w' _ e hb hn => hok γ' w' _ hb hn)
    refine ⟨γ', c1.put cfg.keep (by simpa [St.setLoc] using hd) (.ptr c3 (.inl rfl)), ?_⟩
    have hE : EvoS γ w st γ' (w.alloc (.stringIter ⟨s.toArray⟩ 0)) ((st.put cfg.keep d .undef).setLoc d (.siter s 0)) := by
      unfold EvoS at c2 ⊢
      rw [St.put_objAt, St.put_σ] at c2
      exact c2
    exact hE.put (St.put_objAt _ _ _ _) (St.put_σ _ _ _ _)

/-! ### Maps -/
theorem allocMap_sound {P : Program} {γ : Gh} {w : World} {a : Act} {st : St} (hC : Conc γ w a st) {cfg : Cfg} {d : Nat} {p : Bool} {st' : St} (h : allocA cfg st d (.map []) (fun o => .map o) = some (p, st')) (hp : p) :
    ∃ γ', Conc γ' (w.alloc (.map #[] 0)) (a.put (some d) (.map (some w.heap.size))) st' ∧ EvoS γ w st γ' (w.alloc (.map #[] 0)) st' := by
  have hok : ∀ (γ' : Gh) (w' : World) (l : Bool), w'.heap[w.heap.size]? = some (.map #[] 0) → (∀ o, ¬ γ'.imm w.heap.size o) → objOk γ' w' l w.heap.size (.map []) := fun γ' w' l hb hn =>
    ⟨#[], 0, hb, ⟨rfl, fun i x e h => by simp at h⟩, fun e he => by simp at he, by simp, hn⟩
  unfold allocA at h
  split at h
  · simp only [Option.some.injEq, Prod.mk.injEq] at h
    obtain ⟨rfl, rfl⟩ := h
    first | replace hp := of_decide_eq_true hp | skip
    obtain ⟨hl, hd⟩ := hp
    obtain ⟨γ', c1, c2, c3, c4⟩ := hC.allocOut (.map #[] 0) (.map []) (fun γ' w' e hb hn => hok γ' w' _ hb hn)
    exact ⟨γ', c1.put cfg.keep hd (.map c3 (.inl rfl)), c2.put (St.put_objAt _ _ _ _) (St.put_σ _ _ _ _)⟩
  · simp only [Option.some.injEq, Prod.mk.injEq] at h
    obtain ⟨rfl, rfl⟩ := h
    first | replace hp := of_decide_eq_true hp | skip
    obtain ⟨hl, hl2, hd⟩ := hp
    have hC1 := hC.undefSlot cfg.keep d
    obtain ⟨γ', c1, c2, c3⟩ := hC1.allocLoc d (St.noRef_sem hl) (.map #[] 0) (.map []) (fun γ' w' _ e hb hn => hok γ' w' _ hb hn)
    refine ⟨γ', c1.put cfg.keep (by simpa [St.setLoc] using hd) (.map c3 (.inl rfl)), ?_⟩
    have hE : EvoS γ w st γ' (w.alloc (.map #[] 0)) ((st.put cfg.keep d .undef).setLoc d (.map [])) := by
      unfold EvoS at c2 ⊢
      rw [St.put_objAt, St.put_σ] at c2
      exact c2
    exact hE.put (St.put_objAt _ _ _ _) (St.put_σ _ _ _ _)

theorem mapFind_spec (k : AVal) : ∀ (es : List (AVal × AVal)) (i : Nat), match mapFind k es i with
    | none => True
    | some x => ∃ j y, x.1 = i + j ∧ es[j]? = some y ∧ x.2 = y.2 ∧ eqK k y.1 = true
  | [], i => trivial
  | x :: es, i => by
    unfold mapFind
    cases he : eqK k x.1 with
    | true => exact ⟨0, x, rfl, rfl, rfl, he⟩
    | false =>
      simp only []
      have := mapFind_spec k es (i + 1)
      cases hm : mapFind k es (i + 1) with
      | none => trivial
      | some y =>
        rw [hm] at this
        obtain ⟨j, z, h1, h2, h3, h4⟩ := this
        exact ⟨j + 1, z, by omega, h2, h3, h4⟩

theorem RepE.set {γ : Gh} {w : World} {l : Bool} {es : List (AVal × AVal)} {ents : List MapEntry} (h : RepE γ w l es ents) {k v : AVal} {uk uv : Value} (hk : Rep γ w l k uk) (hv : Rep γ w l v uv) (j : Nat) :
    RepE γ w l (es.set j (k, v)) (ents.modify j fun e => { e with key := uk, val := uv }) := by
  refine ⟨by simpa using h.1, fun i x e h1 h2 => ?_⟩
  rw [List.getElem?_set] at h1
  rw [List.getElem?_modify] at h2
  by_cases hj : j = i
  · subst hj
    rw [if_pos rfl] at h1
    split at h1
    · cases h1
      cases he : ents[j]? with
      | none => rw [he] at h2; simp at h2
      | some e0 =>
        rw [he] at h2
        simp at h2
        subst h2
        exact ⟨hk, hv⟩
    · cases h1
  · rw [if_neg hj] at h1
    cases he : ents[i]? with
    | none => rw [he] at h2; simp at h2
    | some e0 =>
      rw [he] at h2
      simp [hj] at h2
      subst h2
      exact h.2 i x e0 h1 he
theorem RepE.push {γ : Gh} {w : World} {l : Bool} {es : List (AVal × AVal)} {ents : List MapEntry} (h : RepE γ w l es ents) {k v : AVal} {e : MapEntry} (hk : Rep γ w l k e.key) (hv : Rep γ w l v e.val) : RepE γ w l (es ++ [(k, v)]) (ents ++ [e]) := by
  refine ⟨by simpa using h.1, fun i x e' h1 h2 => ?_⟩
  have hl := h.1
  by_cases hlt : i < es.length
  · rw [List.getElem?_append_left hlt] at h1
    rw [List.getElem?_append_left (by omega)] at h2
    exact h.2 i x e' h1 h2
  · rw [List.getElem?_append_right (by omega)] at h1
    rw [List.getElem?_append_right (by omega)] at h2
    have h0 : i - es.length = 0 := by
      rcases Nat.eq_zero_or_pos (i - es.length) with h0 | h0
      · exact h0
      · rw [List.getElem?_eq_none (by simp; omega)] at h1; cases h1
    rw [h0] at h1
    rw [← hl, h0] at h2
    cases h1; cases h2
    exact ⟨hk, hv⟩
theorem RepE.erase {γ : Gh} {w : World} {l : Bool} {es : List (AVal × AVal)} {ents : List MapEntry} (h : RepE γ w l es ents) (j : Nat) : RepE γ w l (es.eraseIdx j) (ents.eraseIdx j) := by
  have hl := h.1
  refine ⟨by simp only [List.length_eraseIdx, hl], fun i x e h1 h2 => ?_⟩
  rw [List.getElem?_eraseIdx] at h1 h2
  split at h1
  · rename_i hi
    rw [if_pos hi] at h2
    exact h.2 i x e h1 h2
  · rename_i hi
    rw [if_neg hi] at h2
    exact h.2 (i + 1) x e h1 h2

theorem map_setBlock {γ : Gh} {w : World} {a : Act} {st : St} (hC : Conc γ w a st) {o : Oid} {es es' : List (AVal × AVal)} {b : Nat} (ho : st.objAt o = some (.map es)) (hb : γ.obj o = some b) {ents' : Array MapEntry} {clock' : Nat}
    (hE : RepE γ w (!o.isOut) es' ents'.toList) (h1 : ∀ e ∈ ents'.toList, e.born < clock') (h2 : (ents'.toList.map (·.born)).Nodup) (hlt : b < w.heap.size) :
    Conc γ { w with heap := w.heap.setIfInBounds b (.map ents' clock') } a (st.setObj o (.map es')) ∧ EvoS γ w st γ { w with heap := w.heap.setIfInBounds b (.map ents' clock') } (st.setObj o (.map es')) := by
  refine hC.setBlock ho hb (fun b' hb' => ?_) (by simp) rfl rfl rfl (fun e hn => ?_)
  · simp only []
    rw [Array.getElem?_setIfInBounds_ne (Ne.symm hb')]
  · refine ⟨ents', clock', by simp [hlt], ?_, h1, h2, hn⟩
    have : Ext (!o.isOut) γ w γ { w with heap := w.heap.setIfInBounds b (.map ents' clock') } := by
      cases o.isOut with
      | true => exact e.weak
      | false => exact e
    exact hE.mono this

theorem mapPutA_sound {P : Program} {γ : Gh} {w : World} {a : Act} {st : St} (hC : Conc γ w a st) {T : TypeId} {m k x : Operand} {p : Bool} {st' : St} (h : mapPutA P st T (st.eval m) (st.eval k) (st.eval x) = some (p, st')) (hp : p) :
    ∃ w', (Instr.mapUpdate T (a.eval m) (a.eval k) (a.eval x)).run P w = .ok () w' ∧ Conc γ w' a st' ∧ EvoS γ w st γ w' st' := by
  have hM := hC.eval m
  have hK := hC.eval k
  have hX := hC.eval x
  generalize a.eval m = um at hM ⊢
  generalize a.eval k = uk at hK ⊢
  generalize a.eval x = ux at hX ⊢
  unfold mapPutA at h
  split at h
  · rename_i kt et o ht hmo
    rw [hmo] at hM
    split at h
    · rename_i es ho
      simp only [Option.some.injEq, Prod.mk.injEq] at h
      obtain ⟨rfl, rfl⟩ := h
      simp only [Bool.and_eq_true] at hp
      obtain ⟨p1, p2, p3⟩ := hp
      cases hM with
      | @map _ _ b hb hl =>
        obtain ⟨b', hb2, ents, clock, hh, hr, hcl, hnd, hni⟩ := hC.inv.objc ho (by simp)
        rw [hb] at hb2
        cases hb2
        have hlt : b < w.heap.size := block_lt hh
        have hK2 : Rep γ w (!o.isOut) (st.eval k) uk ∧ Rep γ w (!o.isOut) (st.eval x) ux := by
          cases hoi : o.isOut with
          | false => exact ⟨hK, hX⟩
          | true =>
            rw [hoi] at p3
            simp only [Bool.not_true, Bool.false_or, Bool.and_eq_true] at p3
            exact ⟨hK.noLoc p3.1, hX.noLoc p3.2⟩
        obtain ⟨r, hr2, hf⟩ := run_findKey (w := w) p1 hK2.1 hr p2
        have hck := run_checkKey (P := P) (w := w) (e := false) p1 hK
        have hg : (getObj b).run P w = .ok (.map ents clock) w := by simp [getObj, Sem.run, hh]
        have hset : ∀ ob, (setObj b ob).run P w = .ok () { w with heap := w.heap.setIfInBounds b ob } := fun ob => by simp [setObj, Sem.run, hh]
        have hspec := mapFind_spec (st.eval k) es 0
        unfold Found at hf
        cases hm : mapFind (st.eval k) es 0 with
        | none =>
          rw [hm] at hf
          simp only [] at hf
          subst hf
          have e1 : mapPut (st.eval k) (st.eval x) es = es ++ [(st.eval k, st.eval x)] := by simp only [mapPut, hm]
          obtain ⟨c1, c2⟩ := map_setBlock hC (es' := mapPut (st.eval k) (st.eval x) es) (ents' := ents.push { key := uk, val := ux, born := clock }) (clock' := clock + 1) ho hb
            (by rw [e1, Array.toList_push]; exact hr.push hK2.1 hK2.2)
            (fun e he => by
              rw [Array.toList_push] at he
              rcases List.mem_append.1 he with h1 | h1
              · have := hcl e h1; omega
              · simp at h1; subst h1; simp)
            (by
              rw [Array.toList_push, List.map_append, List.nodup_append]
              refine ⟨hnd, by simp, fun y hy z hz => ?_⟩
              simp at hz
              subst hz
              obtain ⟨e, he, rfl⟩ := List.mem_map.1 hy
              have := hcl e he
              omega) hlt
          refine ⟨_, ?_, c1, c2⟩
          simp [Instr.mapUpdate, run_underlying ht, hg, hck, hr2, hset]
        | some y =>
          rw [hm] at hf hspec
          simp only [] at hf hspec
          obtain ⟨u, rfl, hru⟩ := hf
          obtain ⟨j, z, g1, g2, g3, g4⟩ := hspec
          have hj : y.1 = j := by omega
          obtain ⟨e0, he0⟩ : ∃ e0, ents.toList[j]? = some e0 := by
            have : j < es.length := by
              rcases Nat.lt_or_ge j es.length with h | h
              · exact h
              · rw [List.getElem?_eq_none h] at g2; cases g2
            exact ⟨ents.toList[j]'(by rw [← hr.1]; exact this), List.getElem?_eq_getElem _⟩
          have hz1 := (hr.2 j z e0 g2 he0).1
          have hzk : kOk P kt z.1 = true := by
            have := List.all_eq_true.1 p2 z (List.mem_of_getElem? g2)
            exact this
          have hks := run_keyStays (P := P) (w := w) p1 hzk g4 hK2.1 hz1
          have e1 : mapPut (st.eval k) (st.eval x) es = es.set j (st.eval k, st.eval x) := by simp only [mapPut, hm, hj]
          have he0' : ents[j]? = some e0 := by rw [← Array.getElem?_toList]; exact he0
          obtain ⟨c1, c2⟩ := map_setBlock hC (es' := mapPut (st.eval k) (st.eval x) es) (ents' := ents.modify j fun e => { e with key := uk, val := ux }) (clock' := clock) ho hb
            (by rw [e1, Array.toList_modify]; exact hr.set hK2.1 hK2.2 j)
            (fun e he => by
              rw [Array.toList_modify] at he
              obtain ⟨i, hi⟩ := List.getElem?_of_mem he
              rw [List.getElem?_modify] at hi
              cases hq : ents.toList[i]? with
              | none => rw [hq] at hi; simp at hi
              | some e' =>
                rw [hq] at hi
                have := hcl e' (List.mem_of_getElem? hq)
                split at hi <;> simp at hi <;> subst hi <;> exact this)
            (by
              rw [Array.toList_modify]
              have : (ents.toList.modify j fun e => { e with key := uk, val := ux }).map (·.born) = ents.toList.map (·.born) := by
                apply List.ext_getElem?
                intro i
                rw [List.getElem?_map, List.getElem?_map, List.getElem?_modify]
                cases ents.toList[i]? with
                | none => rfl
                | some e => simp only [Option.map_some]; split <;> rfl
              rw [this]; exact hnd) hlt
          refine ⟨_, ?_, c1, c2⟩
          rw [hj] at hr2
          simp [Instr.mapUpdate, run_underlying ht, hg, hck, hr2, hset, he0', hks]
    · cases h
  · cases h

theorem mapDelA_sound {P : Program} {γ : Gh} {w : World} {a : Act} {st : St} (hC : Conc γ w a st) {T T' : TypeId} {m k : Operand} {p : Bool} {st' : St} (h : mapDelA P st T (st.eval m) (st.eval k) = some (p, st')) (hp : p) (ty : TypeId) :
    ∃ w', (Builtin.delete_ #[T, T'] ty #[a.eval m, a.eval k]).run P w = .ok (.tuple #[]) w' ∧ Conc γ w' a st' ∧ EvoS γ w st γ w' st' := by
  have hM := hC.eval m
  have hK := hC.eval k
  generalize a.eval m = um at hM ⊢
  generalize a.eval k = uk at hK ⊢
  unfold mapDelA at h
  split at h
  · rename_i kt et o ht hmo
    rw [hmo] at hM
    split at h
    · rename_i es ho
      simp only [Option.some.injEq, Prod.mk.injEq] at h
      obtain ⟨rfl, rfl⟩ := h
      simp only [Bool.and_eq_true] at hp
      obtain ⟨p1, p2⟩ := hp
      cases hM with
      | @map _ _ b hb hl =>
        obtain ⟨b', hb2, ents, clock, hh, hr, hcl, hnd, hni⟩ := hC.inv.objc ho (by simp)
        rw [hb] at hb2
        cases hb2
        have hlt : b < w.heap.size := block_lt hh
        have hE : RepE γ w true es ents.toList := ⟨hr.1, fun i x e h1 h2 => ⟨(hr.2 i x e h1 h2).1.up, (hr.2 i x e h1 h2).2.up⟩⟩
        obtain ⟨r, hr2, hf⟩ := run_findKey (w := w) p1 hK hE p2
        have hck : ∀ e, (Instr.checkKey e 10000 kt uk).run P w = .ok () w := fun e => run_checkKey (P := P) (w := w) (e := e) p1 hK
        have hg : (getObj b).run P w = .ok (.map ents clock) w := by simp [getObj, Sem.run, hh]
        have hset : ∀ ob, (setObj b ob).run P w = .ok () { w with heap := w.heap.setIfInBounds b ob } := fun ob => by simp [setObj, Sem.run, hh]
        unfold Found at hf
        cases hm : mapFind (st.eval k) es 0 with
        | none =>
          rw [hm] at hf
          simp only [] at hf
          subst hf
          have e1 : mapDel (st.eval k) es = es := by simp only [mapDel, hm]
          obtain ⟨c1, c2⟩ := map_setBlock hC (es' := mapDel (st.eval k) es) (ents' := ents) (clock' := clock) ho hb (by rw [e1]; exact hr) hcl hnd hlt
          refine ⟨_, ?_, c1, c2⟩
          simp [Builtin.delete_, run_underlying ht, hg, hck, hr2, hset]
        | some y =>
          rw [hm] at hf
          simp only [] at hf
          obtain ⟨u, rfl, hru⟩ := hf
          have e1 : mapDel (st.eval k) es = es.eraseIdx y.1 := by simp only [mapDel, hm]
          have e2 : (ents.eraseIdxIfInBounds y.1).toList = ents.toList.eraseIdx y.1 := by
            unfold Array.eraseIdxIfInBounds
            split
            · rename_i hh; rw [Array.toList_eraseIdx]
            · rename_i hh; rw [List.eraseIdx_of_length_le (by simpa using hh)]
          obtain ⟨c1, c2⟩ := map_setBlock hC (es' := mapDel (st.eval k) es) (ents' := ents.eraseIdxIfInBounds y.1) (clock' := clock) ho hb (by rw [e1, e2]; exact hr.erase y.1)
            (fun e he => by rw [e2] at he; exact hcl e (List.mem_of_mem_eraseIdx he))
            (by rw [e2]; exact List.Nodup.sublist (List.Sublist.map _ (List.eraseIdx_sublist _ _)) hnd) hlt
          refine ⟨_, ?_, c1, c2⟩
          simp [Builtin.delete_, run_underlying ht, hg, hck, hr2, hset]
    · cases h
  · cases h

theorem zeroA_sound {P : Program} {T : TypeId} {cs : List AVal} (h : zeroA P T = some cs) : ∃ inf z, P.info? T = some inf ∧ inf.zero = some z ∧ (∀ γ w, RepL γ w true cs z.cells.toList) ∧ ∀ x ∈ z.cells.toList, x.oneCell' = true := by
  unfold zeroA at h
  split at h
  · rename_i v hv
    cases h
    obtain ⟨inf, z, hi, hz, ha⟩ := zeroV_spec hv
    exact ⟨inf, z, hi, hz, fun γ w => (absZ_spec ha γ w true).2.1, (absZ_spec (γ := ⟨fun _ _ => False, fun _ => none, fun _ => .free⟩) (w := default) ha true).2.2⟩
  · cases h

theorem effOp0_sound {P : Program} {γ : Gh} {w : World} {a : Act} {st : St} (hC : Conc γ w a st) {cfg : Cfg} {o : Oper} {p : Bool} {st' : St} (h : effOp0 P cfg o st = some (p, st')) (hp : p) : Does P γ w a o st st' := by
  unfold effOp0 at h
  split at h
  · rename_i T e
    split at h
    · rename_i cs d hz hd
      obtain ⟨inf, z, hi, hz', hr, h1⟩ := zeroA_sound hz
      obtain ⟨γ', c1, c2⟩ := allocA_sound (P := P) hC h hp T (hr γ w) h1 (u := .pointer (some ⟨w.heap.size, 0, none⟩)) (fun γ' i hi => .ptr hi (.inl rfl))
      refine ⟨γ', _, _, .inl ?_, by rw [hd]; exact c1, c2⟩
      simp [execOp, e, Instr.alloc, run_zeroValue hi hz', newVar, newRow]
    · cases h
  · rename_i T x e
    split at h
    · rename_i d hd
      split at h
      · rename_i hs
        obtain ⟨hr, h1⟩ := sized_cells (hC.eval x) hs
        obtain ⟨γ', c1, c2⟩ := allocA_sound (P := P) hC h hp T hr h1 (u := .pointer (some ⟨w.heap.size, 0, none⟩)) (fun γ' i hi => .ptr hi (.inl rfl))
        refine ⟨γ', _, _, .inl ?_, by rw [hd]; exact c1, c2⟩
        simp [execOp, e, Instr.box, newVar, newRow]
      · cases h
    · cases h
  · rename_i T x y e
    split at h
    · rename_i hd
      obtain ⟨w', h1, h2, h3⟩ := storeA_sound hC h hp
      refine ⟨γ, w', undef, .inr ⟨?_, rfl⟩, by rw [hd]; exact h2, h3⟩
      simp [execOp, e, h1]
    · cases h
  · rename_i T len ps e
    obtain ⟨γ', w', u, h1, h2, h3⟩ := buildSliceA_sound hC h hp
    refine ⟨γ', w', u, .inl ?_, h2, h3⟩
    simp only [execOp, e, Sem.run_bind, h1, Result.andThen_ok, Sem.run_pure]
  · rename_i T l c e
    obtain ⟨γ', w', u, h1, h2, h3⟩ := makeSliceA_sound hC h hp
    refine ⟨γ', w', u, .inl ?_, h2, h3⟩
    simp only [execOp, e, Sem.run_bind, h1, Result.andThen_ok, Sem.run_pure]
  · rename_i src dst x e
    obtain ⟨γ', w', u, h1, h2, h3⟩ := bytesOfA_sound hC h hp
    refine ⟨γ', w', u, .inl ?_, h2, h3⟩
    simp only [execOp, e, Sem.run_bind, h1, Result.andThen_ok, Sem.run_pure]
  · rename_i T r e
    split at h
    · rename_i d hd
      obtain ⟨γ', c1, c2⟩ := allocMap_sound (P := P) hC h hp
      refine ⟨γ', _, _, .inl ?_, by rw [hd]; exact c1, c2⟩
      simp [execOp, e, Instr.makeMap]
    · cases h
  · rename_i T x e
    split at h
    · rename_i s d hT hs hd
      obtain ⟨γ', c1, c2⟩ := allocIter_sound (P := P) hC h hp
      refine ⟨γ', _, _, .inl ?_, by rw [hd]; exact c1, c2⟩
      have hx := hC.eval x
      rw [hs] at hx
      have hv : a.eval x = .string ⟨s.toArray⟩ := by
        generalize a.eval x = v at hx
        cases hx; rfl
      simp [execOp, e, Instr.range, run_underlying (isStr_spec hT), hv]
    · cases h
  · rename_i T m k x e
    split at h
    · rename_i hd
      obtain ⟨w', h1, h2, h3⟩ := mapPutA_sound hC h hp
      refine ⟨γ, w', undef, .inr ⟨?_, rfl⟩, by rw [hd]; exact h2, h3⟩
      simp [execOp, e, h1]
    · cases h
  · rename_i T m k x e
    split at h
    · rename_i hd
      obtain ⟨w', h1, h2, h3⟩ := mapPutA_sound hC h hp
      refine ⟨γ, w', undef, .inr ⟨?_, rfl⟩, by rw [hd]; exact h2, h3⟩
      simp [execOp, e, h1]
    · cases h
  · rename_i args ts e
    split at h
    · rename_i m k T T' ha ht
      split at h
      · rename_i q st1 hA
        simp only [Option.some.injEq, Prod.mk.injEq] at h
        obtain ⟨rfl, rfl⟩ := h
        first | replace hp := of_decide_eq_true hp | skip
        obtain ⟨hq, hd⟩ := hp
        obtain ⟨w', h1, h2, h3⟩ := mapDelA_sound (T' := T') hC hA hq o.type
        refine ⟨γ, w', .tuple #[], .inl ?_, h2.fin cfg hd (.tuple (vs := []) (.nil _)), h3.put (fin_objAt _ _ _ _) (fin_σ _ _ _ _)⟩
        have e1 : args = #[m, k] := Array.ext' (by simpa using ha)
        have e2 : ts = #[T, T'] := Array.ext' (by simpa using ht)
        subst e1; subst e2
        simp [execOp, e, resolve, invoke, builtin, h1]
      · cases h
    · cases h
  · rename_i args ts e
    split at h
    · rename_i s x T T' ha ht
      split at h
      · rename_i q v σ' hA
        simp only [Option.some.injEq, Prod.mk.injEq] at h
        obtain ⟨rfl, rfl⟩ := h
        first | replace hp := of_decide_eq_true hp | skip
        obtain ⟨hq, hd⟩ := hp
        obtain ⟨γ', w', u, h1, h2, h3, h4⟩ := appendA_sound hC hA hq o.type
        refine ⟨γ', w', u, .inl ?_, h3.fin cfg hd h2, h4.put (fin_objAt _ _ _ _) (fin_σ _ _ _ _)⟩
        have e1 : args = #[s, x] := Array.ext' (by simpa using ha)
        have e2 : ts = #[T, T'] := Array.ext' (by simpa using ht)
        subst e1; subst e2
        simp [execOp, e, resolve, invoke, builtin, h1]
      · cases h
    · cases h
  · cases h

/-! ### Arrays that are written in place: soundness -/

/-- Cells are laid over an object's. -/
theorem Conc.storeArr {P : Program} {γ : Gh} {w : World} {a : Act} {st : St} (hC : Conc γ w a st) {o : Oid} {b off off' : Nat} {cs xs : List AVal} {news : List Value} (hcs : st.objAt o = some (.cells cs)) (hb : γ.obj o = some b)
    (hx : RepL γ w true xs news) (h1 : ∀ v ∈ news, v.oneCell' = true) (hl : off + xs.length ≤ cs.length) (ho : o.isOut = true → noLocL xs = true) (h0 : 0 < xs.length → off' = off) :
    ∃ w', (storeCells ⟨b, off', none⟩ news).run P w = .ok () w' ∧ Conc γ w' a (st.setObj o (.cells (setRange cs off xs))) ∧ EvoS γ w st γ w' (st.setObj o (.cells (setRange cs off xs))) := by
  obtain ⟨vs, T', hh, hr, hv1, hni⟩ := hC.inv.objb hcs hb
  have hlx := hx.length
  have hlr := hr.length
  cases news with
  | nil =>
    have e : xs = [] := List.eq_nil_of_length_eq_zero (by simpa using hlx)
    subst e
    have e2 : setRange cs off [] = cs := by simp [setRange, List.take_append_drop]
    rw [e2]
    obtain ⟨c1, c2⟩ := hC.setBlock (w' := w) (x := .cells cs) hcs hb (fun _ _ => rfl) rfl rfl rfl rfl (fun _ hni => ⟨vs, T', hh, hr, hv1, hni⟩)
    exact ⟨w, by simp [storeCells], c1, c2⟩
  | cons u news =>
    obtain rfl := h0 (by rw [hlx]; simp)
    have hst := run_storeCells_at P b off' T' (u :: news) 0 vs.toArray w hh (by simp only [List.size_toArray]; omega) h1
    simp only [Nat.add_zero] at hst
    have hnew := setRow_heap w b vs.toArray (vs.take off' ++ (u :: news) ++ vs.drop (off' + (u :: news).length)).toArray T' (0, 0) hh
    obtain ⟨c1, c2⟩ := hC.setBlock (w' := w.setRow b (vs.take off' ++ (u :: news) ++ vs.drop (off' + (u :: news).length)).toArray) (x := .cells (setRange cs off' xs)) hcs hb (fun b' hb' => setRow_other w b b' _ hb') (by simp) rfl rfl rfl
      (fun e hni => by
        refine ⟨_, T', hnew, ?_, ?_, hni⟩
        · have hw : Ext (!o.isOut) γ w γ (w.setRow b (vs.take off' ++ (u :: news) ++ vs.drop (off' + (u :: news).length)).toArray) := by
            cases o with
            | loc k => exact e
            | out k => exact e.weak
          refine RepL.mono hw (RepL.setRange hr ?_ off')
          cases o with
          | loc k => exact hx
          | out k => exact RepL.noLoc hx (ho rfl)
        · intro x hx
          rcases List.mem_append.1 hx with hx | hx
          · rcases List.mem_append.1 hx with hx | hx
            · exact hv1 x (List.mem_of_mem_take hx)
            · exact h1 x hx
          · exact hv1 x (List.mem_of_mem_drop hx))
    exact ⟨_, hst, c1, c2⟩

theorem RepL.up {γ : Gh} {w : World} {l : Bool} {as : List AVal} {vs : List Value} (h : RepL γ w l as vs) : RepL γ w true as vs := by
  cases l with
  | true => exact h
  | false => exact RepL.weaken h true

theorem srcC_sound {P : Program} {γ : Gh} {w : World} {lk : Oid → Option AObj} (hk : Ok γ w lk) {n : Nat} {T : TypeId} {x : AVal} {u : Value} (hu : Rep γ w true x u) {q : Bool} {m : Nat} {xs : List AVal} (h : srcC P lk n T x = some (q, m, xs)) (hq : q) :
    ∃ news, Src P n T u m news w ∧ (∀ k, k ≤ m → (Builtin.firstCells n k u).run P w = .ok (news.take (k * n)).toArray w) ∧ RepL γ w true xs news ∧ (∀ v ∈ news, v.oneCell' = true) ∧ xs.length = m * n := by
  unfold srcC at h
  split at h
  · rename_i es s tag
    split at h
    · rename_i te hte
      obtain ⟨e, n', bs, zs⟩ := te
      obtain ⟨inf, z, g1, _⟩ := tElem_spec hte
      split at h
      · rename_i hn
        simp only [Option.some.injEq, Prod.mk.injEq] at h
        obtain ⟨_, rfl, rfl⟩ := h
        cases hu with
        | @sliceRow _ _ _ _ b off cap vs hr hse hc h1 hnc hm ht =>
          have hns : s = n := by
            rcases hn with hn | hn
            · exact hn
            · cases tag <;> simp [Tag.isNil] at hn
              exact ht.elim
          subst hns
          have hlv := hr.length
          rw [flat_length hse] at hlv
          refine ⟨vs, Src.ofSlice w g1 _ _ _ vs hlv.symm (fun j v hj => by rw [addr_add]; exact (hc j v hj).2) h1, fun k hk' => ?_, RepL.weaken hr true, h1, flat_length hse⟩
          refine run_firstCells_some w s k _ _ _ _ ?_ (fun j v hj => ?_)
          · rw [List.length_take, ← hlv]
            exact Nat.min_eq_left (Nat.mul_le_mul_right _ hk')
          · rw [List.getElem?_take] at hj
            split at hj
            · rw [addr_add]; exact (hc j v hj).2
            · cases hj
        | @sliceNil _ _ _ oo ht ho =>
          refine ⟨[], Src.ofHole g1 oo 0, fun k hk' => ?_, .nil _, (by simp), by simp [flat]⟩
          simp only [List.length_nil, Nat.le_zero] at hk'
          subst hk'
          simpa using run_firstCells_zero (P := P) w n 0 0 oo
      · cases h
    · cases h
  · rename_i l
    split at h
    · rename_i hs
      simp only [Option.some.injEq, Prod.mk.injEq] at h
      obtain ⟨_, rfl, rfl⟩ := h
      cases hu
      have hb : byteCells ⟨l.toArray⟩ = l.map fun b => Value.int .u8 b.toNat := by simp [byteCells]
      have hl : (ByteArray.mk l.toArray).size = l.length := by simp [ByteArray.size]
      have hsrc := Src.ofString w (isStr_spec hs.1) ⟨l.toArray⟩
      rw [hb, hl] at hsrc
      obtain ⟨_, rfl⟩ := hs
      have hrep : ∀ l : List UInt8, RepL γ w true (l.map ofByte) (l.map fun b => Value.int .u8 b.toNat) := by
        intro l
        induction l with
        | nil => exact .nil _
        | cons b l ih => exact .cons (.int _ _ _) ih
      have hone : ∀ v ∈ (l.map fun b => Value.int .u8 b.toNat), v.oneCell' = true := by
        intro v hv
        obtain ⟨_, _, rfl⟩ := List.mem_map.1 hv
        rfl
      refine ⟨_, by simpa using hsrc, fun k hk' => ?_, hrep l, hone, by simp⟩
      have e1 : (ByteArray.mk l.toArray).extract 0 k = ⟨(l.take k).toArray⟩ := by
        apply ByteArray.ext
        simp [ByteArray.data_extract, List.extract_toArray, List.extract_eq_take_drop]
      simp [Builtin.firstCells, e1, List.map_take]
    · cases h
  · rename_i o off len cap
    split at h
    · rename_i te cs hte hcs
      simp only [Option.some.injEq, Prod.mk.injEq] at h
      obtain ⟨rfl, rfl, rfl⟩ := h
      first | replace hq := of_decide_eq_true hq | skip
      obtain ⟨e, n', bs, zs⟩ := te
      obtain ⟨inf, z, g1, _⟩ := tElem_spec hte
      cases hu with
      | @arr _ _ _ off' _ _ b hb ho hnc h0 =>
        obtain ⟨b', hb2, vs, T', hh, hr, h1, hni⟩ := hk.obj _ _ hcs (by simp)
        rw [hb] at hb2
        cases hb2
        have hr2 := RepL.up ((hr.drop off).take (len * n))
        have hone : ∀ v ∈ (vs.drop off).take (len * n), v.oneCell' = true := fun v hv => h1 v (List.mem_of_mem_drop (List.mem_of_mem_take hv))
        have hlv := hr.length
        have hlen : ((cs.drop off).take (len * n)).length = len * n := by simp; omega
        have hlen2 : ((vs.drop off).take (len * n)).length = len * n := by simp; omega
        have hcell : ∀ j v, ((vs.drop off).take (len * n))[j]? = some v → w.cell? ⟨b, off' + j, none⟩ = some v := fun j v hj => by
          rw [List.getElem?_take] at hj
          split at hj
          · rename_i hlt
            rw [List.getElem?_drop] at hj
            obtain rfl := h0 (by
              rcases Nat.eq_zero_or_pos len with h2 | h2
              · subst h2; simp at hlt
              · omega)
            simp only [World.cell?, hh]
            simpa using hj
          · cases hj
        refine ⟨(vs.drop off).take (len * n), Src.ofSlice w g1 _ _ _ _ hlen2 (fun j v hj => by rw [addr_add]; exact hcell j v hj) hone, fun k hk' => ?_, hr2, hone, hlen⟩
        refine run_firstCells_some w n k _ _ _ _ ?_ (fun j v hj => ?_)
        · rw [List.length_take, hlen2]
          exact Nat.min_eq_left (Nat.mul_le_mul_right _ hk')
        · rw [addr_add]
          refine hcell j v ?_
          rw [List.getElem?_take] at hj
          split at hj
          · exact hj
          · cases hj
    · cases h
  · cases h

theorem noLocL_append : ∀ {as bs : List AVal}, noLocL as = true → noLocL bs = true → noLocL (as ++ bs) = true
  | [], _, _, h => h
  | a :: as, bs, h1, h2 => by
    simp only [noLocL, Bool.and_eq_true, List.cons_append] at h1 ⊢
    exact ⟨h1.1, noLocL_append h1.2 h2⟩
theorem noLocL_cells {a : AVal} (h : a.noLoc = true) : noLocL a.cells = true := by
  cases a <;> simp_all [AVal.cells, noLocL, AVal.noLoc]
theorem noLocL_flat_replicate {z : AVal} (h : z.noLoc = true) : ∀ k : Nat, noLocL (flat (List.replicate k z)) = true
  | 0 => rfl
  | k + 1 => by
    have := noLocL_flat_replicate h k
    simp only [List.replicate_succ, flat, List.flatMap_cons] at this ⊢
    exact noLocL_append (noLocL_cells h) this

theorem arrOp_sound {P : Program} {γ : Gh} {w : World} {a : Act} {st : St} (hC : Conc γ w a st) {o : Oper} {p : Bool} {v : AVal} {oid : Oid} {cs' : List AVal} (h : arrOp P st.eval st.objAt o.op = some (p, v, oid, cs')) (hp : p) :
    ∃ w' u, (execOp a.eval o).run P w = .ok (.value u) w' ∧ Conc γ w' a (st.setObj oid (.cells cs')) ∧ EvoS γ w st γ w' (st.setObj oid (.cells cs')) ∧ Rep γ w' true v u := by
  unfold arrOp at h
  split at h
  · -- copy
    rename_i args ts ho
    split at h
    · rename_i d s T T' ha ht
      have ha' : args = #[d, s] := by rw [← Array.toArray_toList (xs := args), ha]
      have ht' : ts = #[T, T'] := by rw [← Array.toArray_toList (xs := ts), ht]
      subst ha'; subst ht'
      split at h
      · rename_i o1 off len cap e n bs zs hd he
        obtain ⟨inf, z, g1, g2, g3, _⟩ := tElem_spec he
        split at h
        · rename_i cs q m xs hcs hsrc
          simp only [Option.some.injEq, Prod.mk.injEq] at h
          obtain ⟨rfl, rfl, rfl, rfl⟩ := h
          first | replace hp := of_decide_eq_true hp | skip
          obtain ⟨q1, q2, q3⟩ := hp
          obtain ⟨news, s1, s2, s3, s4, s5⟩ := srcC_sound hC.ok (hC.eval s) hsrc q1
          have hD := hC.eval d
          rw [hd] at hD
          generalize hu : a.eval d = u at hD
          generalize hx : a.eval s = x at s1 s2
          cases hD with
          | @arr _ _ _ off' _ _ b hb hoo hnc h0 =>
            have hl : (xs.take (min m len * n)).length = min m len * n := by
              rw [List.length_take, s5]
              exact Nat.min_eq_left (Nat.mul_le_mul_right _ (Nat.min_le_left _ _))
            obtain ⟨w', c0, c1, c2⟩ := hC.storeArr (P := P) (off' := off') (xs := xs.take (min m len * n)) (news := news.take (min m len * n)) hcs hb (s3.take _) (fun v hv => s4 v (List.mem_of_mem_take hv)) (by rw [hl]; exact q2) q3 (fun h3 => h0 (by
              rw [hl] at h3
              rcases Nat.eq_zero_or_pos cap with h4 | h4
              · have : min m len = 0 := by omega
                rw [this] at h3; simp at h3
              · exact h4))
            refine ⟨w', .int .i64 ((min m len : Nat) : Int), ?_, c1, c2, .int _ _ _⟩
            have s2' := s2 (min m len) (Nat.min_le_left _ _)
            simp only [execOp, ho, resolve, invoke, builtin, Builtin.copy_, Sem.run_bind, Sem.run_pure, Result.andThen_ok, List.map_toArray, List.map_cons, List.map_nil, hu, hx, run_underlying g1, s1.len, sizeOf, typeInfo, g2, g3]
            have e1 : Nat.min m len = min m len := rfl
            simp [run_underlying g1, s1.len, sizeOf, typeInfo, g2, g3, e1, s2', c0, goInt]
        · cases h
      · cases h
    · cases h
  · -- append
    rename_i args ts ho
    split at h
    · rename_i d s T T' ha ht
      have ha' : args = #[d, s] := by rw [← Array.toArray_toList (xs := args), ha]
      have ht' : ts = #[T, T'] := by rw [← Array.toArray_toList (xs := ts), ht]
      subst ha'; subst ht'
      split at h
      · rename_i o1 off len cap e n bs zs hd he
        obtain ⟨inf, z, g1, g2, g3, _⟩ := tElem_spec he
        split at h
        · rename_i cs q m xs hcs hsrc
          simp only [Option.some.injEq, Prod.mk.injEq] at h
          obtain ⟨rfl, rfl, rfl, rfl⟩ := h
          first | replace hp := of_decide_eq_true hp | skip
          obtain ⟨q1, q2, q4, q3⟩ := hp
          obtain ⟨news, s1, s2, s3, s4, s5⟩ := srcC_sound hC.ok (hC.eval s) hsrc q1
          have hD := hC.eval d
          rw [hd] at hD
          generalize hu : a.eval d = u at hD
          generalize hx : a.eval s = x at s1 s2
          cases hD with
          | @arr _ _ _ off' _ _ b hb hoo hnc h0 =>
            obtain ⟨w', c0, c1, c2⟩ := hC.storeArr (P := P) (off := off + len * n) (off' := off' + len * n) (xs := xs) (news := news) hcs hb s3 s4 (by rw [s5]; rw [Nat.add_mul] at q4; omega) q3 (fun h3 => by
              rw [h0 (by
                rw [s5] at h3
                rcases Nat.eq_zero_or_pos m with h4 | h4
                · rw [h4] at h3; simp at h3
                · omega)])
            refine ⟨w', .slice (some ⟨b, off', none⟩) (len + m) cap, ?_, c1, c2, .arr hb hoo q2 h0⟩
            have hk := s1.kind
            rcases hk with ⟨e', hk⟩ | hk <;>
              simp [execOp, ho, resolve, invoke, builtin, Builtin.append_, hu, hx, run_underlying g1, run_underlying hk, sizeOf, typeInfo, g2, g3, s1.len, q2, s1.cells, Addr.add_lit, c0]
        · cases h
      · cases h
    · cases h
  · -- clear
    rename_i args ts ho
    split at h
    · rename_i d T ha ht
      have ha' : args = #[d] := by rw [← Array.toArray_toList (xs := args), ha]
      have ht' : ts = #[T] := by rw [← Array.toArray_toList (xs := ts), ht]
      subst ha'; subst ht'
      split at h
      · rename_i o1 off len cap e n bs zs hd he
        obtain ⟨inf, z, g1, g2, g3, _⟩ := tElem_spec he
        split at h
        · rename_i cs zv hcs hzv
          split at h
          · rename_i hzn
            simp only [Option.some.injEq, Prod.mk.injEq] at h
            obtain ⟨rfl, rfl, rfl, rfl⟩ := h
            first | replace hp := of_decide_eq_true hp | skip
            obtain ⟨q1, q2⟩ := hp
            obtain ⟨inf', z', k1, k2, k3⟩ := zeroV_spec hzv
            rw [g2] at k1
            cases k1
            obtain ⟨r1, r2, r3⟩ := absZ_spec k3 γ w true
            have hD := hC.eval d
            rw [hd] at hD
            generalize hu : a.eval d = u at hD
            cases hD with
            | @arr _ _ _ off' _ _ b hb hoo hnc h0 =>
              have hzl := r2.length
              have hzs : z'.cells.size = n := by rw [← hzn.1, hzl]; simp
              have hrl := replicate_flat r2 len
              have hfl : (flat (List.replicate len zv)).length = len * n := by
                rw [flat_length (flat_replicate_len hzn.1 len)]; simp
              have hnl := noLocL_flat_replicate q2 len
              obtain ⟨w', c0, c1, c2⟩ := hC.storeArr (P := P) (off := off) (off' := off') (xs := flat (List.replicate len zv)) (news := (List.replicate len z'.cells.toList).flatten) hcs hb hrl (replicate_one r3 len) (by rw [hfl]; exact q1) (fun _ => hnl) (fun h3 => h0 (by
                rw [hfl] at h3
                rcases Nat.eq_zero_or_pos len with h4 | h4
                · rw [h4] at h3; simp at h3
                · omega))
              refine ⟨w', .tuple #[], ?_, c1, c2, .tuple (.nil _)⟩
              have hze : ∀ k, (Builtin.zeroCells z'.cells k).toList = (List.replicate k z'.cells.toList).flatten := fun k => by
                have := zeros_eq z'.cells n k hzs hzn.2
                rw [← hzs] at this
                unfold Builtin.zeroCells
                rw [hzs] at this ⊢
                first | exact this | (rw [← hzs]; rw [← hzs] at this; exact this) | simpa [hzs] using this
              have hrz := run_zeroValue (P := P) g2 k2
              cases len with
              | zero =>
                simp only [List.replicate_zero, List.flatten_nil, storeCells, Sem.run_pure, Result.ok.injEq, true_and] at c0
                subst c0
                simp [execOp, ho, resolve, invoke, builtin, Builtin.clear_, hu, run_underlying g1]
              | succ len =>
                simp [execOp, ho, resolve, invoke, builtin, Builtin.clear_, hu, run_underlying g1, hrz, hze, c0]
          · cases h
        · cases h
      · cases h
    · cases h
  · cases h

theorem frzA_sound {P : Program} {γ : Gh} {w : World} {a : Act} {st : St} (hC : Conc γ w a st) {T T' : TypeId} {so xo : Operand} {q : Bool} {r : AVal}
    (h : frzA P st.objAt T T' (st.eval so) (st.eval xo) = some (q, r)) (hq : q) (ty : TypeId) :
    ∃ γ' w' v, (Builtin.append_ #[T, T'] ty #[a.eval so, a.eval xo]).run P w = .ok v w' ∧ Rep γ' w' true r v ∧ Conc γ' w' a st ∧ EvoS γ w st γ' w' st := by
  have hS := hC.eval so
  have hX := hC.eval xo
  generalize a.eval so = u at hS ⊢
  generalize a.eval xo = x at hX ⊢
  unfold frzA at h
  split at h
  · rename_i e n bs zs es0 s0 es1 s1 t1 he hes0 hex
    rw [hes0] at hS
    rw [hex] at hX
    obtain ⟨inf, z, g1, g2, g3, g4, g5, g6⟩ := tElem_spec he
    split at h
    · rename_i hc
      obtain ⟨hn, hzl, hs0⟩ := hc
      have hz : z.cells.size = n := by rw [← hzl, g6]; simp
      split at h
      · rename_i q' es' hsrc
        simp only [Option.some.injEq, Prod.mk.injEq] at h
        obtain ⟨rfl, rfl⟩ := h
        first | replace hq := of_decide_eq_true hq | skip
        obtain ⟨q1, q3, q4⟩ := hq
        obtain ⟨news, k1, k2, k3, k4⟩ := srcA_sound hC.ok hX hsrc q1
        have hln := k2.length
        rw [flat_length k3] at hln
        subst hs0
        obtain ⟨base, vs0, hu, f1, f2, f3, f4, f5⟩ : ∃ base, ∃ vs0 : List Value, u = .slice base es0.length es0.length ∧ (Builtin.firstCells s0 es0.length (.slice base es0.length es0.length)).run P w.drew = .ok vs0.toArray w.drew ∧ RepL γ w false (flat es0) vs0 ∧
            (∀ e ∈ es0, e.cells.length = s0) ∧ (∀ v ∈ vs0, v.oneCell' = true) ∧ Rep γ w true (.slice es0 s0 .ro) u := by
          cases hS with
          | @sliceRow _ _ _ _ b off cap vs hr hse hcA h1 hnc hm htr =>
            simp only [AL.tagRow] at htr
            subst htr
            have hlv := hr.length
            rw [flat_length hse] at hlv
            exact ⟨_, vs, rfl, run_firstCells_row hcA hlv.symm, hr, hse, h1, .sliceRow hr hse hcA h1 hnc hm trivial⟩
          | sliceNil _ _ => exact ⟨_, [], rfl, run_firstCells_zero w.drew _ _ _ _, .nil _, (fun _ h => by cases h), (fun _ h => by cases h), .sliceNil trivial (.inr rfl)⟩
        subst hu
        by_cases hm0 : es'.length = 0
        · have hnil : es' = [] := List.eq_nil_of_length_eq_zero hm0
          subst hnil
          have hnews : news = [] := List.eq_nil_of_length_eq_zero (by simpa using hln.symm)
          subst hnews
          rw [List.append_nil]
          exact ⟨γ, w, _, run_append_same g1 g2 _ _ _ (Nat.le_refl _) k1 g3 ty, f5, hC, Evo.refl _ _ _ _⟩
        · subst g4
          have hrun := run_append_grow_src w T T' ty e inf z g1 g2 g5 base es0.length es0.length vs0 (by rw [g3]; exact f1) x es'.length news (by rw [g3]; exact k1) (by omega) (by omega) (growslice_fits (by omega) q3)
          have hm : grownCap w (es0.length + es'.length) es0.length e ≤ maxLen := grownCap_le_maxLen w _ _ e (by simp [maxLen]; omega)
          have hge := grownCap_ge w (es0.length + es'.length) es0.length e
          generalize hcap : grownCap w (es0.length + es'.length) es0.length e = cap at *
          have hce : vs0.toArray ++ news.toArray ++ Builtin.zeroCells z.cells (cap - (es0.length + es'.length)) = ((vs0 ++ news) ++ (Builtin.zeroCells z.cells (cap - (es0.length + es'.length))).toList).toArray := by simp
          first
            | rw [hce] at hrun
            | (have hce' : (vs0 ++ news).toArray ++ Builtin.zeroCells z.cells (cap - (es0.length + es'.length)) = ((vs0 ++ news) ++ (Builtin.zeroCells z.cells (cap - (es0.length + es'.length))).toList).toArray := by simp
               rw [hce'] at hrun)
          have hC1 : Conc γ w.drew a st := hC.ofHeap rfl
          have hE1 : EvoS γ w st γ w.drew st := EvoS.ofHeap rfl rfl rfl rfl
          obtain ⟨c1, c2, c3⟩ := hC1.allocImm ((vs0 ++ news) ++ (Builtin.zeroCells z.cells (cap - (es0.length + es'.length))).toList) e (0, 0)
          have hpre := (cellsAt_new (γ := γ) (w := w.drew) ((vs0 ++ news) ++ (Builtin.zeroCells z.cells (cap - (es0.length + es'.length))).toList) e (0, 0)).take (vs0 ++ news).length
          rw [List.take_left' rfl] at hpre
          refine ⟨_, _, _, hrun, ?_, c1, hE1.trans c2⟩
          have hlen : (es0 ++ es').length = es0.length + es'.length := List.length_append
          have e1 : Ext false γ w γ w.drew := Ext.ofHeap (w := w) (w' := w.drew) rfl
          have key := Rep.sliceRow (l := true) (es := es0 ++ es') (tag := .ro) (RepL.mono c3.weak (RepL.mono e1 (by rw [flat_append]; exact RepL.append k2 f2))) (fun e he => (List.mem_append.1 he).elim (f3 e) (k3 e)) hpre
            (fun v hv => (List.mem_append.1 hv).elim (f4 v) (k4 v)) (by rw [hlen]; exact hge) hm trivial
          rw [hlen] at key
          exact key
      · cases h
    · cases h
  · cases h

theorem effOp_sound {P : Program} {γ : Gh} {w : World} {a : Act} {st : St} (hC : Conc γ w a st) {cfg : Cfg} {o : Oper} {p : Bool} {st' : St} (h : effOp P cfg o st = some (p, st')) (hp : p) : Does P γ w a o st st' := by
  unfold effOp at h
  split at h
  · rename_i q v hf
    simp only [Option.some.injEq, Prod.mk.injEq] at h
    obtain ⟨rfl, rfl⟩ := h
    first | replace hp := of_decide_eq_true hp | skip
    obtain ⟨hq, hd⟩ := hp
    unfold frzOp at hf
    split at hf
    · rename_i args ts d e hd0
      split at hf
      · split at hf
        · rename_i s x T T' ha ht
          obtain ⟨γ', w', u, h1, h2, h3, h4⟩ := frzA_sound hC hf hq o.type
          refine ⟨γ', w', u, .inl ?_, h3.fin cfg hd h2, EvoS.put (st' := st) h4 (fin_objAt _ _ _ _) (fin_σ _ _ _ _)⟩
          have e1 : args = #[s, x] := Array.ext' (by simpa using ha)
          have e2 : ts = #[T, T'] := Array.ext' (by simpa using ht)
          subst e1; subst e2
          simp [execOp, e, resolve, invoke, builtin, h1]
        · cases hf
      · cases hf
    · cases hf
  split at h
  · rename_i x hx
    cases h
    exact effOp0_sound hC hx hp
  · split at h
    · rename_i q v oid cs ha
      simp only [Option.some.injEq, Prod.mk.injEq] at h
      obtain ⟨rfl, rfl⟩ := h
      first | replace hp := of_decide_eq_true hp | skip
      obtain ⟨w', u, h1, h2, h3, h4⟩ := arrOp_sound hC ha hp.1
      exact ⟨γ, w', u, .inl h1, h2.fin cfg hp.2 h4, h3.put (fin_objAt _ _ _ _) (fin_σ _ _ _ _)⟩
    · cases h

theorem stepOp_sound {P : Program} {γ : Gh} {w : World} {a : Act} {st : St} (hC : Conc γ w a st) {cfg : Cfg} {o : Oper} {p : Bool} {st' : St} (h : stepOp P cfg o st = some (p, st')) (hp : p) : Does P γ w a o st st' := by
  unfold stepOp at h
  split at h
  · rename_i q v hq
    simp only [Option.some.injEq, Prod.mk.injEq] at h
    obtain ⟨rfl, rfl⟩ := h
    first | replace hp := of_decide_eq_true hp | skip
    obtain ⟨hq', hd⟩ := hp
    obtain ⟨u, h1, h2⟩ := pureOp_sound (fun x => hC.eval x) hC.ok hq hq'
    exact ⟨γ, w, u, .inl h1, hC.fin cfg hd h2, EvoS.put (st' := st) (Evo.refl _ _ _ _) (fin_objAt _ _ _ _) (fin_σ _ _ _ _)⟩
  · exact effOp_sound hC h hp

/-! ### A variable that never changes any more -/
mutual
def AVal.frz (k : Nat) (cs : List AVal) : AVal → AVal
  | .agg vs => .agg (frzL k cs vs)
  | .tuple vs => .tuple (frzL k cs vs)
  | .ptr o off => match o.isLoc k with | true => .iptr (cs.drop off) | false => .ptr o off
  | .arr o off len cap => match o.isLoc k with | true => .undef | false => .arr o off len cap
  | .map o => match o.isLoc k with | true => .undef | false => .map o
  | .func fn f c => .func fn (frzL k cs f) (frzL k cs c)
  | .iface t v => .iface t (v.frz k cs)
  | v => v
def frzL (k : Nat) (cs : List AVal) : List AVal → List AVal
  | [] => []
  | a :: as => a.frz k cs :: frzL k cs as
end
def AObj.frz (k : Nat) (cs : List AVal) : AObj → AObj
  | .cells xs => .cells (frzL k cs xs)
  | .map es => .map (es.map fun x => (x.1.frz k cs, x.2.frz k cs))
  | .buf es s g => .buf (es.map (AVal.frz k cs)) s g
  | x => x
theorem frz_cells (k : Nat) (cs : List AVal) (a : AVal) : (a.frz k cs).cells = frzL k cs a.cells := by
  cases a with
  | ptr o off => cases h : o.isLoc k <;> simp [AVal.frz, h, AVal.cells, frzL]
  | arr o off len cap => cases h : o.isLoc k <;> simp [AVal.frz, h, AVal.cells, frzL]
  | map o => cases h : o.isLoc k <;> simp [AVal.frz, h, AVal.cells, frzL]
  | _ => simp [AVal.frz, AVal.cells, frzL]
theorem frzL_append (k : Nat) (cs : List AVal) : ∀ (as bs : List AVal), frzL k cs (as ++ bs) = frzL k cs as ++ frzL k cs bs
  | [], _ => by simp [frzL]
  | a :: as, bs => by simp [frzL, frzL_append k cs as bs]
theorem frzL_length (k : Nat) (cs : List AVal) : ∀ (as : List AVal), (frzL k cs as).length = as.length
  | [] => rfl
  | a :: as => by simp [frzL, frzL_length k cs as]
theorem frz_flat (k : Nat) (cs : List AVal) : ∀ es : List AVal, flat (es.map (AVal.frz k cs)) = frzL k cs (flat es)
  | [] => rfl
  | e :: es => by
    have := frz_flat k cs es
    simp only [flat, List.map_cons, List.flatMap_cons] at this ⊢
    rw [frzL_append, frz_cells, this]
def mapSnd {β : Type} (f : β → β) : List (Nat × β) → List (Nat × β)
  | [] => []
  | x :: r => (x.1, f x.2) :: mapSnd f r
def without {β : Type} (k : Nat) : List (Nat × β) → List (Nat × β)
  | [] => []
  | x :: r => match Nat.beq x.1 k with | true => without k r | false => x :: without k r
theorem lookup_mapSnd {β : Type} (f : β → β) : ∀ (l : List (Nat × β)) (t : Nat), lookup (mapSnd f l) t = (lookup l t).map f
  | [], _ => rfl
  | x :: r, t => by
    simp only [mapSnd, lookup]
    split
    · rfl
    · exact lookup_mapSnd f r t
theorem lookup_without {β : Type} (k : Nat) : ∀ (l : List (Nat × β)) (t : Nat), lookup (without k l) t = if t = k then none else lookup l t
  | [], t => by simp [without, lookup]
  | x :: r, t => by
    have ih := lookup_without k r t
    simp only [without]
    cases hb : Nat.beq x.1 k with
    | true =>
      have he := Nat.eq_of_beq_eq_true hb
      simp only []
      rw [ih]
      by_cases h : t = k
      · simp [h]
      · rw [if_neg h, if_neg h]
        simp only [lookup]
        rw [if_neg (fun e => h (e.symm.trans he))]
    | false =>
      have hne : x.1 ≠ k := fun e => by rw [e] at hb; simp at hb
      simp only [lookup]
      by_cases h : t = k
      · rw [if_pos h] at ih ⊢
        rw [if_neg (fun e => hne (e.trans h)), ih]
      · rw [if_neg h] at ih ⊢
        rw [ih]

def St.freeze (k : Nat) (st : St) : Bool × St :=
  match lookup st.loc k with
  | some (.cells cs) => (noLocL cs, { st with fr := mapSnd (AVal.frz k cs) st.fr, tm := mapSnd (AVal.frz k cs) st.tm, loc := mapSnd (AObj.frz k cs) (without k st.loc) })
  | _ => (false, st)
def St.freezeL : List Nat → St → Bool × St
  | [], st => (true, st)
  | k :: ks, st => ((st.freeze k).1 && (St.freezeL ks (st.freeze k).2).1, (St.freezeL ks (st.freeze k).2).2)
/-- The activation's own objects that operands lead to. -/
def locsOf (st : St) : List Operand → List Nat
  | [] => []
  | x :: r => match st.eval x with
    | .ptr (.loc k) _ => (match (locsOf st r).elem k with | true => locsOf st r | false => k :: locsOf st r)
    | _ => locsOf st r

structure FrzHyp (γ γ' : Gh) (w : World) (k b : Nat) (cs : List AVal) (vs : List Value) : Prop where
  ext : Ext false γ w γ' w
  obj : ∀ i, i ≠ .loc k → γ'.obj i = γ.obj i
  at_ : γ.obj (.loc k) = some b
  rep : RepL γ' w false cs vs
  one : ∀ v ∈ vs, v.oneCell' = true
  cells : cellsAt γ' w b 0 vs

theorem isLoc_iff {o : Oid} {k : Nat} : o.isLoc k = true ↔ o = .loc k := by
  cases o with
  | loc j => simp [Oid.isLoc]
  | out n => simp [Oid.isLoc]

mutual
theorem Rep.frz {γ γ' : Gh} {w : World} {k b : Nat} {cs : List AVal} {vs : List Value} (H : FrzHyp γ γ' w k b cs vs) : ∀ {l : Bool} {a : AVal} {v : Value}, Rep γ w l a v → Rep γ' w l (a.frz k cs) v
  | _, _, _, .undef l v => .undef l v
  | _, _, _, .bool l b => .bool l b
  | _, _, _, .int l k n => .int l k n
  | _, _, _, .str l s => .str l s
  | _, _, _, .agg h h1 => .agg (RepL.frz H h) h1
  | _, _, _, .tuple h => .tuple (RepL.frz H h)
  | _, _, _, .sliceRow h hs hc h1 hn hm ht => .sliceRow (RepL.mono H.ext h) hs (H.ext.cellsAt hc) h1 hn hm (H.ext.tagRow ht)
  | _, _, _, .sliceNil ht ho => .sliceNil (H.ext.tagNil ht) ho
  | _, _, _, .mrow (k := j) hc hn hb => .mrow ((H.obj _ (by simp)).trans hc) hn (fun h => by
    obtain ⟨b', h1, h2⟩ := hb h
    exact ⟨b', h1, (H.obj _ (by simp)).trans h2⟩)
  | _, _, _, .arr (o := o) hb ho hn h0 => by
    unfold AVal.frz
    cases hl : o.isLoc k with
    | true => exact .undef _ _
    | false =>
      have : o ≠ .loc k := fun e => by rw [isLoc_iff.2 e] at hl; cases hl
      exact .arr ((H.obj o this).trans hb) ho hn h0
  | _, _, _, .iptr h h1 hc => .iptr (RepL.mono H.ext h) h1 (H.ext.cellsAt hc)
  | _, _, _, .ptr (o := o) (off := off) hb ho => by
    unfold AVal.frz
    cases hl : o.isLoc k with
    | true =>
      have e := isLoc_iff.1 hl
      subst e
      rw [H.at_] at hb
      cases hb
      exact .iptr (H.rep.drop off) (fun v hv => H.one v (List.mem_of_mem_drop hv)) (by have := H.cells.drop off; rwa [Nat.zero_add] at this)
    | false =>
      have : o ≠ .loc k := fun e => by rw [isLoc_iff.2 e] at hl; cases hl
      exact .ptr ((H.obj o this).trans hb) ho
  | _, _, _, .nilptr l => .nilptr l
  | _, _, _, .map (o := o) hb ho => by
    unfold AVal.frz
    cases hl : o.isLoc k with
    | true => exact .undef _ _
    | false =>
      have : o ≠ .loc k := fun e => by rw [isLoc_iff.2 e] at hl; cases hl
      exact .map ((H.obj o this).trans hb) ho
  | _, _, _, .nilmap l => .nilmap l
  | _, _, _, .func hf hc => .func (RepL.frz H hf) (RepL.frz H hc)
  | _, _, _, .nilfunc l => .nilfunc l
  | _, _, _, .iface h => .iface (Rep.frz H h)
  | _, _, _, .nilIface l => .nilIface l
theorem RepL.frz {γ γ' : Gh} {w : World} {k b : Nat} {cs : List AVal} {vs : List Value} (H : FrzHyp γ γ' w k b cs vs) : ∀ {l : Bool} {as : List AVal} {us : List Value}, RepL γ w l as us → RepL γ' w l (frzL k cs as) us
  | _, _, _, .nil l => .nil l
  | _, _, _, .cons h t => .cons (Rep.frz H h) (RepL.frz H t)
end

theorem Conc.freezeH {γ : Gh} {w : World} {a : Act} {st : St} (hC : Conc γ w a st) {k : Nat} (hp : (st.freeze k).1 = true) : ∃ γ', Conc γ' w a (st.freeze k).2 ∧ EvoS γ w st γ' w (st.freeze k).2 ∧ ∃ cs b vs, lookup st.loc k = some (.cells cs) ∧ FrzHyp γ γ' w k b cs vs := by
  unfold St.freeze at hp ⊢
  split at hp
  · rename_i cs hcs
    simp only [hcs]
    obtain ⟨b, hb, vs, T, hh, hr, h1, hni⟩ := hC.inv.objc (i := .loc k) (x := .cells cs) hcs (by simp)
    have hlt : b < w.heap.size := block_lt hh
    have hrf : RepL γ w false cs vs := RepL.noLoc hr hp
    have hext : Ext false γ w { imm := fun b' o => γ.imm b' o ∨ (b' = b ∧ o < vs.length), obj := fun i => if i = .loc k then none else γ.obj i, own := γ.own } w :=
      ⟨fun b' o hi => ⟨.inl hi, rfl⟩, fun i b' hl hi => by
        have : i ≠ .loc k := by rintro rfl; simp [Oid.isOut] at hl
        simpa [this] using hi, fun p => OwnStep.refl _⟩
    have H : FrzHyp γ { imm := fun b' o => γ.imm b' o ∨ (b' = b ∧ o < vs.length), obj := fun i => if i = .loc k then none else γ.obj i, own := γ.own } w k b cs vs := by
      refine ⟨hext, fun i hi => by simp [hi], hb, RepL.mono hext hrf, h1, fun j v hj => ?_⟩
      have hjl : j < vs.length := by
        rcases Nat.lt_or_ge j vs.length with h | h
        · exact h
        · rw [List.getElem?_eq_none h] at hj; cases hj
      refine ⟨.inr ⟨rfl, by omega⟩, ?_⟩
      simp only [World.cell?, hh, Nat.zero_add]
      simpa using hj
    have hob : ∀ i, St.objAt { st with fr := mapSnd (AVal.frz k cs) st.fr, tm := mapSnd (AVal.frz k cs) st.tm, loc := mapSnd (AObj.frz k cs) (without k st.loc) } i = match i with
        | .loc j => if j = k then none else (lookup st.loc j).map (AObj.frz k cs)
        | .out n => st.σ.obj n := fun i => by
      cases i with
      | loc j => simp only [St.objAt, lookup_mapSnd, lookup_without]; split <;> rfl
      | out n => rfl
    have hold : ∀ i y, St.objAt { st with fr := mapSnd (AVal.frz k cs) st.fr, tm := mapSnd (AVal.frz k cs) st.tm, loc := mapSnd (AObj.frz k cs) (without k st.loc) } i = some y → i ≠ .loc k ∧ ∃ x, st.objAt i = some x ∧ (y = x.frz k cs ∧ i.isOut = false ∨ y = x ∧ i.isOut = true) := fun i y hy => by
      rw [hob] at hy
      cases i with
      | loc j =>
        simp only [] at hy
        split at hy
        · cases hy
        · rename_i hne
          cases hx : lookup st.loc j with
          | none => rw [hx] at hy; cases hy
          | some x =>
            rw [hx] at hy
            cases hy
            exact ⟨fun e => hne (by cases e; rfl), x, hx, .inl ⟨rfl, rfl⟩⟩
      | out n => exact ⟨(fun e => by cases e), y, hy, .inr ⟨rfl, rfl⟩⟩
    have hne : ∀ i x b', st.objAt i = some x → i ≠ .loc k → γ.obj i = some b' → b' ≠ b := fun i x b' hx hi hb' e => by
      subst e
      exact hi (hC.inv.inj i (.loc k) x (.cells cs) b' hx hcs hb' hb)
    refine ⟨{ imm := fun b' o => γ.imm b' o ∨ (b' = b ∧ o < vs.length), obj := fun i => if i = .loc k then none else γ.obj i, own := γ.own }, ⟨hC.size, fun t => ?_, hC.defers, ⟨fun b' o hi => ?_, fun i y hy => ?_, fun i j y z b' hy hz hbi hbj => ?_, fun p n hpn => ?_, hC.inv.ownInj, fun i y p n b' hy hpn hbi hbp => ?_, fun n hn => ?_, hC.inv.freshW, ⟨hC.inv.amb.1, fun x hx => .inl (hC.inv.amb.2.1 x hx), fun x hx => .inl (hC.inv.amb.2.2.1 x hx), fun x hx o ho => .inl (hC.inv.amb.2.2.2 x hx o ho)⟩⟩⟩, ⟨rfl, rfl, rfl, Nat.le_refl _, fun _ _ _ => rfl, hext, fun b' o hi => ?_, fun b' hm => ?_⟩, cs, b, vs, rfl, H⟩
    · have := Rep.frz H (hC.fr t)
      unfold St.get at this ⊢
      simp only [lookup_mapSnd]
      cases hf : lookup st.fr t with
      | some v => rw [hf] at this; exact this
      | none =>
        rw [hf] at this
        simp only [Option.map_none] at this ⊢
        cases ht : lookup st.tm t with
        | some v => rw [ht] at this; exact this
        | none => exact .undef _ _
    · rcases hi with hi | ⟨rfl, ho⟩
      · exact hC.inv.imm b' o hi
      · exact hlt
    · obtain ⟨hik, x, hx, hy2⟩ := hold i y hy
      rcases hC.inv.obj i x hx with hh1 | ⟨b', hb', hok⟩
      · refine .inl ?_
        obtain ⟨j, s, rfl, rfl, g1, g2⟩ := hh1
        refine ⟨j, s, rfl, ?_, by simpa using g1, by simpa using g2⟩
        rcases hy2 with ⟨rfl, _⟩ | ⟨rfl, _⟩ <;> rfl
      have hbb := hne i x b' hx hik hb'
      have hn : ∀ o, ¬ (γ.imm b' o ∨ (b' = b ∧ o < vs.length)) := fun o h => h.elim (hok.notImm o) (fun h => hbb h.1)
      refine .inr ⟨b', by simpa [hik] using hb', ?_⟩
      rcases hy2 with ⟨rfl, hio⟩ | ⟨rfl, hio⟩
      · rw [hio] at hok ⊢
        cases x with
        | cells xs =>
          obtain ⟨us, T', g1, g2, g3, _⟩ := hok
          exact ⟨us, T', g1, RepL.frz H g2, g3, hn⟩
        | map es =>
          obtain ⟨ents, clock, g1, g2, g3, g4, _⟩ := hok
          refine ⟨ents, clock, g1, ⟨by simpa using g2.1, fun i x e h1 h2 => ?_⟩, g3, g4, hn⟩
          rw [List.getElem?_map] at h1
          cases hx' : es[i]? with
          | none => rw [hx'] at h1; cases h1
          | some x0 =>
            rw [hx'] at h1
            cases h1
            exact ⟨Rep.frz H (g2.2 i x0 e hx' h2).1, Rep.frz H (g2.2 i x0 e hx' h2).2⟩
        | siter s pos => exact ⟨hok.1, hn⟩
        | buf es s g =>
          obtain ⟨us, junk, T', cap', g1, g2, g3, g4, g5, g6, g7, g8, _⟩ := hok
          refine ⟨us, junk, T', cap', g1, ?_, fun e he => ?_, g4, (H.obj _ (by simp)).trans g5, g6, g7, g8, hn⟩
          · rw [frz_flat]; exact RepL.frz H g2
          · obtain ⟨e0, he0, rfl⟩ := List.mem_map.1 he
            rw [frz_cells, frzL_length]; exact g3 e0 he0
      · rw [hio] at hok ⊢
        exact hok.mono hext rfl hn
    · obtain ⟨hik, x, hx, _⟩ := hold i y hy
      obtain ⟨hjk, x', hx', _⟩ := hold j z hz
      simp only [hik, hjk, if_false] at hbi hbj
      exact hC.inv.inj i j x x' b' hx hx' hbi hbj
    · have hok := hC.inv.own p n hpn
      exact hok.mono (fun _ _ => rfl) (fun b' o hb' hi => hi.elim id (fun h => by
        rw [h.1] at hb'
        exact (hC.inv.apart (.loc k) (.cells cs) p n b hcs hpn hb hb').elim))
    · obtain ⟨hik, x, hx, _⟩ := hold i y hy
      simp only [hik, if_false] at hbi
      exact hC.inv.apart i x p n b' hx hpn hbi hbp
    · have := hC.inv.freshO n hn
      simpa using this
    · rcases hi with hi | ⟨rfl, _⟩
      · exact .inl hi
      · exact .inr (.inr (.inl ⟨.loc k, .cells cs, hcs, hb⟩))
    · refine .inl ?_
      rcases hm with ⟨i, y, hy, hbi⟩ | hm
      · obtain ⟨hik, x, hx, _⟩ := hold i y hy
        simp only [hik, if_false] at hbi
        exact .inl ⟨i, x, hx, hbi⟩
      · exact .inr hm
  · cases hp

theorem Conc.freeze {γ : Gh} {w : World} {a : Act} {st : St} (hC : Conc γ w a st) {k : Nat} (hp : (st.freeze k).1 = true) : ∃ γ', Conc γ' w a (st.freeze k).2 ∧ EvoS γ w st γ' w (st.freeze k).2 := by
  obtain ⟨γ', h1, h2, _⟩ := hC.freezeH hp
  exact ⟨γ', h1, h2⟩
/-- An array of the activation's own never changes any more: the slot that holds it is a slice (of elements of one cell) from now on. -/
def St.freezeS (keep : List Nat) (k t : Nat) (st : St) : Bool × St :=
  match st.get t, lookup st.loc k with
  | .arr (.loc j) 0 len cap, some (.cells cs) => ((Nat.beq j k && (st.freeze k).1) && (hold (decide (len ≤ cs.length ∧ cap ≤ 9223372036854775807)) && (cs.take len).all AVal.one), (st.freeze k).2.put keep t (.slice (cs.take len) 1 .ro))
  | _, _ => (false, st)
theorem flat_one {es : List AVal} (h : es.all AVal.one = true) : flat es = es ∧ ∀ e ∈ es, e.cells.length = 1 := by
  have h1 : ∀ e : AVal, e.one = true → e.cells = [e] := fun e he => by cases e <;> first | rfl | cases he
  induction es with
  | nil => exact ⟨rfl, by simp⟩
  | cons e r ih =>
    simp only [List.all_cons, Bool.and_eq_true] at h
    obtain ⟨i1, i2⟩ := ih h.2
    refine ⟨?_, fun x hx => ?_⟩
    · simp only [flat, List.flatMap_cons] at i1 ⊢
      rw [i1, h1 e h.1]; rfl
    · rcases List.mem_cons.1 hx with rfl | hx
      · rw [h1 _ h.1]; rfl
      · exact i2 x hx
theorem Conc.freezeS {γ : Gh} {w : World} {a : Act} {st : St} (hC : Conc γ w a st) {keep : List Nat} {k t : Nat} (hp : (st.freezeS keep k t).1 = true) : ∃ γ', Conc γ' w a (st.freezeS keep k t).2 ∧ EvoS γ w st γ' w (st.freezeS keep k t).2 := by
  unfold St.freezeS at hp ⊢
  split at hp
  · rename_i j len cap cs ht hcs
    simp only [ht, hcs]
    simp only [Bool.and_eq_true, hold_eq, decide_eq_true_eq] at hp
    obtain ⟨⟨hj, hf⟩, ⟨hl, hm⟩, ho⟩ := hp
    have hj := Nat.eq_of_beq_eq_true hj
    subst hj
    obtain ⟨γ', h1, h2, cs', b, vs, hcs', H⟩ := hC.freezeH hf
    rw [hcs] at hcs'
    cases hcs'
    have hr := hC.fr t
    rw [ht] at hr
    refine ⟨γ', ⟨by simpa using h1.size, fun u => ?_, h1.defers, by rw [St.put_objAt, St.put_σ]; exact h1.inv⟩, h2.put (St.put_objAt _ _ _ _) (St.put_σ _ _ _ _)⟩
    rw [St.get_put]
    split
    · rename_i e
      subst e
      generalize a.tmps.getD t undef = v at hr
      cases hr with
      | @arr _ _ _ off' _ _ b' hb ho' hn h0 =>
        rw [H.at_] at hb
        cases hb
        obtain ⟨f1, f2⟩ := flat_one ho
        have hlen : (cs.take len).length = len := by rw [List.length_take]; omega
        by_cases hc0 : cap = 0
        · have : len = 0 := by omega
          subst this
          subst hc0
          exact .sliceNil trivial (.inr rfl)
        · have e0 : off' = 0 := h0 (by omega)
          subst e0
          have := Rep.sliceRow (γ := γ') (w := w) (l := true) (es := cs.take len) (s := 1) (tag := .ro) (b := b) (off := 0) (cap := cap) (vs := vs.take len) (by rw [f1]; exact H.rep.take len) f2 (H.cells.take len) (fun v hv => H.one v (List.mem_of_mem_take hv)) (by rw [hlen]; exact hn) hm trivial
          rw [hlen] at this
          exact this
    · exact h1.fr u
  · cases hp

theorem Conc.freezeL {w : World} {a : Act} : ∀ (ks : List Nat) {γ : Gh} {st : St}, Conc γ w a st → (St.freezeL ks st).1 = true → ∃ γ', Conc γ' w a (St.freezeL ks st).2 ∧ EvoS γ w st γ' w (St.freezeL ks st).2
  | [], γ, st, h, _ => ⟨γ, h, Evo.refl _ _ _ _⟩
  | k :: ks, γ, st, h, hp => by
    simp only [St.freezeL, Bool.and_eq_true] at hp ⊢
    obtain ⟨γ1, c1, e1⟩ := h.freeze hp.1
    obtain ⟨γ2, c2, e2⟩ := c1.freezeL ks hp.2
    exact ⟨γ2, c2, e1.trans e2⟩

end
end Go.AL
