/-
  The abstract layer, part 8: one operation (no call), as a step from state to state; its soundness.
-/
import Derived.Test.YtekcekddahkajaaA7
namespace Go.AL
noncomputable section
set_option linter.unusedSimpArgs false
set_option linter.unusedVariables false

/-- What is known of a call's answer: it turns nothing; it turns permissions; it turns what it turns; 'nm': the same, with a name for a part. -/
inductive Ans : Type 1 where
  | pure (c : Bool) (v : AVal)
  | own (c : Bool) (v : AVal) (ow : Nat → Option Nat) (nw : Nat)
  | full (c : Bool) (v : AVal) (σ : Sto)
  | nm {α : Type} (x : α) (f : α → Ans)

/-- How a function is read: which slots are kept beyond their region; at which slots an object is made that others may see; at which slots a slice is made whose elements are written; which slots' slices are appended to round a loop (with the elements' width). -/
structure Cfg where
  keep : List Nat
  out : List Nat := []
  wr : List Nat := []
  orc : FuncId → List AVal → Sto → Option Ans := fun _ _ _ => none
  cut : List (Nat × List Nat × List Nat) := []
  grow : List (Nat × Nat) := []

def AObj.noLoc : AObj → Bool
  | .cells cs => noLocL cs
  | .map es => es.all fun x => x.1.noLoc && x.2.noLoc
  | .siter _ _ => true

def St.fin (cfg : Cfg) (dst : Option Nat) (v : AVal) (st : St) : Bool × St :=
  match dst with
  | none => (true, st)
  | some d => (d < st.n, st.put cfg.keep d v)

def allocA (cfg : Cfg) (st : St) (d : Nat) (x : AObj) (v : Oid → AVal) : Option (Bool × St) :=
  if cfg.out.elem d then some (decide (x.noLoc = true ∧ d < st.n), ({ st with σ := st.σ.push x } : St).put cfg.keep d (v (.out st.σ.nobj)))
  else some (decide ((st.put cfg.keep d .undef).noRef d = true ∧ x.noRef d = true ∧ d < st.n), ((st.put cfg.keep d .undef).setLoc d x).put cfg.keep d (v (.loc d)))

def storeA (P : Program) (st : St) (T : TypeId) (a v : AVal) : Option (Bool × St) :=
  match tVar P T, a with
  | some (n, _), .ptr o off =>
    match st.objAt o with
    | some (.cells cs) => if v.sized && v.cells.length == n then some (decide (off + n ≤ cs.length ∧ (o.isOut = true → noLocL v.cells = true)), st.setObj o (.cells (setRange cs off v.cells))) else none
    | _ => none
  | _, _ => none

/-- The elements of a slice literal: at each place the last that is laid there. -/
def setElems (es : List AVal) : List (Nat × AVal) → List AVal
  | [] => es
  | x :: r => setElems (es.set x.1 x.2) r

def elemsOk (n len : Nat) : List (Nat × AVal) → Bool
  | [] => true
  | x :: r => x.2.sized && x.2.cells.length == n && decide (x.1 < len) && elemsOk n len r

def buildSliceA (P : Program) (cfg : Cfg) (st : St) (T len : Nat) (ps : List (Nat × AVal)) (dst : Option Nat) : Option (Bool × St) :=
  match tElem P T with
  | some (e, n, _, _) =>
    match zeroV P e, dst with
    | some z, some d =>
      if z.cells.length = n ∧ elemsOk n len ps = true ∧ len * n ≤ 16777216 ∧ 0 < n then
        if cfg.wr.elem d then allocA cfg st d (.cells (flat (setElems (List.replicate len z) ps))) (fun o => .arr o 0 len)
        else some (decide (noLocL (flat (setElems (List.replicate len z) ps)) = true ∧ d < st.n), st.put cfg.keep d (.slice (setElems (List.replicate len z) ps) n .full))
      else none
    | _, _ => none
  | none => none

def sameOperand : Operand → Operand → Bool
  | .tmp a, .tmp b => a == b
  | .const (.int _ a), .const (.int _ b) => a == b
  | _, _ => false

def makeSliceA (P : Program) (cfg : Cfg) (st : St) (T : TypeId) (lo co : Operand) (dst : Option Nat) : Option (Bool × St) :=
  match tElem P T with
  | some (e, n, bs, _) =>
    match zeroV P e, dst, st.eval lo, st.eval co with
    | some z, some d, .int .i64 l, .int .i64 c =>
      if z.cells.length = n ∧ 0 < n then
        if cfg.wr.elem d then
          match allocA cfg st d (.cells (flat (List.replicate l.toNat z))) (fun o => .arr o 0 l.toNat) with
          | some (p, st') => some (decide (0 ≤ l ∧ l = c ∧ (bs : Int) * c ≤ 281474976710656 ∧ c ≤ 9223372036854775807 ∧ p), st')
          | none => none
        else some (decide (0 ≤ l ∧ l ≤ c ∧ (bs : Int) * c ≤ 281474976710656 ∧ c ≤ 9223372036854775807 ∧ z.noLoc = true ∧ d < st.n),
          st.put cfg.keep d (.slice (List.replicate l.toNat z) n (if sameOperand lo co then .full else .ro)))
      else none
    | _, _, _, _ => none
  | none => none

def bytesOfA (P : Program) (cfg : Cfg) (st : St) (src dst : TypeId) (x : AVal) (d : Option Nat) : Option (Bool × St) :=
  match x, d with
  | .str s, some d => if isStr P src && isBytes P dst then some (decide (s.length ≤ 9223372036854775807 ∧ d < st.n), st.put cfg.keep d (.slice (s.map ofByte) 1 .ro)) else none
  | _, _ => none

def effOp (P : Program) (cfg : Cfg) (o : Oper) (st : St) : Option (Bool × St) :=
  match o.op with
  | .alloc T => match zeroA P T, o.dst with | some cs, some d => allocA cfg st d (.cells cs) (fun o => .ptr o 0) | _, _ => none
  | .box T x => match o.dst with | some d => if (st.eval x).sized then allocA cfg st d (.cells (st.eval x).cells) (fun o => .ptr o 0) else none | none => none
  | .store T x y => match o.dst with | none => storeA P st T (st.eval x) (st.eval y) | some _ => none
  | .buildSlice T len ps => buildSliceA P cfg st T len (ps.toList.map fun x => (x.1, st.eval x.2)) o.dst
  | .makeSlice T l c => makeSliceA P cfg st T l c o.dst
  | .convert src dst x => bytesOfA P cfg st src dst (st.eval x) o.dst
  | .call ⟨.builtin .append, args, ts⟩ =>
    match args.toList, ts.toList with
    | [s, x], [T, T'] => match appendA P st.objAt st.σ T T' (st.eval s) (st.eval x) with
      | some (p, v, σ') => some (decide (p ∧ (({ st with σ := σ' } : St).fin cfg o.dst v).1), (({ st with σ := σ' } : St).fin cfg o.dst v).2)
      | none => none
    | _, _ => none
  | _ => none

/-- One operation that is no call of a function. -/
def stepOp (P : Program) (cfg : Cfg) (o : Oper) (st : St) : Option (Bool × St) :=
  match pureOp P st.eval st.objAt o.op with
  | some (p, v) => some (decide (p ∧ (st.fin cfg o.dst v).1), (st.fin cfg o.dst v).2)
  | none => effOp P cfg o st

/-- What a step comes to, in the machine. -/
def Does (P : Program) (γ : Gh) (w : World) (a : Act) (o : Oper) (st st' : St) : Prop :=
  ∃ γ' w' u, ((execOp a.eval o).run P w = .ok (.value u) w' ∨ ((execOp a.eval o).run P w = .ok .skip w' ∧ u = undef)) ∧ Conc γ' w' (a.put o.dst u) st' ∧ EvoS γ w st γ' w' st'

theorem Conc.fin {γ : Gh} {w : World} {a : Act} {st : St} (h : Conc γ w a st) (cfg : Cfg) {dst : Option Nat} {v : AVal} (hd : (st.fin cfg dst v).1) {u : Value} (hu : Rep γ w true v u) : Conc γ w (a.put dst u) (st.fin cfg dst v).2 := by
  cases dst with
  | none => exact h
  | some d => exact h.put cfg.keep (of_decide_eq_true hd) hu

theorem fin_objAt (cfg : Cfg) (dst : Option Nat) (v : AVal) (st : St) : (st.fin cfg dst v).2.objAt = st.objAt := by
  cases dst with
  | none => rfl
  | some d => exact St.put_objAt _ _ _ _

theorem fin_σ (cfg : Cfg) (dst : Option Nat) (v : AVal) (st : St) : (st.fin cfg dst v).2.σ = st.σ := by
  cases dst with
  | none => rfl
  | some d => exact St.put_σ _ _ _ _

theorem EvoS.put {γ γ' : Gh} {w w' : World} {st st' st2 : St} (h : EvoS γ w st γ' w' st') (h1 : st2.objAt = st'.objAt) (h2 : st2.σ = st'.σ) : EvoS γ w st γ' w' st2 := by
  unfold EvoS at h ⊢
  rw [h1, h2]
  exact h

theorem Conc.undefSlot {γ : Gh} {w : World} {a : Act} {st : St} (h : Conc γ w a st) (keep : List Nat) (d : Nat) : Conc γ w a (st.put keep d .undef) where
  size := by simpa using h.size
  fr t := by
    rw [St.get_put]
    split
    · exact .undef _ _
    · exact h.fr t
  defers := h.defers
  inv := by rw [St.put_objAt, St.put_σ]; exact h.inv

theorem AObj.objOk_new {γ γ' : Gh} {w w' : World} {l : Bool} {b : Nat} {cs : List AVal} {vs : List Value} {T : TypeId} (hr : RepL γ w l cs vs) (h1 : ∀ v ∈ vs, v.oneCell' = true) (e : Ext l γ w γ' w') (hb : w'.heap[b]? = some (.cells vs.toArray T)) (hn : ∀ o, ¬ γ'.imm b o) :
    objOk γ' w' l b (.cells cs) := ⟨vs, T, hb, RepL.mono e hr, h1, hn⟩

/-- A new object of cells. -/
theorem allocA_sound {P : Program} {γ : Gh} {w : World} {a : Act} {st : St} (hC : Conc γ w a st) {cfg : Cfg} {d : Nat} {cs : List AVal} {mk : Oid → AVal} {p : Bool} {st' : St} (h : allocA cfg st d (.cells cs) mk = some (p, st')) (hp : p)
    {vs : List Value} (T : TypeId) (hr : RepL γ w true cs vs) (h1 : ∀ v ∈ vs, v.oneCell' = true) {u : Value} (hu : ∀ γ' i, γ'.obj i = some w.heap.size → Rep γ' (w.alloc (.cells vs.toArray T)) true (mk i) u) :
    ∃ γ', Conc γ' (w.alloc (.cells vs.toArray T)) (a.put (some d) u) st' ∧ EvoS γ w st γ' (w.alloc (.cells vs.toArray T)) st' := by
  unfold allocA at h
  split at h
  · simp only [Option.some.injEq, Prod.mk.injEq] at h
    obtain ⟨rfl, rfl⟩ := h
    first | replace hp := of_decide_eq_true hp | skip
    obtain ⟨hl, hd⟩ := hp
    have hr2 := RepL.noLoc hr hl
    obtain ⟨γ', c1, c2, c3, c4⟩ := hC.allocOut (.cells vs.toArray T) (.cells cs) (fun γ' w' e hb hn => AObj.objOk_new hr2 h1 e.weak hb hn)
    exact ⟨γ', c1.put cfg.keep hd (hu γ' _ c3), c2.put (St.put_objAt _ _ _ _) (St.put_σ _ _ _ _)⟩
  · simp only [Option.some.injEq, Prod.mk.injEq] at h
    obtain ⟨rfl, rfl⟩ := h
    first | replace hp := of_decide_eq_true hp | skip
    obtain ⟨hl, hl2, hd⟩ := hp
    have hC1 := hC.undefSlot cfg.keep d
    obtain ⟨γ', c1, c2, c3⟩ := hC1.allocLoc d hl (.cells vs.toArray T) (.cells cs) (fun γ' w' _ e hb hn => AObj.objOk_new (RepL.setLoc hr hl2) h1 e hb hn)
    refine ⟨γ', c1.put cfg.keep (by simpa [St.setLoc] using hd) (hu γ' _ c3), ?_⟩
    have hE : EvoS γ w st γ' (w.alloc (.cells vs.toArray T)) ((st.put cfg.keep d .undef).setLoc d (.cells cs)) := by
      unfold EvoS at c2 ⊢
      rw [St.put_objAt, St.put_σ] at c2
      exact c2
    exact hE.put (St.put_objAt _ _ _ _) (St.put_σ _ _ _ _)

theorem storeA_sound {P : Program} {γ : Gh} {w : World} {a : Act} {st : St} (hC : Conc γ w a st) {T : TypeId} {x y : Operand} {p : Bool} {st' : St} (h : storeA P st T (st.eval x) (st.eval y) = some (p, st')) (hp : p) :
    ∃ w', (Instr.storeAt T (a.eval x) (a.eval y)).run P w = .ok () w' ∧ Conc γ w' a st' ∧ EvoS γ w st γ w' st' := by
  have hx := hC.eval x
  have hy := hC.eval y
  unfold storeA at h
  split at h
  · rename_i n g o off ht hxe
    rw [hxe] at hx
    generalize a.eval x = u at hx ⊢
    generalize a.eval y = v at hy ⊢
    split at h
    · rename_i cs hcs
      split at h
      · rename_i hs
        simp only [Bool.and_eq_true, beq_iff_eq] at hs
        simp only [Option.some.injEq, Prod.mk.injEq] at h
        obtain ⟨rfl, rfl⟩ := h
        first | replace hp := of_decide_eq_true hp | skip
        cases hx with
        | @ptr _ _ _ b hb ho =>
          obtain ⟨b', hb2, vs, T', hh, hr, h1, hni⟩ := hC.inv.obj _ _ hcs
          rw [hb] at hb2
          cases hb2
          obtain ⟨hyr, hy1⟩ := sized_cells hy hs.1
          have hl := hr.length
          have hly := hyr.length
          simp only [Array.length_toList] at hly
          have hlv : v.cells.size = n := by omega
          have hst := run_storeCells_at P b off T' v.cells.toList 0 vs.toArray w hh (by simp; omega) hy1
          simp only [Nat.add_zero] at hst
          have hsz : ∃ inf, P.info? T = some inf ∧ inf.size = n := by
            unfold tVar at ht
            cases hi : P.info? T with
            | none => simp [hi] at ht
            | some inf =>
              cases hg : tIsAgg P T with
              | none => simp [hi, hg] at ht
              | some g' => simp [hi, hg] at ht; exact ⟨inf, rfl, ht.1⟩
          obtain ⟨inf, hi, hin⟩ := hsz
          have hrun : (Instr.storeAt T (.pointer (some ⟨b, off, none⟩)) v).run P w = .ok () (w.setRow b (vs.take off ++ v.cells.toList ++ vs.drop (off + v.cells.toList.length)).toArray) := by
            have e1 : (storeCells ⟨b, off, none⟩ v.cells.toList).run P w = .ok () (w.setRow b (vs.take off ++ v.cells.toList ++ vs.drop (off + v.cells.toList.length)).toArray) := by
              simpa using hst
            simp only [Instr.storeAt, Instr.sureAddr, Sem.run_bind, Sem.run_pure, Result.andThen_ok, storeVar, run_sizeOf' hi]
            have e2 : P.cellsOf T = n := by simp [Program.cellsOf, hi, hin]
            rw [e2]
            simp only [hlv, ne_eq, not_true_eq_false, if_false]
            exact e1
          have hnew := setRow_heap w b vs.toArray (vs.take off ++ v.cells.toList ++ vs.drop (off + v.cells.toList.length)).toArray T' (0, 0) hh
          obtain ⟨c1, c2⟩ := hC.setBlock (w' := w.setRow b (vs.take off ++ v.cells.toList ++ vs.drop (off + v.cells.toList.length)).toArray) (x := .cells (setRange cs off (st.eval y).cells)) hcs hb (fun b' hb' => setRow_other w b b' _ hb') (by simp) rfl rfl rfl
            (fun e hni => by
              refine ⟨_, T', hnew, ?_, ?_, hni⟩
              · have hw : Ext (!o.isOut) γ w γ (w.setRow b (vs.take off ++ v.cells.toList ++ vs.drop (off + v.cells.toList.length)).toArray) := by
                  cases o with
                  | loc k => exact e
                  | out k => exact e.weak
                refine RepL.mono hw (RepL.setRange hr ?_ off)
                cases o with
                | loc k => exact hyr
                | out k => exact RepL.noLoc hyr (hp.2 rfl)
              · intro x hx
                rcases List.mem_append.1 hx with hx | hx
                · rcases List.mem_append.1 hx with hx | hx
                  · exact h1 x (List.mem_of_mem_take hx)
                  · exact hy1 x hx
                · exact h1 x (List.mem_of_mem_drop hx))
          exact ⟨_, hrun, c1, c2⟩
      · cases h
    · cases h
  · cases h

theorem flat_set {n : Nat} : ∀ {es : List AVal} (hs : ∀ e ∈ es, e.cells.length = n) {i : Nat} {x : AVal}, i < es.length → x.cells.length = n → flat (es.set i x) = setRange (flat es) (i * n) x.cells
  | [], _, i, x, h, _ => by simp at h
  | y :: es, hs, 0, x, _, hx => by
    have hy := hs y (by simp)
    simp only [List.set_cons_zero, flat, List.flatMap_cons, setRange, Nat.zero_mul, List.take_zero, List.nil_append, Nat.zero_add]
    rw [hx, ← hy, List.drop_left' rfl]
  | y :: es, hs, i + 1, x, h, hx => by
    have ih := flat_set (es := es) (fun e he => hs e (by simp [he])) (i := i) (x := x) (by simpa using h) hx
    have hy := hs y (by simp)
    simp only [List.set_cons_succ, flat, List.flatMap_cons] at ih ⊢
    rw [ih]
    simp only [setRange, Nat.succ_mul]
    have e1 : (y.cells ++ es.flatMap AVal.cells).take (i * n + n) = y.cells ++ (es.flatMap AVal.cells).take (i * n) := by
      rw [Nat.add_comm, ← hy, List.take_length_add_append]
    have e2 : (y.cells ++ es.flatMap AVal.cells).drop (i * n + n + x.cells.length) = (es.flatMap AVal.cells).drop (i * n + x.cells.length) := by
      rw [show i * n + n + x.cells.length = n + (i * n + x.cells.length) by omega, ← List.drop_drop, ← hy, List.drop_left' rfl]
    rw [e1, e2]
    simp

theorem setElems_sound {γ : Gh} {w : World} {ρA : Operand → AVal} {ρ : Operand → Value} (hρ : ∀ x, Rep γ w true (ρA x) (ρ x)) {n len : Nat} :
    ∀ {ps : List (Nat × Operand)} {es : List AVal} {vs : Array Value}, elemsOk n len (ps.map fun x => (x.1, ρA x.2)) = true → es.length = len → (∀ e ∈ es, e.cells.length = n) → RepL γ w true (flat es) vs.toList → (∀ v ∈ vs.toList, v.oneCell' = true) →
    ∃ us : Array Value, Instr.fill (fun i => some (i * n, n)) vs (ps.map fun x => (x.1, ρ x.2)) = some us ∧ RepL γ w true (flat (setElems es (ps.map fun x => (x.1, ρA x.2)))) us.toList ∧ (∀ v ∈ us.toList, v.oneCell' = true) ∧
      (∀ e ∈ setElems es (ps.map fun x => (x.1, ρA x.2)), e.cells.length = n) ∧ (setElems es (ps.map fun x => (x.1, ρA x.2))).length = len
  | [], es, vs, _, hl, hs, hr, h1 => ⟨vs, rfl, hr, h1, hs, hl⟩
  | x :: ps, es, vs, hok, hl, hs, hr, h1 => by
    simp only [List.map_cons, elemsOk, Bool.and_eq_true, beq_iff_eq, decide_eq_true_eq] at hok
    obtain ⟨⟨⟨ok1, ok2⟩, ok3⟩, ok4⟩ := hok
    obtain ⟨hx, hx1⟩ := sized_cells (hρ x.2) ok1
    have hlen := hr.length
    rw [flat_length hs] at hlen
    have hlx := hx.length
    simp only [Array.length_toList] at hlen hlx
    have hfit : x.1 * n + (ρ x.2).cells.size ≤ vs.size := by
      rw [← hlx, ok2, ← hlen, hl, ← Nat.succ_mul]
      exact Nat.mul_le_mul_right _ ok3
    have hrange := fill_range (x.1 * n) (ρ x.2).cells.toList 0 vs (by simpa using hfit)
    simp only [Nat.add_zero] at hrange
    have hfold : (ρ x.2).cells.zipIdx.foldl (fun cs (c, j) => cs.setIfInBounds (x.1 * n + j) c) vs = (((ρ x.2).cells.toList.zipIdx 0).foldl (fun cs (y : Value × Nat) => cs.setIfInBounds (x.1 * n + y.2) y.1) vs) := by
      rw [← Array.foldl_toList, Array.toList_zipIdx]
    have hset := flat_set hs (i := x.1) (x := ρA x.2) (by omega) ok2
    have hr2 := hr.setRange hx (x.1 * n)
    rw [← hset] at hr2
    have hs2 : ∀ e ∈ es.set x.1 (ρA x.2), e.cells.length = n := fun e he => by
      rcases List.mem_or_eq_of_mem_set he with he | rfl
      · exact hs e he
      · exact ok2
    obtain ⟨us, g1, g2, g3, g4, g5⟩ := setElems_sound hρ (ps := ps) (es := es.set x.1 (ρA x.2)) (vs := (ρ x.2).cells.zipIdx.foldl (fun cs (c, j) => cs.setIfInBounds (x.1 * n + j) c) vs) ok4 (by simpa using hl) hs2 (by rw [hfold, hrange]; exact hr2) (by
      rw [hfold, hrange]
      intro v hv
      rcases List.mem_append.1 hv with hv | hv
      · rcases List.mem_append.1 hv with hv | hv
        · exact h1 v (List.mem_of_mem_take hv)
        · exact hx1 v hv
      · exact h1 v (List.mem_of_mem_drop hv))
    refine ⟨us, ?_, g2, g3, g4, g5⟩
    simp only [List.map_cons, Instr.fill]
    rw [if_neg]
    · exact g1
    · simp only [Bool.or_eq_true, decide_eq_true_eq, ne_eq]
      omega

theorem replicate_flat {γ : Gh} {w : World} {l : Bool} {z : AVal} {v : Value} (hz : RepL γ w l z.cells v.cells.toList) : ∀ k : Nat, RepL γ w l (flat (List.replicate k z)) (List.replicate k v.cells.toList).flatten
  | 0 => .nil _
  | k + 1 => by
    simp only [List.replicate_succ, flat, List.flatMap_cons, List.flatten_cons]
    exact RepL.append (replicate_flat hz k) hz

/-- The zero cells of a new row. -/
theorem zeros_eq (zc : Array Value) (n k : Nat) (hz : zc.size = n) (hn : 0 < n) : ((Array.range (k * n)).map (zc[· % zc.size]!)).toList = (List.replicate k zc.toList).flatten := by
  subst hz
  induction k with
  | zero => simp
  | succ k ih =>
    have h1 : (Array.range ((k + 1) * zc.size)).toList = List.range (k * zc.size + zc.size) := by rw [Nat.succ_mul]; simp
    have h2 : ((Array.range (k * zc.size)).map (zc[· % zc.size]!)).toList = (List.range (k * zc.size)).map (zc[· % zc.size]!) := by simp
    rw [h2] at ih
    rw [Array.toList_map, h1, List.range_add, List.map_append, ih, List.replicate_succ', List.flatten_append]
    congr 1
    simp only [List.map_map, List.flatten_cons, List.flatten_nil, List.append_nil]
    apply List.ext_getElem
    · simp
    · intro i h3 h4
      simp only [List.length_map, List.length_range] at h3
      simp only [List.getElem_map, List.getElem_range, Function.comp_apply]
      have : (k * zc.size + i) % zc.size = i := by rw [Nat.mul_comm, Nat.mul_add_mod]; exact Nat.mod_eq_of_lt h3
      rw [this, getElem!_pos zc i h3]
      simp

theorem replicate_one {z : Value} (hz : ∀ x ∈ z.cells.toList, x.oneCell' = true) (k : Nat) : ∀ x ∈ (List.replicate k z.cells.toList).flatten, x.oneCell' = true := by
  intro x hx
  obtain ⟨l, hl, hxl⟩ := List.mem_flatten.1 hx
  rw [List.eq_of_mem_replicate hl] at hxl
  exact hz x hxl

theorem buildSliceA_sound {P : Program} {γ : Gh} {w : World} {a : Act} {st : St} (hC : Conc γ w a st) {cfg : Cfg} {T len : Nat} {ps : Array (Nat × Operand)} {dst : Option Nat} {p : Bool} {st' : St}
    (h : buildSliceA P cfg st T len (ps.toList.map fun x => (x.1, st.eval x.2)) dst = some (p, st')) (hp : p) :
    ∃ γ' w' u, (Instr.buildSlice T len (ps.map fun (i, x) => (i, a.eval x))).run P w = .ok u w' ∧ Conc γ' w' (a.put dst u) st' ∧ EvoS γ w st γ' w' st' := by
  unfold buildSliceA at h
  split at h
  · rename_i e n bs zs he
    obtain ⟨inf, zv, g1, g2, g3, g4, g5, g6⟩ := tElem_spec he
    split at h
    · rename_i z d hz
      obtain ⟨inf', zv', gi, gz, ga⟩ := zeroV_spec hz
      rw [g2] at gi; cases gi
      rw [g5] at gz; cases gz
      obtain ⟨_, r2, r3⟩ := absZ_spec ga γ w true
      split at h
      · rename_i hc
        obtain ⟨hzn, hok, hbig, hn⟩ := hc
        have hzs : zv.cells.size = n := by have := r2.length; simp at this; omega
        have hlist : (ps.map fun (i, x) => (i, a.eval x)).toList = ps.toList.map fun x => (x.1, a.eval x.2) := by simp
        generalize (ps.map fun (i, x) => (i, a.eval x)) = qs at hlist ⊢
        have hr0 : RepL γ w true (flat (List.replicate len z)) ((Array.range (len * n)).map (zv.cells[· % zv.cells.size]!)).toList := by
          rw [zeros_eq zv.cells n len hzs hn]
          exact replicate_flat r2 len
        have h10 : ∀ v ∈ ((Array.range (len * n)).map (zv.cells[· % zv.cells.size]!)).toList, v.oneCell' = true := by
          rw [zeros_eq zv.cells n len hzs hn]
          exact replicate_one r3 len
        obtain ⟨us, f1, f2, f3, f4, f5⟩ := setElems_sound (fun x => hC.eval x) (ps := ps.toList) (es := List.replicate len z) hok (by simp) (fun e he => by rw [List.eq_of_mem_replicate he]; exact hzn) hr0 h10
        have hrun : (Instr.buildSlice T len qs).run P w = .ok (.slice (some ⟨w.heap.size, 0, none⟩) len len) (w.alloc (.cells us.toList.toArray e)) := by
          have hb : ¬ 16777216 < len * n := by omega
          rw [← hlist] at f1
          by_cases hl0 : len * n = 0
          · have hl00 : len = 0 := by rcases Nat.mul_eq_zero.1 hl0 with h1 | h1 <;> omega
            subst hl00
            simp only [Nat.zero_mul] at f1
            have e0 : ∀ f : Nat → Value, (Array.range 0).map f = #[] := fun f => Array.ext' (by simp)
            rw [e0] at f1
            simp [Instr.buildSlice, run_underlying g1, sizeOf, typeInfo, g2, g3, e0, f1, newRow]
          · simp [Instr.buildSlice, run_underlying g1, sizeOf, typeInfo, g2, g3, hb, hl0, run_zeroValue g2 g5, f1, newRow]
        split at h
        · obtain ⟨γ', c1, c2⟩ := allocA_sound (P := P) hC h hp e f2 f3 (u := .slice (some ⟨w.heap.size, 0, none⟩) len len) (fun γ' i hi => .arr hi (.inl rfl) (Nat.le_refl _))
          exact ⟨γ', _, _, hrun, c1, c2⟩
        · simp only [Option.some.injEq, Prod.mk.injEq] at h
          obtain ⟨rfl, rfl⟩ := h
          first | replace hp := of_decide_eq_true hp | skip
          obtain ⟨hl, hd⟩ := hp
          have f2' := RepL.noLoc f2 hl
          obtain ⟨c1, c2, c3⟩ := hC.allocImm us.toList e (0, 0)
          refine ⟨_, _, _, hrun, c1.put cfg.keep hd ?_, c2.put (St.put_objAt _ _ _ _) (St.put_σ _ _ _ _)⟩
          have := Rep.sliceRow (γ := γ.addImm w.heap.size us.toList.length) (l := true) (tag := .full) (cap := len) (RepL.mono c3.weak f2') f4 (cellsAt_new us.toList e (0, 0)) f3 (by omega) (by simp [maxLen]; have : len ≤ len * n := Nat.le_mul_of_pos_right _ hn; omega) (by simp [AL.tagRow, f5])
          rw [f5] at this
          exact this
      · cases h
    · cases h
  · cases h

theorem flat_replicate_len {z : AVal} {n : Nat} (hz : z.cells.length = n) (k : Nat) : ∀ e ∈ List.replicate k z, e.cells.length = n := fun e he => by rw [List.eq_of_mem_replicate he]; exact hz

theorem makeSliceA_sound {P : Program} {γ : Gh} {w : World} {a : Act} {st : St} (hC : Conc γ w a st) {cfg : Cfg} {T : Nat} {lo co : Operand} {dst : Option Nat} {p : Bool} {st' : St}
    (h : makeSliceA P cfg st T lo co dst = some (p, st')) (hp : p) :
    ∃ γ' w' u, (Instr.makeSlice T (a.eval lo) (a.eval co)).run P w = .ok u w' ∧ Conc γ' w' (a.put dst u) st' ∧ EvoS γ w st γ' w' st' := by
  have hl := hC.eval lo
  have hcv := hC.eval co
  unfold makeSliceA at h
  split at h
  · rename_i e n bs zs he
    obtain ⟨inf, zv, g1, g2, g3, g4, g5, g6⟩ := tElem_spec he
    split at h
    · rename_i z d l c hz hle hce
      obtain ⟨inf', zv', gi, gz, ga⟩ := zeroV_spec hz
      rw [g2] at gi; cases gi
      rw [g5] at gz; cases gz
      obtain ⟨_, r2, r3⟩ := absZ_spec ga γ w true
      rw [hle] at hl; rw [hce] at hcv
      have hl := hl.int_inv
      have hcv := hcv.int_inv
      split at h
      · rename_i hc
        obtain ⟨hzn, hn⟩ := hc
        have hzs : zv.cells.size = n := by have := r2.length; simp at this; omega
        have run : 0 ≤ l → l ≤ c → (bs : Int) * c ≤ 281474976710656 → c ≤ 9223372036854775807 → (Instr.makeSlice T (.int .i64 l) (.int .i64 c)).run P w =
            .ok (.slice (some ⟨w.heap.size, 0, none⟩) l.toNat c.toNat) (w.alloc (.cells (List.replicate c.toNat zv.cells.toList).flatten.toArray e)) := by
          intro h0 h1 h2 h3
          have e1 : IntKind.i64.wrap l = l := IntWalk.i64_in l (by omega)
          have e2 : IntKind.i64.wrap c = c := IntWalk.i64_in c (by omega)
          have hz2 := zeros_eq zv.cells n c.toNat hzs hn
          have hz3 : (Array.range (c.toNat * n)).map (zv.cells[· % zv.cells.size]!) = (List.replicate c.toNat zv.cells.toList).flatten.toArray := by
            apply Array.ext'
            rw [hz2]
          by_cases hc0 : c.toNat * n = 0
          · have hc00 : c.toNat = 0 := by rcases Nat.mul_eq_zero.1 hc0 with h1 | h1 <;> omega
            have hc1 : c = 0 := by omega
            have hl1 : l = 0 := by omega
            subst hc1; subst hl1
            have e0 : ∀ f : Nat → Value, (Array.range 0).map f = #[] := fun f => Array.ext' (by simp)
            simp [Instr.makeSlice, run_underlying g1, asInt, asIntOf, typeInfo, g2, e1, sizeOf, newRow, e0]
          · have t1 : ¬ (c < 0 ∨ 281474976710656 < (inf.bytes : Int) * c) := by rw [g4]; omega
            have t2 : ¬ l < 0 := by omega
            have t3 : ¬ c < l := by omega
            have n1 : ¬ c < 0 := by omega
            have n2 : ¬ 281474976710656 < (inf.bytes : Int) * c := by rw [g4]; omega
            simp [Instr.makeSlice, run_underlying g1, asInt, asIntOf, typeInfo, g2, e1, e2, n1, n2, t2, t3, sizeOf, g3, hc0, run_zeroValue g2 g5, hz3, newRow]
        split at h
        · split at h
          · rename_i p' st'' hal
            simp only [Option.some.injEq, Prod.mk.injEq] at h
            obtain ⟨rfl, rfl⟩ := h
            first | replace hp := of_decide_eq_true hp | skip
            obtain ⟨q1, q2, q3, q4, q5⟩ := hp
            subst q2
            obtain ⟨γ', c1, c2⟩ := allocA_sound (P := P) hC hal q5 e (replicate_flat r2 l.toNat) (replicate_one r3 l.toNat) (u := .slice (some ⟨w.heap.size, 0, none⟩) l.toNat l.toNat) (fun γ' i hi => .arr hi (.inl rfl) (Nat.le_refl _))
            refine ⟨γ', _, _, ?_, c1, c2⟩
            rw [hl, hcv]
            exact run q1 (Int.le_refl _) q3 q4
          · cases h
        · simp only [Option.some.injEq, Prod.mk.injEq] at h
          obtain ⟨rfl, rfl⟩ := h
          first | replace hp := of_decide_eq_true hp | skip
          obtain ⟨q1, q2, q3, q4, q5, q6⟩ := hp
          have hzz := absZ_spec ga γ w true
          have r2' : RepL γ w false z.cells zv.cells.toList := (absZ_spec ga γ w false).2.1
          obtain ⟨c1, c2, c3⟩ := hC.allocImm (List.replicate c.toNat zv.cells.toList).flatten e (0, 0)
          refine ⟨_, _, _, by rw [hl, hcv]; exact run q1 q2 q3 q4, c1.put cfg.keep q6 ?_, c2.put (St.put_objAt _ _ _ _) (St.put_σ _ _ _ _)⟩
          have hall := cellsAt_new (γ := γ) (w := w) (List.replicate c.toNat zv.cells.toList).flatten e (0, 0)
          have hpre : (List.replicate l.toNat zv.cells.toList).flatten = ((List.replicate c.toNat zv.cells.toList).flatten).take (l.toNat * n) := by
            have : c.toNat = l.toNat + (c.toNat - l.toNat) := by omega
            rw [this, List.replicate_append_replicate.symm, List.flatten_append, List.take_left']
            simp [List.length_flatten, hzs]
          have hcap : c.toNat ≤ maxLen := by simp [maxLen]; omega
          have := Rep.sliceRow (γ := γ.addImm w.heap.size (List.replicate c.toNat zv.cells.toList).flatten.length) (l := true) (es := List.replicate l.toNat z) (tag := if sameOperand lo co then .full else .ro) (cap := c.toNat) (vs := (List.replicate l.toNat zv.cells.toList).flatten)
            (RepL.mono c3.weak (replicate_flat r2' l.toNat)) (flat_replicate_len hzn _) (by rw [hpre]; exact hall.take _) (replicate_one r3 _) (by simp; omega) hcap (by
              split
              · rename_i hs
                simp only [AL.tagRow, List.length_replicate]
                have : l = c := by
                  unfold sameOperand at hs
                  split at hs
                  · rename_i t1 t2
                    simp only [beq_iff_eq] at hs
                    subst hs
                    rw [hle] at hce
                    cases hce; rfl
                  · rename_i k1 a1 k2 b1
                    simp only [beq_iff_eq] at hs
                    subst hs
                    simp [St.eval, absV] at hle hce
                    omega
                  · cases hs
                omega
              · trivial)
          simpa using this
      · cases h
    · cases h
  · cases h

theorem bytesOfA_sound {P : Program} {γ : Gh} {w : World} {a : Act} {st : St} (hC : Conc γ w a st) {cfg : Cfg} {src dst : TypeId} {x : Operand} {d : Option Nat} {p : Bool} {st' : St}
    (h : bytesOfA P cfg st src dst (st.eval x) d = some (p, st')) (hp : p) :
    ∃ γ' w' u, (convert src dst (a.eval x)).run P w = .ok u w' ∧ Conc γ' w' (a.put d u) st' ∧ EvoS γ w st γ' w' st' := by
  have hx := hC.eval x
  unfold bytesOfA at h
  split at h
  · rename_i s d hs
    rw [hs] at hx
    generalize a.eval x = v at hx ⊢
    cases hx
    split at h
    · rename_i hb
      simp only [Bool.and_eq_true] at hb
      obtain ⟨e, h1, h2⟩ := isBytes_spec hb.2
      have h3 := isStr_spec hb.1
      simp only [Option.some.injEq, Prod.mk.injEq] at h
      obtain ⟨rfl, rfl⟩ := h
      first | replace hp := of_decide_eq_true hp | skip
      obtain ⟨hp0, hp⟩ := hp
      have hrun := run_bytes_of_string w src dst e ⟨s.toArray⟩ h3 h1 h2
      have hsz : (ByteArray.mk s.toArray).size = s.length := by simp [ByteArray.size]
      rw [hsz] at hrun
      generalize hcap : grownCap w s.length 0 e = cap at hrun
      have hge : s.length ≤ cap := by rw [← hcap]; exact grownCap_ge _ _ _ _
      have hm : cap ≤ maxLen := by rw [← hcap]; exact grownCap_le_maxLen w _ _ e (by simp [maxLen]; omega)
      have hrow : bytesRow ⟨s.toArray⟩ cap = (s.map (fun b : UInt8 => Value.int .u8 b.toNat) ++ List.replicate (cap - s.length) (Value.int .u8 0)).toArray := by
        apply Array.ext'
        simp [bytesRow, hsz]
      have hC1 : Conc γ w.drew a st := hC.ofHeap rfl
      have hE1 : EvoS γ w st γ w.drew st := EvoS.ofHeap rfl rfl rfl rfl
      rw [hrow] at hrun
      obtain ⟨c1, c2, c3⟩ := hC1.allocImm (s.map (fun b : UInt8 => Value.int .u8 b.toNat) ++ List.replicate (cap - s.length) (Value.int .u8 0)) e ((s.map (fun b : UInt8 => Value.int .u8 b.toNat) ++ List.replicate (cap - s.length) (Value.int .u8 0)).toArray.size, (s.map (fun b : UInt8 => Value.int .u8 b.toNat) ++ List.replicate (cap - s.length) (Value.int .u8 0)).toArray.size + 1)
      refine ⟨_, _, _, hrun, c1.put cfg.keep hp ?_, EvoS.put (st' := st) (hE1.trans c2) (St.put_objAt _ _ _ _) (St.put_σ _ _ _ _)⟩
      have hall := cellsAt_new (γ := γ) (w := w.drew) (s.map (fun b : UInt8 => Value.int .u8 b.toNat) ++ List.replicate (cap - s.length) (Value.int .u8 0)) e ((s.map (fun b : UInt8 => Value.int .u8 b.toNat) ++ List.replicate (cap - s.length) (Value.int .u8 0)).toArray.size, (s.map (fun b : UInt8 => Value.int .u8 b.toNat) ++ List.replicate (cap - s.length) (Value.int .u8 0)).toArray.size + 1)
      have hpre := hall.take s.length
      rw [List.take_left' (by simp)] at hpre
      have hrep : ∀ (γ : Gh) (w : World) (l : List UInt8), RepL γ w false (l.map ofByte) (l.map fun b : UInt8 => Value.int .u8 b.toNat) := by
        intro γ w l
        induction l with
        | nil => exact .nil _
        | cons b l ih => exact .cons (.int _ _ _) ih
      have hone : ∀ v ∈ (s.map fun b : UInt8 => Value.int .u8 b.toNat), v.oneCell' = true := by
        intro v hv
        obtain ⟨_, _, rfl⟩ := List.mem_map.1 hv
        rfl
      obtain ⟨f1, f2⟩ := flat_ones (hrep γ w s) hone
      have := Rep.sliceRow (l := true) (es := s.map ofByte) (s := 1) (tag := .ro) (cap := cap) (by rw [f1]; exact hrep _ _ s) f2 hpre hone (by simpa using hge) hm trivial
      simpa using this
    · cases h
  · cases h

theorem zeroA_sound {P : Program} {T : TypeId} {cs : List AVal} (h : zeroA P T = some cs) : ∃ inf z, P.info? T = some inf ∧ inf.zero = some z ∧ (∀ γ w, RepL γ w true cs z.cells.toList) ∧ ∀ x ∈ z.cells.toList, x.oneCell' = true := by
  unfold zeroA at h
  split at h
  · rename_i v hv
    cases h
    obtain ⟨inf, z, hi, hz, ha⟩ := zeroV_spec hv
    exact ⟨inf, z, hi, hz, fun γ w => (absZ_spec ha γ w true).2.1, (absZ_spec (γ := ⟨fun _ _ => False, fun _ => none, fun _ => .free⟩) (w := default) ha true).2.2⟩
  · cases h

theorem effOp_sound {P : Program} {γ : Gh} {w : World} {a : Act} {st : St} (hC : Conc γ w a st) {cfg : Cfg} {o : Oper} {p : Bool} {st' : St} (h : effOp P cfg o st = some (p, st')) (hp : p) : Does P γ w a o st st' := by
  unfold effOp at h
  split at h
  · rename_i T e
    split at h
    · rename_i cs d hz hd
      obtain ⟨inf, z, hi, hz', hr, h1⟩ := zeroA_sound hz
      obtain ⟨γ', c1, c2⟩ := allocA_sound (P := P) hC h hp T (hr γ w) h1 (u := .pointer (some ⟨w.heap.size, 0, none⟩)) (fun γ' i hi => .ptr hi (.inl rfl))
      refine ⟨γ', _, _, .inl ?_, by rw [hd]; exact c1, c2⟩
      simp [execOp, e, Instr.alloc, run_zeroValue hi hz', newVar, newRow]
    · cases h
  · rename_i T x e
    split at h
    · rename_i d hd
      split at h
      · rename_i hs
        obtain ⟨hr, h1⟩ := sized_cells (hC.eval x) hs
        obtain ⟨γ', c1, c2⟩ := allocA_sound (P := P) hC h hp T hr h1 (u := .pointer (some ⟨w.heap.size, 0, none⟩)) (fun γ' i hi => .ptr hi (.inl rfl))
        refine ⟨γ', _, _, .inl ?_, by rw [hd]; exact c1, c2⟩
        simp [execOp, e, Instr.box, newVar, newRow]
      · cases h
    · cases h
  · rename_i T x y e
    split at h
    · rename_i hd
      obtain ⟨w', h1, h2, h3⟩ := storeA_sound hC h hp
      refine ⟨γ, w', undef, .inr ⟨?_, rfl⟩, by rw [hd]; exact h2, h3⟩
      simp [execOp, e, h1]
    · cases h
  · rename_i T len ps e
    obtain ⟨γ', w', u, h1, h2, h3⟩ := buildSliceA_sound hC h hp
    refine ⟨γ', w', u, .inl ?_, h2, h3⟩
    simp only [execOp, e, Sem.run_bind, h1, Result.andThen_ok, Sem.run_pure]
  · rename_i T l c e
    obtain ⟨γ', w', u, h1, h2, h3⟩ := makeSliceA_sound hC h hp
    refine ⟨γ', w', u, .inl ?_, h2, h3⟩
    simp only [execOp, e, Sem.run_bind, h1, Result.andThen_ok, Sem.run_pure]
  · rename_i src dst x e
    obtain ⟨γ', w', u, h1, h2, h3⟩ := bytesOfA_sound hC h hp
    refine ⟨γ', w', u, .inl ?_, h2, h3⟩
    simp only [execOp, e, Sem.run_bind, h1, Result.andThen_ok, Sem.run_pure]
  · rename_i args ts e
    split at h
    · rename_i s x T T' ha ht
      split at h
      · rename_i q v σ' hA
        simp only [Option.some.injEq, Prod.mk.injEq] at h
        obtain ⟨rfl, rfl⟩ := h
        first | replace hp := of_decide_eq_true hp | skip
        obtain ⟨hq, hd⟩ := hp
        obtain ⟨γ', w', u, h1, h2, h3, h4⟩ := appendA_sound hC hA hq o.type
        refine ⟨γ', w', u, .inl ?_, h3.fin cfg hd h2, h4.put (fin_objAt _ _ _ _) (fin_σ _ _ _ _)⟩
        have e1 : args = #[s, x] := Array.ext' (by simpa using ha)
        have e2 : ts = #[T, T'] := Array.ext' (by simpa using ht)
        subst e1; subst e2
        simp [execOp, e, resolve, invoke, builtin, h1]
      · cases h
    · cases h
  · cases h

theorem stepOp_sound {P : Program} {γ : Gh} {w : World} {a : Act} {st : St} (hC : Conc γ w a st) {cfg : Cfg} {o : Oper} {p : Bool} {st' : St} (h : stepOp P cfg o st = some (p, st')) (hp : p) : Does P γ w a o st st' := by
  unfold stepOp at h
  split at h
  · rename_i q v hq
    simp only [Option.some.injEq, Prod.mk.injEq] at h
    obtain ⟨rfl, rfl⟩ := h
    first | replace hp := of_decide_eq_true hp | skip
    obtain ⟨hq', hd⟩ := hp
    obtain ⟨u, h1, h2⟩ := pureOp_sound (fun x => hC.eval x) hC.ok hq hq'
    exact ⟨γ, w, u, .inl h1, hC.fin cfg hd h2, EvoS.put (st' := st) (Evo.refl _ _ _ _) (fin_objAt _ _ _ _) (fin_σ _ _ _ _)⟩
  · exact effOp_sound hC h hp

end
end Go.AL
