/-
  The abstract layer, part 9: calls; the weakest precondition of code, over abstract states.
-/
import Derived.Test.YteohhklblbinbaaDoorA8
import Derived.Laws.Cover3
import Derived.Lib.SlBytesConst
import Derived.Laws.Externs
namespace Go.AL
noncomputable section
set_option linter.unusedSimpArgs false
set_option linter.unusedVariables false

def Sto.O (σ : Sto) : Oid → Option AObj
  | .loc _ => none
  | .out n => σ.obj n

/-- A function's contract: called with these values, over this store, it returns, and what it returns and leaves is so. -/
def ACall (P : Program) (f : FuncId) (args : List AVal) (σ : Sto) (Q : AVal → Sto → Prop) : Prop :=
  ∀ (γ : Gh) (w : World) (vs : List Value), Inv γ w σ.O σ.own σ.nobj σ.nown → RepL γ w false args vs → Calls P f vs.toArray w fun e w' =>
    ∃ v r γ' σ', e = .returned v ∧ Rep γ' w' false r v ∧ Inv γ' w' σ'.O σ'.own σ'.nobj σ'.nown ∧ Evo γ w σ.O σ.own γ' w' σ'.O σ'.own ∧ Q r σ'

theorem ACall.mono {P : Program} {f : FuncId} {args : List AVal} {σ : Sto} {Q Q' : AVal → Sto → Prop} (h : ACall P f args σ Q) (hq : ∀ r σ', Q r σ' → Q' r σ') : ACall P f args σ Q' :=
  fun γ w vs hi hr => (h γ w vs hi hr).mono fun _ _ ⟨v, r, γ', σ', h1, h2, h3, h4, h5⟩ => ⟨v, r, γ', σ', h1, h2, h3, h4, hq _ _ h5⟩

def isGo (P : Program) (f : FuncId) : Bool :=
  match P.funcs[f]? with
  | some fn => !(fn.name == "runtime.NumGoroutine") && fn.body.isSome
  | none => false

theorem Inv.sub {γ : Gh} {w : World} {O O' : Oid → Option AObj} {W : Nat → Option Nat} {no nw : Nat} (h : Inv γ w O W no nw) (hs : ∀ i x, O' i = some x → O i = some x) : Inv γ w O' W no nw :=
  ⟨h.imm, fun i x hx => h.obj i x (hs i x hx), fun i j x y b hx hy => h.inj i j x y b (hs i x hx) (hs j y hy), h.own, h.ownInj, fun i x p n b hx => h.apart i x p n b (hs i x hx), h.freshO, h.freshW, h.amb⟩

theorem Mut.sub {γ : Gh} {O O' : Oid → Option AObj} {W : Nat → Option Nat} (hs : ∀ i x, O' i = some x → O i = some x) {b : Nat} (h : Mut γ O' W b) : Mut γ O W b := by
  rcases h with ⟨i, x, hx, hb⟩ | h
  · exact .inl ⟨i, x, hs i x hx, hb⟩
  · exact .inr h

theorem Sto.O_sub (st : St) : ∀ i x, st.σ.O i = some x → st.objAt i = some x := by
  intro i x h
  cases i with
  | loc k => cases h
  | out n => exact h

/-- Behind a call the caller's own objects are as they were. -/
theorem Conc.afterCall {γ γ' : Gh} {w w' : World} {a : Act} {st : St} (hC : Conc γ w a st) {σ' : Sto} (hi : Inv γ' w' σ'.O σ'.own σ'.nobj σ'.nown) (he : Evo γ w st.σ.O st.σ.own γ' w' σ'.O σ'.own) :
    ∃ γ2, Conc γ2 w' a { st with σ := σ' } ∧ EvoS γ w st γ2 w' { st with σ := σ' } ∧ ∀ r v, Rep γ' w' false r v → Rep γ2 w' true r v := by
  have eO : ∀ i, St.objAt { st with σ := σ' } i = match i with | .loc k => st.objAt (.loc k) | .out n => σ'.obj n := fun i => by cases i <;> rfl
  -- the caller's own blocks are none of the callee's
  have hloc : ∀ k x b, st.objAt (.loc k) = some x → γ.obj (.loc k) = some b → b < w.heap.size ∧ ¬ Mut γ st.σ.O st.σ.own b ∧ ∀ o, ¬ γ.imm b o := fun k x b hx hb => by
    have hok := hC.inv.objb hx hb
    refine ⟨hok.lt, fun hm => ?_, hok.notImm⟩
    rcases hm with ⟨i, y, hy, hbi⟩ | ⟨p, n, hp, hbp⟩
    · have := hC.inv.inj (.loc k) i x y b hx (Sto.O_sub st i y hy) hb hbi
      subst this
      cases hy
    · exact hC.inv.apart (.loc k) x p n b hx hp hb hbp
  have hlocM : ∀ k x b, st.objAt (.loc k) = some x → γ.obj (.loc k) = some b → ¬ Mut γ' σ'.O σ'.own b := fun k x b hx hb hm => by
    obtain ⟨h1, h2, _⟩ := hloc k x b hx hb
    rcases he.mutd b hm with h3 | h3
    · exact h2 h3
    · omega
  let γ2 : Gh := { γ' with obj := fun i => match i with | .loc k => γ.obj (.loc k) | .out n => γ'.obj (.out n) }
  have e1 : Ext true γ w γ2 w' := ⟨he.ext.imm, fun i b _ hb => by
    cases i with
    | loc k => exact hb
    | out n => exact he.ext.obj (.out n) b (.inr rfl) hb, he.ext.own⟩
  have e2 : Ext false γ' w' γ2 w' := ⟨fun b o h => ⟨h, rfl⟩, fun i b hl hb => by
    cases i with
    | loc k => rcases hl with h | h <;> cases h
    | out n => exact hb, fun p => OwnStep.refl _⟩
  have hsub : ∀ i x, st.σ.O i = some x → st.objAt i = some x := Sto.O_sub st
  refine ⟨γ2, ⟨hC.size, fun t => Rep.mono e1 (hC.fr t), hC.defers, ⟨hi.imm, fun i x hx => ?_, fun i j x y b hx hy hbi hbj => ?_, fun p n hp => ?_, hi.ownInj, fun i x p n b hx hp hbi hbp => ?_, hi.freshO, hi.freshW, hi.amb⟩⟩,
    ⟨he.os, he.tape, he.output, he.size, fun b hb hm => he.old b hb (fun h => hm (Mut.sub hsub h)), e1.weak, fun b o h => (he.new b o h).imp_right (.imp_right (Mut.sub hsub)), fun b hm => ?_⟩, fun r v hr => Rep.weaken (Rep.mono e2 hr) true⟩
  · cases i with
    | loc k =>
      have hx : st.objAt (.loc k) = some x := hx
      rcases hC.inv.obj _ _ hx with ⟨j, s, h1, _⟩ | ⟨b, hb, hok⟩
      · cases h1
      obtain ⟨h1, h2, h3⟩ := hloc k x b hx hb
      refine .inr ⟨b, hb, hok.mono e1 (he.old b h1 h2) (fun o h => ?_)⟩
      rcases he.new b o h with h4 | h4 | h4
      · exact h3 o h4
      · omega
      · exact h2 h4
    | out n =>
      rcases hi.obj (.out n) x hx with ⟨j, s, h1, h2, h3, h4⟩ | ⟨b, hb, hok⟩
      · cases h1
        exact .inl ⟨_, s, rfl, h2, h3, h4⟩
      exact .inr ⟨b, hb, hok.mono e2 rfl hok.notImm⟩
  · cases i with
    | loc k =>
      cases j with
      | loc k2 => exact hC.inv.inj _ _ x y b hx hy hbi hbj
      | out n => exact absurd (.inl ⟨.out n, y, hy, hbj⟩) (hlocM k x b hx hbi)
    | out n =>
      cases j with
      | loc k2 => exact absurd (.inl ⟨.out n, x, hx, hbi⟩) (hlocM k2 y b hy hbj)
      | out n2 => exact hi.inj (.out n) (.out n2) x y b hx hy hbi hbj
  · exact (hi.own p n hp).mono (fun _ _ => rfl) (fun _ _ _ h => h)
  · cases i with
    | loc k => exact hlocM k x b hx hbi (.inr ⟨p, n, hp, hbp⟩)
    | out m => exact hi.apart (.out m) x p n b hx hp hbi hbp
  · rcases hm with ⟨i, x, hx, hb⟩ | ⟨p, n, hp, hb⟩
    · cases i with
      | loc k => exact .inl (.inl ⟨.loc k, x, hx, hb⟩)
      | out n =>
        rcases he.mutd b (.inl ⟨.out n, x, hx, hb⟩) with h | h
        · exact .inl (Mut.sub hsub h)
        · exact .inr h
    · rcases he.mutd b (.inr ⟨p, n, hp, hb⟩) with h | h
      · exact .inl (Mut.sub hsub h)
      · exact .inr h

/-- A call's operands: the function's number and all its arguments. -/
def calleeA (f : AVal) (args : List AVal) : Option (FuncId × List AVal) :=
  match f with
  | .func (.func g) first cap => some (g, first ++ args ++ cap)
  | _ => none

theorem execOp_call {P : Program} {γ : Gh} {w : World} {a : Act} {st : St} (hC : Conc γ w a st) {o : Oper} {f : Operand} {args : Array Operand} {ts : Array TypeId} (ho : o.op = .call ⟨.value f, args, ts⟩) {g : FuncId} {xs : List AVal}
    (hc : calleeA (st.eval f) (args.toList.map st.eval) = some (g, xs)) (hg : isGo P g = true) (hl : noLocL xs = true) :
    ∃ vs, (execOp a.eval o).run P w = .ok (.enter g vs.toArray) w ∧ RepL γ w false xs vs := by
  have hf := hC.eval f
  have ha := RepL.map (fun x => hC.eval x) args.toList
  unfold calleeA at hc
  split at hc
  · rename_i g' first cap hfe
    simp only [Option.some.injEq, Prod.mk.injEq] at hc
    obtain ⟨rfl, rfl⟩ := hc
    rw [hfe] at hf
    generalize hfv : a.eval f = fv at hf
    cases hf with
    | func h1 h2 =>
      rename_i fs cs
      refine ⟨fs ++ args.toList.map a.eval ++ cs, ?_, RepL.noLoc (RepL.append h2 (RepL.append ha h1)) hl⟩
      unfold isGo at hg
      split at hg
      · rename_i fn hfn
        simp only [Bool.and_eq_true, Bool.not_eq_true'] at hg
        have hb : ¬ fn.body = none := by
          intro e
          rw [e] at hg
          simp at hg
        have e1 : fs.toArray ++ (args.map a.eval ++ cs.toArray) = (fs ++ (args.toList.map a.eval ++ cs)).toArray := Array.ext' (by simp)
        have hn : ¬ fn.name = "runtime.NumGoroutine" := by simpa using hg.1
        simp [execOp, ho, resolve, hfv, Deferred.ofValue, invoke, callFunc, hfn, hn, hb, e1]
      · cases hg
  · cases hc

/-- What is done with a call's result. -/
def Does2 (P : Program) (o : Oper) (cfg : Cfg) (st : St) (K : St → Prop) : Prop :=
  ∀ (γ : Gh) (w : World) (a : Act), Conc γ w a st → ∀ Q : Exit → Act → World → Prop, o.wp P a w (fun a' w' => ∃ γ' st', Conc γ' w' a' st' ∧ EvoS γ w st γ' w' st' ∧ K st') Q

/-! ### Conditions -/

def gb (b : Bool) (X : Prop) : Prop := match b with | true => X | false => False
def fok (st : St) : Option Nat → Bool
  | some d => Nat.blt d st.n
  | none => true

theorem gb_iff {b : Bool} {X : Prop} : gb b X ↔ b = true ∧ X := by cases b <;> simp [gb]
theorem fok_fin {st : St} {dst : Option Nat} (h : fok st dst = true) (cfg : Cfg) (v : AVal) : (st.fin cfg dst v).1 := by
  cases dst with
  | none => rfl
  | some d => exact decide_eq_true (Nat.blt_eq.mp h)

/-- A call that turns nothing and whose answer is known. -/
def PCall (P : Program) (g : FuncId) (xs : List AVal) (v : AVal) : Prop := ∀ σ, ACall P g xs σ fun r τ => r = v ∧ τ = σ
/-- A call that turns permissions alone. -/
def WCall (P : Program) (g : FuncId) (xs : List AVal) (v : AVal) (own : Nat → Option Nat) (nown : Nat) (ow : Nat → Option Nat) (nw : Nat) : Prop :=
  ∀ σ : Sto, σ.own = own → σ.nown = nown → ACall P g xs σ fun r τ => r = v ∧ τ = { σ with own := ow, nown := nw }
/-- A call whose answer and whose store are known. -/
def FCall (P : Program) (g : FuncId) (xs : List AVal) (σ : Sto) (v : AVal) (σ' : Sto) : Prop := ACall P g xs σ fun r τ => r = v ∧ τ = σ'

def St.setσ (st : St) (σ : Sto) : St := { st with σ := σ }

/-- What is told of calls is so. -/
def ansOk (P : Program) (g : FuncId) (xs : List AVal) (σ : Sto) : Ans → Prop
  | .pure c v => c = true → PCall P g xs v
  | .own c v ow nw => c = true → WCall P g xs v σ.own σ.nown ow nw
  | .full c v σ' => c = true → FCall P g xs σ v σ'
  | .nm x f => ansOk P g xs σ (f x)
  | .br b x y => (b = true → ansOk P g xs σ x) ∧ (b = false → ansOk P g xs σ y)
/-- It is slices.overlaps. -/
def OvOk (P : Program) (g : FuncId) : Prop := ∃ fn T e inf, P.funcs[g]? = some fn ∧ (fn.name == "runtime.NumGoroutine") = false ∧ fn.body.isNone = true ∧ Extern.findNext fn = none ∧
  Extern.find fn = some (Extern.SlicesOverlaps.overlaps fn.params fn.resultTypes) ∧ fn.params[0]? = some T ∧ P.underlying T = some (.slice e) ∧ P.info? e = some inf
structure OrcOk (P : Program) (cfg : Cfg) : Prop where
  call : ∀ (g : FuncId) (xs : List AVal) (σ : Sto), match cfg.orc g xs σ with
    | some a => ansOk P g xs σ a
    | none => True
  ext : ∀ g, cfg.ext g = true → OvOk P g
theorem OrcOk.of_none {P : Program} {cfg : Cfg} (h : cfg.orc = fun _ _ _ => none) (hx : cfg.ext = fun _ => false := by rfl) : OrcOk P cfg := ⟨fun g xs σ => by rw [h]; trivial, fun g hg => by rw [hx] at hg; cases hg⟩

/-- Both ways of a condition. -/
def brV (b want : Bool) (A B : Prop) : Prop :=
  match b with
  | true => (match want with | true => A | false => B)
  | false => (match want with | true => B | false => A)

theorem brV_iff {b want : Bool} {A B : Prop} : brV b want A B ↔ (b = want → A) ∧ (b = (!want) → B) := by cases b <;> cases want <;> simp [brV]

/-- Behind a call whose answer is told. -/
def ansV (cfg : Cfg) (dst : Option Nat) (K : St → Prop) (st : St) : Ans → Prop
  | .pure c v => gb c (K (st.fin cfg dst v).2)
  | .own c v ow nw => gb c (K ((st.setσ { st.σ with own := ow, nown := nw }).fin cfg dst v).2)
  | .full c v σ' => gb c (K ((st.setσ σ').fin cfg dst v).2)
  | .nm x f => ∀ y, y = x → ansV cfg dst K st (f y)
  | .br b x y => brV b true (ansV cfg dst K st x) (ansV cfg dst K st y)
/-- A call. -/
def callV (P : Program) (cfg : Cfg) (dst : Option Nat) (f : AVal) (args : List AVal) (K : St → Prop) (st : St) : Prop :=
  match calleeA f args with
  | some (g, xs) => gb (fok st dst && (isGo P g && noLocL xs)) (
    match cfg.orc g xs st.σ with
    | some a => ansV cfg dst K st a
    | none => ACall P g xs st.σ fun r σ' => K ((st.setσ σ').fin cfg dst r).2)
  | none => False

theorem ansV_acall {P : Program} {cfg : Cfg} {dst : Option Nat} {K : St → Prop} {st : St} {g : FuncId} {xs : List AVal} (k2 : fok st dst = true) :
    ∀ (a : Ans), ansOk P g xs st.σ a → ansV cfg dst K st a → ACall P g xs st.σ fun r σ' => (({ st with σ := σ' } : St).fin cfg dst r).1 ∧ K (({ st with σ := σ' } : St).fin cfg dst r).2 := by
  have hf : ∀ (σ' : Sto), fok st dst = true → fok ({ st with σ := σ' } : St) dst = true := fun σ' h => h
  intro a
  induction a with
  | pure c v =>
    intro hok h
    obtain ⟨h1, h3⟩ := gb_iff.1 h
    refine ((hok h1) st.σ).mono ?_
    rintro r τ ⟨rfl, rfl⟩
    exact ⟨fok_fin (hf _ k2) cfg _, h3⟩
  | own c v ow nw =>
    intro hok h
    obtain ⟨h1, h3⟩ := gb_iff.1 h
    refine ((hok h1) st.σ rfl rfl).mono ?_
    rintro r τ ⟨rfl, rfl⟩
    exact ⟨fok_fin (hf _ k2) cfg _, h3⟩
  | full c v σ' =>
    intro hok h
    obtain ⟨h1, h3⟩ := gb_iff.1 h
    refine ACall.mono (hok h1) ?_
    rintro r τ ⟨rfl, rfl⟩
    exact ⟨fok_fin (hf _ k2) cfg _, h3⟩
  | nm x f ih =>
    intro hok h
    exact ih x hok (h x rfl)
  | br b x y ihx ihy =>
    intro hok h
    cases b with
    | true => exact ihx (hok.1 rfl) ((brV_iff.1 h).1 rfl)
    | false => exact ihy (hok.2 rfl) ((brV_iff.1 h).2 rfl)

theorem callV_acall {P : Program} {cfg : Cfg} (ho : OrcOk P cfg) {dst : Option Nat} {f : AVal} {args : List AVal} {K : St → Prop} {st : St} (h : callV P cfg dst f args K st) :
    ∃ g xs, calleeA f args = some (g, xs) ∧ isGo P g = true ∧ noLocL xs = true ∧ ACall P g xs st.σ fun r σ' => (({ st with σ := σ' } : St).fin cfg dst r).1 ∧ K (({ st with σ := σ' } : St).fin cfg dst r).2 := by
  have hf : ∀ (σ' : Sto), fok st dst = true → fok ({ st with σ := σ' } : St) dst = true := fun σ' h => h
  unfold callV at h
  split at h
  · rename_i g xs hc
    obtain ⟨hb, h⟩ := gb_iff.1 h
    simp only [Bool.and_eq_true] at hb
    obtain ⟨k2, hg, hl⟩ := hb
    refine ⟨g, xs, hc, hg, hl, ?_⟩
    have hok := ho.call g xs st.σ
    split at h
    · rename_i a e
      rw [e] at hok
      exact ansV_acall k2 a hok h
    · exact ACall.mono h fun r τ hk => ⟨fok_fin (hf _ k2) cfg _, hk⟩
  · exact h.elim

/-- What is yielded, under a name. -/
def nameV (cfg : Cfg) (dst : Option Nat) (v : AVal) (X : AVal → Prop) : Prop :=
  match dst with
  | some d =>
    match cfg.nmd.elem d with
    | true =>
      match v with
      | .int k n => ∀ m, m = n → X (.int k m)
      | .str s => ∀ m, m = s → X (.str m)
      | .bool b => ∀ m, m = b → X (.bool m)
      | v => X v
    | false => X v
  | none => X v
theorem nameV_elim {cfg : Cfg} {dst : Option Nat} {v : AVal} {X : AVal → Prop} (h : nameV cfg dst v X) : X v := by
  unfold nameV at h
  split at h
  · split at h
    · split at h
      · exact h _ rfl
      · exact h _ rfl
      · exact h _ rfl
      · exact h
    · exact h
  · exact h
def opP (P : Program) (cfg : Cfg) (o : Oper) (K : St → Prop) (st : St) : Prop :=
  match pureOp P st.eval st.objAt o.op with
  | some (p, v) => gb (fok st o.dst && p) (nameV cfg o.dst v fun v => K (st.fin cfg o.dst v).2)
  | none =>
    match effOp P cfg o st with
    | some (p, st') => gb p (K st')
    | none => False
/-- One operation, and what follows. -/
def opW (P : Program) (cfg : Cfg) (o : Oper) (K : St → Prop) (st : St) : Prop :=
  match o.op with
  | .call ⟨.value f, args, _⟩ => callV P cfg o.dst (st.eval f) (args.toList.map st.eval) K st
  | .makeFunc _ _ c =>
    match o.dst with
    | some d =>
      match cfg.frz.elem d with
      | true => gb (St.freezeL (locsOf st c.toList) st).1 (opP P cfg o K (St.freezeL (locsOf st c.toList) st).2)
      | false => opP P cfg o K st
    | none => opP P cfg o K st
  | _ => opP P cfg o K st
/-- A slice held against nil: is it asked for? what is known of it. -/
def nilCmp (P : Program) (op : BinOp) (T : TypeId) (x y : AVal) : Option (Bool × List AVal × Bool) :=
  match P.underlying T, x, y with
  | some (.slice _), .slice es _ t, .slice [] 0 .nil =>
    match op with
    | .eql => some (true, es, t.isNil)
    | .neq => some (false, es, t.isNil)
    | _ => none
  | _, _, _ => none

/-- What a value's being nil can be. -/
def nilV (cfg : Cfg) (d : Option Nat) (pos : Bool) (es : List AVal) (nl : Bool) (K : St → Prop) (st : St) : Prop :=
  gb (fok st d) (∀ b : Bool, (b = true → es.isEmpty = true) → (nl = true → b = true) → K (st.fin cfg d (.bool (b == pos))).2)

/-! ### Appends that make a new array -/

/-- An array in a new block: what was there, what is laid behind it, room for k elements more. -/
def growA (P : Program) (cfg : Cfg) (st : St) (T d len m : Nat) (cs : List AVal) (k : Nat) : Option (Bool × St) :=
  match tElem P T with
  | some (e, n, _, _) =>
    match zeroV P e with
    | some z =>
      match decide (z.cells.length = n ∧ 0 < n) with
      | true =>
        match allocA cfg st d (.cells (cs ++ List.replicate (k * n) .undef)) (fun o => .arr o 0 (len + m) (len + m + k)) with
        | some (p, st') => some (p, st')
        | none => none
      | false => none
    | none => none
  | none => none

def growV (P : Program) (cfg : Cfg) (st : St) (T d len m : Nat) (cs : List AVal) (K : St → Prop) : Prop :=
  match tElem P T with
  | some (_, _, bs, _) => gb (hold (decide ((len + m) * bs ≤ 140737488355328 ∧ len + m ≤ 9223372036854775807))) (∀ k : Nat, len + m + k ≤ 9223372036854775807 → match growA P cfg st T d len m cs k with
    | some (p, st') => gb p (K st')
    | none => False)
  | none => False

def isIntT (P : Program) (T : TypeId) : Bool :=
  match P.underlying T with
  | some (.int .i64) => true
  | _ => false

/-- An append to an array, or one at which an array is made; none: another one. -/
def appV (P : Program) (cfg : Cfg) (o : Oper) (d s : AVal) (T T' : TypeId) (K : St → Prop) (KI : Prop) (st : St) : Option Prop :=
  match o.dst, tElem P T with
  | some dd, some (e, n, _, _) =>
    match d with
    | .arr oid off len cap =>
      match st.objAt oid with
      | some (.cells cs) =>
        match isIntT P T', s with
        | true, .int .i64 m =>
          match zeroV P e with
          | some z => some (gb (hold (decide (1 ≤ m ∧ m ≤ 1000000000000 ∧ cap < len + m.toNat)) && decide (off + len * n ≤ cs.length)) (growV P cfg st T dd len m.toNat ((cs.drop off).take (len * n) ++ flat (List.replicate m.toNat z)) K))
          | none => none
        | _, _ =>
          match srcC P st.objAt n T' s with
          | some (q, m, xs) => some (gb (q && decide (off + len * n ≤ cs.length)) (brV (hold (decide (len + m ≤ cap))) true KI (growV P cfg st T dd len m ((cs.drop off).take (len * n) ++ xs) K)))
          | none => none
      | _ => none
    | .slice es _ t =>
      match cfg.wr.elem dd, t, es with
      | true, .full, [] =>
        match srcC P st.objAt n T' s with
        | some (q, m, xs) => some (gb (q && Nat.blt dd st.n) (brV (hold (decide (m = 0))) true (K (st.fin cfg o.dst (.slice [] n .full)).2) (growV P cfg st T dd 0 m xs K)))
        | none => none
      | _, _, _ => none
    | _ => none
  | _, _ => none

/-- slices.overlaps of a row that never changes, and of an array. -/
def extV (cfg : Cfg) (st : St) (f : AVal) (xs : List AVal) : Option Bool :=
  match calleeA f xs with
  | some (g, [.slice es s _, .arr o off len _]) =>
    match cfg.ext g, st.objAt o with
    | true, some (.cells cs) => some (decide (0 < s ∧ off + len ≤ cs.length))
    | _, _ => none
  | _ => none

/-- The rune at a place of a text; how many bytes it has. -/
def decR (s : List UInt8) (pos : Nat) : Int := (Utf8.decode ⟨s.toArray⟩ pos).1
def decW (s : List UInt8) (pos : Nat) : Nat := (Utf8.decode ⟨s.toArray⟩ pos).2
/-- A step of an iterator over a text. -/
def nextV (cfg : Cfg) (d : Option Nat) (o : Oid) (s : List UInt8) (pos : Nat) (K : St → Prop) (st : St) : Prop :=
  brV (hold (decide (pos < s.length))) true
    (gb (fok (st.setObj o (.siter s (pos + decW s pos))) d) (K ((st.setObj o (.siter s (pos + decW s pos))).fin cfg d (.tuple [.bool true, .int .i64 pos, .int .i32 (decR s pos)])).2))
    (gb (fok st d) (K (st.fin cfg d (.tuple [.bool false])).2))
def iterOf (lk : Oid → Option AObj) : AVal → Option (Oid × List UInt8 × Nat)
  | .ptr o 0 => match lk o with
    | some (.siter s pos) => some (o, s, pos)
    | _ => none
  | _ => none
/-- Is an array laid still ahead of this operation? -/
def frlOf (cfg : Cfg) : Option Nat → Option (Nat × Nat)
  | some d => lookup cfg.frl d
  | none => none
/-- One operation, and what follows. -/
def opV1 (P : Program) (cfg : Cfg) (o : Oper) (K : St → Prop) (st : St) : Prop :=
  match o.op with
  | .binOp op T x y _ =>
    match nilCmp P op T (st.eval x) (st.eval y) with
    | some (pos, es, nl) => nilV cfg o.dst pos es nl K st
    | none => opW P cfg o K st
  | .call ⟨.builtin .append, args, ts⟩ =>
    match args.toList, ts.toList with
    | [d, s], [T, T'] =>
      match appV P cfg o (st.eval d) (st.eval s) T T' K (opW P cfg o K st) st with
      | some X => X
      | none => opW P cfg o K st
    | _, _ => opW P cfg o K st
  | .call ⟨.value f, args, _⟩ =>
    match extV cfg st (st.eval f) (args.toList.map st.eval) with
    | some p => gb (fok st o.dst && p) (K (st.fin cfg o.dst (.bool false)).2)
    | none => opW P cfg o K st
  | .next it true =>
    match iterOf st.objAt (st.eval it) with
    | some (oid, s, pos) => nextV cfg o.dst oid s pos K st
    | none => opW P cfg o K st
  | _ => opW P cfg o K st
/-- .. with what is laid still ahead of it. -/
def opV (P : Program) (cfg : Cfg) (o : Oper) (K : St → Prop) (st : St) : Prop :=
  match frlOf cfg o.dst with
  | some (k, t) => gb (st.freezeS cfg.keep k t).1 (opV1 P cfg o K (st.freezeS cfg.keep k t).2)
  | none => opV1 P cfg o K st

theorem step_of {P : Program} {cfg : Cfg} {o : Oper} {K : St → Prop} {st : St} (h : opP P cfg o K st) : ∃ p st', stepOp P cfg o st = some (p, st') ∧ p = true ∧ K st' := by
  unfold opP at h
  unfold stepOp
  split at h
  · rename_i p v hp
    obtain ⟨h1, h2⟩ := gb_iff.1 h
    simp only [Bool.and_eq_true] at h1
    rw [hp]
    exact ⟨_, _, rfl, decide_eq_true ⟨h1.2, fok_fin h1.1 cfg v⟩, nameV_elim h2⟩
  · rename_i hp
    rw [hp]
    split at h
    · rename_i p st' he
      obtain ⟨h1, h2⟩ := gb_iff.1 h
      exact ⟨_, _, he, h1, h2⟩
    · exact h.elim

/-- It is skipped. -/
def skipV (cfg : Cfg) (o : Oper) (K : St → Prop) (st : St) : Prop := gb (fok st o.dst) (K (st.fin cfg o.dst (.tuple [])).2)

theorem skipV_iff {cfg : Cfg} {o : Oper} {K : St → Prop} {st : St} (h : skipV cfg o K st) : (st.fin cfg o.dst (.tuple [])).1 ∧ K (st.fin cfg o.dst (.tuple [])).2 :=
  ⟨fok_fin (gb_iff.1 h).1 cfg _, (gb_iff.1 h).2⟩

/-- A literal of bytes and, behind it, its conversion to its own type: '[]byte("..")' of a constant. -/
def litOf (P : Program) (cfg : Cfg) (o : Oper) (l : List Oper) : Option (TypeId × Nat × Array (Nat × Operand) × Nat × Nat) :=
  match o.op, o.dst, l with
  | .buildSlice T len ps, some d, o2 :: _ =>
    match o2.guard, o2.op, o2.dst with
    | none, .convert S D (.tmp d2), some d' => if d2 = d ∧ S = T ∧ D = T ∧ isBytes P T = true ∧ cfg.wr.elem d = false then some (T, len, ps, d, d') else none
    | _, _, _ => none
  | _, _, _ => none

def litA (P : Program) (cfg : Cfg) (st : St) (T len : Nat) (ps : List (Nat × AVal)) (d d' : Nat) : Option (Bool × St) :=
  match tElem P T with
  | some (e, n, _, _) =>
    match zeroV P e with
    | some z =>
      if z.cells.length = n ∧ elemsOk n len ps = true ∧ len * n ≤ 16777216 ∧ 0 < n then
        some (decide (noLocL (flat (setElems (List.replicate len z) ps)) = true ∧ d < st.n ∧ d' < st.n),
          (st.put cfg.keep d (.slice (setElems (List.replicate len z) ps) n .full)).put cfg.keep d' (.slice (setElems (List.replicate len z) ps) n .full))
      else none
    | none => none
  | none => none

theorem litOf_spec {P : Program} {cfg : Cfg} {o : Oper} {l : List Oper} {T len : Nat} {ps : Array (Nat × Operand)} {d d' : Nat} (h : litOf P cfg o l = some (T, len, ps, d, d')) :
    ∃ o2 r, l = o2 :: r ∧ o.op = .buildSlice T len ps ∧ o.dst = some d ∧ o2.guard = none ∧ o2.op = .convert T T (.tmp d) ∧ o2.dst = some d' ∧ isBytes P T = true := by
  unfold litOf at h
  split at h
  · rename_i T0 len0 ps0 d0 o2 r h1 h2
    split at h
    · rename_i S D d2 d'0 g1 g2 g3
      split at h
      · rename_i hc
        obtain ⟨rfl, rfl, rfl, hb, _⟩ := hc
        cases h
        exact ⟨o2, r, rfl, h1, h2, g1, g2, g3, hb⟩
      · cases h
    · cases h
  · cases h

theorem litA_sound {P : Program} {γ : Gh} {w : World} {a : Act} {st : St} (hC : Conc γ w a st) {cfg : Cfg} {T len : Nat} {ps : Array (Nat × Operand)} {d d' : Nat} {p : Bool} {st' : St}
    (h : litA P cfg st T len (ps.toList.map fun x => (x.1, st.eval x.2)) d d' = some (p, st')) (hp : p) (hbt : isBytes P T = true) :
    ∃ γ' w1 w2 u, (Instr.buildSlice T len (ps.map fun (i, x) => (i, a.eval x))).run P w = .ok u w1 ∧ (convert T T u).run P w1 = .ok u w2 ∧
      Conc γ' w2 ((a.put (some d) u).put (some d') u) st' ∧ EvoS γ w st γ' w2 st' ∧ d < a.tmps.size := by
  unfold litA at h
  split at h
  · rename_i e n bs zs he
    obtain ⟨inf, zv, g1, g2, g3, g4, g5, g6⟩ := tElem_spec he
    split at h
    · rename_i z hz
      obtain ⟨inf', zv', gi, gz, ga⟩ := zeroV_spec hz
      rw [g2] at gi; cases gi
      rw [g5] at gz; cases gz
      obtain ⟨_, r2, r3⟩ := absZ_spec ga γ w true
      split at h
      · rename_i hc
        obtain ⟨hzn, hok, hbig, hn⟩ := hc
        have hzs : zv.cells.size = n := by have := r2.length; simp at this; omega
        have hlist : (ps.map fun (i, x) => (i, a.eval x)).toList = ps.toList.map fun x => (x.1, a.eval x.2) := by simp
        generalize (ps.map fun (i, x) => (i, a.eval x)) = qs at hlist ⊢
        have hr0 : RepL γ w true (flat (List.replicate len z)) ((Array.range (len * n)).map (zv.cells[· % zv.cells.size]!)).toList := by
          rw [zeros_eq zv.cells n len hzs hn]
          exact replicate_flat r2 len
        have h10 : ∀ v ∈ ((Array.range (len * n)).map (zv.cells[· % zv.cells.size]!)).toList, v.oneCell' = true := by
          rw [zeros_eq zv.cells n len hzs hn]
          exact replicate_one r3 len
        obtain ⟨us, f1, f2, f3, f4, f5⟩ := setElems_sound (fun x => hC.eval x) (ps := ps.toList) (es := List.replicate len z) hok (by simp) (fun e he => by rw [List.eq_of_mem_replicate he]; exact hzn) hr0 h10
        have hrun : (Instr.buildSlice T len qs).run P w = .ok (.slice (some ⟨w.heap.size, 0, none⟩) len len) (w.alloc (.cells us.toList.toArray e)) := by
          have hb : ¬ 16777216 < len * n := by omega
          rw [← hlist] at f1
          by_cases hl0 : len * n = 0
          · have hl00 : len = 0 := by rcases Nat.mul_eq_zero.1 hl0 with h1 | h1 <;> omega
            subst hl00
            simp only [Nat.zero_mul] at f1
            have e0 : ∀ f : Nat → Value, (Array.range 0).map f = #[] := fun f => Array.ext' (by simp)
            rw [e0] at f1
            simp [Instr.buildSlice, run_underlying g1, sizeOf, typeInfo, g2, g3, e0, f1, newRow]
          · simp [Instr.buildSlice, run_underlying g1, sizeOf, typeInfo, g2, g3, hb, hl0, run_zeroValue g2 g5, f1, newRow]
        simp only [Option.some.injEq, Prod.mk.injEq] at h
        obtain ⟨rfl, rfl⟩ := h
        replace hp := of_decide_eq_true hp
        obtain ⟨hl, hd, hd'⟩ := hp
        obtain ⟨e', b1, b2⟩ := isBytes_spec hbt
        rw [g1] at b1
        cases b1
        have f2' := RepL.noLoc f2 hl
        have hconv := Go.Lib.run_convert_bytes_const w T e us.toList.toArray len len g1 b2
        obtain ⟨c1, c2, c3⟩ := hC.allocImm us.toList e (us.toList.toArray.size, us.toList.toArray.size + 1)
        have hrep := Rep.sliceRow (γ := γ.addImm w.heap.size us.toList.length) (l := true) (tag := .full) (cap := len) (RepL.mono c3.weak f2') f4 (cellsAt_new us.toList e (us.toList.toArray.size, us.toList.toArray.size + 1)) f3 (by omega) (by simp [maxLen]; have : len ≤ len * n := Nat.le_mul_of_pos_right len hn; omega) (by simp [tagRow, f5])
        rw [f5] at hrep
        refine ⟨_, _, _, _, hrun, hconv, (c1.put cfg.keep hd hrep).put cfg.keep (by simpa using hd') hrep, ?_, by rw [hC.size]; exact hd⟩
        exact (c2.put (St.put_objAt _ _ _ _) (St.put_σ _ _ _ _)).put (St.put_objAt _ _ _ _) (St.put_σ _ _ _ _)
      · cases h
    · cases h
  · cases h

/-- The operations of a region, one behind the other. -/
def opsV (P : Program) (cfg : Cfg) (ops : Array Oper) : List Oper → (St → Prop) → St → Prop
  | [], K, st => K st
  | o :: rest, K, st =>
    match o.guard with
    | none =>
      match litOf P cfg o rest with
      | none => opV P cfg o (opsV P cfg ops rest K) st
      | some (T, len, ps, d, d') =>
        match litA P cfg st T len (ps.toList.map fun x => (x.1, st.eval x.2)) d d' with
        | none => False
        | some (p, st') =>
          match rest with
          | [] => False
          | _ :: r => gb p (opsV P cfg ops r K st')
    | some (j, want) =>
      match (ops[j]?).bind (·.dst) with
      | none => skipV cfg o (opsV P cfg ops rest K) st
      | some g =>
        match st.get g with
        | .bool b => brV b want (opV P cfg o (opsV P cfg ops rest K) (st.put cfg.keep g (.bool want))) (skipV cfg o (opsV P cfg ops rest K) (st.put cfg.keep g (.bool (!want))))
        | .tuple _ => skipV cfg o (opsV P cfg ops rest K) st
        | _ => False

theorem Does.wp {P : Program} {γ : Gh} {w : World} {a : Act} {o : Oper} {st st' : St} (h : Does P γ w a o st st') {next : Act → World → Prop} {Q : Exit → Act → World → Prop}
    (hn : ∀ γ' w' a', Conc γ' w' a' st' → EvoS γ w st γ' w' st' → next a' w') : o.wp P a w next Q := by
  obtain ⟨γ', w', u, hr, hC, hE⟩ := h
  unfold Oper.wp
  rcases hr with hr | ⟨hr, rfl⟩
  · rw [hr]; exact hn _ _ _ hC hE
  · rw [hr]; exact hn _ _ _ hC hE

theorem opW_sound {P : Program} {cfg : Cfg} (ho' : OrcOk P cfg) {o : Oper} {K : St → Prop} {st : St} (h : opW P cfg o K st) {γ : Gh} {w : World} {a : Act} (hC : Conc γ w a st) {next : Act → World → Prop} {Q : Exit → Act → World → Prop}
    (hn : ∀ γ' w' a' st', Conc γ' w' a' st' → EvoS γ w st γ' w' st' → K st' → next a' w') : o.wp P a w next Q := by
  unfold opW at h
  split at h
  · rename_i f args ts ho
    obtain ⟨g, xs, hc, hg, hl, hA⟩ := callV_acall ho' h
    obtain ⟨vs, hrun, hr⟩ := execOp_call hC ho hc hg hl
    have hcall := hA γ w vs (hC.inv.sub (Sto.O_sub st)) hr
    unfold Oper.wp
    rw [hrun]
    refine hcall.mono fun e w' ⟨v, r, γ', σ', he, hrep, hi, hev, hd, hK⟩ => ?_
    subst he
    obtain ⟨γ2, c1, c2, c3⟩ := hC.afterCall hi hev
    exact hn _ _ _ _ (c1.fin cfg hd (c3 r v hrep)) (c2.put (fin_objAt _ _ _ _) (fin_σ _ _ _ _)) hK
  · have plain : opP P cfg o K st → o.wp P a w next Q := fun h => by
      obtain ⟨p, st', hs, h1, h2⟩ := step_of h
      exact (stepOp_sound hC hs h1).wp fun γ' w' a' c1 c2 => hn _ _ _ _ c1 c2 h2
    split at h
    · split at h
      · obtain ⟨h1, h2⟩ := gb_iff.1 h
        obtain ⟨γ1, c1, e1⟩ := hC.freezeL _ h1
        obtain ⟨p, st', hs, h3, h4⟩ := step_of h2
        exact (stepOp_sound c1 hs h3).wp fun γ' w' a' c2 e2 => hn _ _ _ _ c2 (e1.trans e2) h4
      · exact plain h
    · exact plain h
  · obtain ⟨p, st', hs, h1, h2⟩ := step_of h
    exact (stepOp_sound hC hs h1).wp fun γ' w' a' c1 c2 => hn _ _ _ _ c1 c2 h2

theorem run_eql_slice_nil' {P : Program} (w : World) (t e : TypeId) (a : Option Addr) (l c : Nat) (h : P.underlying t = some (.slice e)) : (binOp .eql t (.slice a l c) (.slice none 0 0)).run P w = .ok (.bool a.isNone) w := by
  have := run_equal_slice_nil w t e a l c h
  simp only [binOp]
  simp [this]

theorem RepL.undefs (γ : Gh) (w : World) (l : Bool) : ∀ (vs : List Value) (n : Nat), vs.length = n → RepL γ w l (List.replicate n .undef) vs
  | [], 0, _ => .nil _
  | v :: vs, n + 1, h => .cons (.undef _ _) (RepL.undefs γ w l vs n (by simpa using h))
  | [], n + 1, h => by cases h
  | _ :: _, 0, h => by cases h

theorem Op.appendRun {P : Program} {w : World} {a : Act} {o : Oper} {d s : Operand} {T T' : TypeId} (ho : o.op = .call ⟨.builtin .append, #[d, s], #[T, T']⟩) {v : Value} {w' : World}
    (hr : (Builtin.append_ #[T, T'] o.type #[a.eval d, a.eval s]).run P w = .ok v w') : (execOp a.eval o).run P w = .ok (.value v) w' := by
  simp [execOp, ho, resolve, invoke, builtin, hr]

theorem growA_sound {P : Program} {γ : Gh} {w : World} {a : Act} {st : St} (hC : Conc γ w a st) {cfg : Cfg} {o : Oper} {T e n bs dd len m : Nat} {zs : List Value} (he : tElem P T = some (e, n, bs, zs)) (hd : o.dst = some dd)
    {cs : List AVal} {news : List Value} (hr : RepL γ w true cs news) (h1 : ∀ v ∈ news, v.oneCell' = true) {inf : TypeInfo} {z : Value} (hi : P.info? e = some inf) (hz : inf.zero = some z)
    {gc : Nat} (hgc : len + m ≤ gc) (hrun : (execOp a.eval o).run P w = .ok (.value (.slice (some ⟨w.heap.size, 0, none⟩) (len + m) gc)) (w.drew.alloc (.cells (news.toArray ++ Builtin.zeroCells z.cells (gc - (len + m))) e)))
    {p : Bool} {st' : St} (h : growA P cfg st T dd len m cs (gc - (len + m)) = some (p, st')) (hp : p) : Does P γ w a o st st' := by
  unfold growA at h
  rw [he] at h
  simp only [] at h
  split at h
  · rename_i zv hzv
    split at h
    · rename_i hzn
      have hzn := of_decide_eq_true hzn
      split at h
      · rename_i q st1 hal
        simp only [Option.some.injEq, Prod.mk.injEq] at h
        obtain ⟨rfl, rfl⟩ := h
        obtain ⟨inf', z', k1, k2, k3⟩ := zeroV_spec hzv
        rw [hi] at k1
        cases k1
        rw [hz] at k2
        cases k2
        obtain ⟨r1, r2, r3⟩ := absZ_spec k3 γ w true
        have hzl := r2.length
        have hzs : z.cells.size = n := by rw [← hzn.1, hzl]; simp
        have hze : (Builtin.zeroCells z.cells (gc - (len + m))).toList = (List.replicate (gc - (len + m)) z.cells.toList).flatten := by
          have := zeros_eq z.cells n (gc - (len + m)) hzs hzn.2
          rw [← hzs] at this
          unfold Builtin.zeroCells
          rw [hzs] at this ⊢
          first | exact this | (rw [← hzs]; rw [← hzs] at this; exact this)
        have hW : news.toArray ++ Builtin.zeroCells z.cells (gc - (len + m)) = (news ++ (Builtin.zeroCells z.cells (gc - (len + m))).toList).toArray := Array.ext' (by simp)
        rw [hW] at hrun
        have hCd : Conc γ w.drew a st := hC.ofHeap rfl
        have hzlen : (Builtin.zeroCells z.cells (gc - (len + m))).toList.length = (gc - (len + m)) * n := by
          rw [Array.length_toList, size_zeroCells, hzs]
        obtain ⟨γ', c1, c2⟩ := allocA_sound (P := P) (cfg := cfg) hCd hal hp e (vs := news ++ (Builtin.zeroCells z.cells (gc - (len + m))).toList) (u := .slice (some ⟨w.heap.size, 0, none⟩) (len + m) gc)
          (RepL.append (RepL.undefs γ w.drew true _ _ hzlen) (RepL.mono (Ext.ofHeap (w := w) (w' := w.drew) rfl) hr)) (fun v hv => (List.mem_append.1 hv).elim (h1 v) (fun hv => by rw [hze] at hv; exact replicate_one r3 _ v hv))
          (fun γ' i hi => by
            have := Rep.arr (γ := γ') (w := w.drew.alloc (.cells (news ++ (Builtin.zeroCells z.cells (gc - (len + m))).toList).toArray e)) (l := true) (o := i) (off := 0) (off' := 0) (len := len + m) (cap := gc) hi (.inl rfl) hgc (fun _ => rfl)
            rwa [show len + m + (gc - (len + m)) = gc by omega])
        refine ⟨γ', _, _, .inl hrun, by rw [hd]; exact c1, ?_⟩
        exact Evo.trans (EvoS.ofHeap (w := w) (w' := w.drew) (st := st) rfl rfl rfl rfl) c2
      · cases h
    · cases h
  · cases h

theorem growV_does {P : Program} {γ : Gh} {w : World} {a : Act} {st : St} (hC : Conc γ w a st) {cfg : Cfg} {o : Oper} {T e n bs dd len m : Nat} {zs : List Value} (he : tElem P T = some (e, n, bs, zs)) (hd : o.dst = some dd) {K : St → Prop}
    {cs : List AVal} (h : growV P cfg st T dd len m cs K) {news : List Value} (hr : RepL γ w true cs news) (h1 : ∀ v ∈ news, v.oneCell' = true) {inf : TypeInfo} {z : Value} (hi : P.info? e = some inf) (hz : inf.zero = some z)
    {cap : Nat}
    (hrun : (len + m) * bs ≤ 140737488355328 → len + m ≤ 9223372036854775807 → (execOp a.eval o).run P w = .ok (.value (.slice (some ⟨w.heap.size, 0, none⟩) (len + m) (grownCap w (len + m) cap e))) (w.drew.alloc (.cells (news.toArray ++ Builtin.zeroCells z.cells (grownCap w (len + m) cap e - (len + m))) e))) :
    ∃ st', Does P γ w a o st st' ∧ K st' := by
  have hge := grownCap_ge w (len + m) cap e
  unfold growV at h
  rw [he] at h
  simp only [] at h
  obtain ⟨hs, h⟩ := gb_iff.1 h
  simp only [hold_eq, decide_eq_true_eq] at hs
  have hle := grownCap_le_maxLen w (len + m) cap e (by simp [maxLen]; omega)
  have hk := h (grownCap w (len + m) cap e - (len + m)) (by simp [maxLen] at hle; omega)
  split at hk
  · rename_i p st' hg
    obtain ⟨hp, hK⟩ := gb_iff.1 hk
    exact ⟨st', growA_sound hC he hd hr h1 hi hz hge (hrun hs.1 hs.2) hg hp, hK⟩
  · exact hk.elim

theorem run_append_zeros_grow {P : Program} {w : World} (t tx ty e : TypeId) (i : TypeInfo) (z : Value) (ht : P.underlying t = some (.slice e)) (htx : P.underlying tx = some (.int .i64)) (hi : P.info? e = some i) (hz : i.zero = some z) (base : Option Addr) (sLen sCap : Nat) (olds : List Value)
    (hold : (Builtin.firstCells i.size sLen (.slice base sLen sCap)).run P w.drew = .ok olds.toArray w.drew) (n : Nat) (hn0 : 0 < n) (hn1 : n ≤ 1000000000000) (hs0 : 0 < i.size)
    (hg : sCap < sLen + n) (h63 : ((sLen + n : Nat) : Int) ≤ 9223372036854775807) (hb : (sLen + n) * i.bytes ≤ 140737488355328) :
    (Builtin.append_ #[t, tx] ty #[.slice base sLen sCap, .int .i64 n]).run P w =
      .ok (.slice (some ⟨w.heap.size, 0, none⟩) (sLen + n) (grownCap w (sLen + n) sCap e))
        (w.drew.alloc (.cells ((olds ++ (Builtin.zeroCells z.cells n).toList).toArray ++ Builtin.zeroCells z.cells (grownCap w (sLen + n) sCap e - (sLen + n))) e)) := by
  have hn : ¬ (sLen + n ≤ sCap) := by omega
  have h63' : ¬ (9223372036854775807 < ((sLen : Int) + (n : Int))) := by omega
  have hfit := growslice_fits hg hb
  have h48' : ¬ (281474976710656 < Builtin.nextslicecap (sLen + n) sCap * i.bytes) := by omega
  have hw : IntKind.i64.wrap (n : Int) = n := by rw [IntKind.wrap_i64]; omega
  have h48i : ¬ (281474976710656 < (n : Int) * (i.bytes : Int)) := by
    rw [← Int.natCast_mul]
    have : n * i.bytes ≤ (sLen + n) * i.bytes := Nat.mul_le_mul_right _ (by omega)
    omega
  have hneg : ¬ ((n : Int) < 0) := by omega
  have hns : ¬ (n * i.size = 0) := Nat.mul_ne_zero (by omega) (by omega)
  simp [Builtin.append_, run_underlying ht, run_underlying htx, sizeOf, typeInfo, zeroValue, hi, hz, asInt, asIntOf, hw, hn, hneg, hns, h63', h48', h48i, Question.forced, hold, newRow, grownCap]
  congr 2
  apply Array.ext'
  simp [List.append_assoc]

theorem appV_sound {P : Program} {cfg : Cfg} (ho' : OrcOk P cfg) {o : Oper} {d s : Operand} {T T' : TypeId} {K : St → Prop} {st : St} {X : Prop} (ho : o.op = .call ⟨.builtin .append, #[d, s], #[T, T']⟩)
    (h : appV P cfg o (st.eval d) (st.eval s) T T' K (opW P cfg o K st) st = some X) (hX : X) {γ : Gh} {w : World} {a : Act} (hC : Conc γ w a st) {next : Act → World → Prop} {Q : Exit → Act → World → Prop}
    (hn : ∀ γ' w' a' st', Conc γ' w' a' st' → EvoS γ w st γ' w' st' → K st' → next a' w') : o.wp P a w next Q := by
  have done : ∀ st', Does P γ w a o st st' → K st' → o.wp P a w next Q := fun st' hd hK => hd.wp fun γ' w' a' c1 c2 => hn _ _ _ _ c1 c2 hK
  unfold appV at h
  split at h
  · rename_i dd e n bs zs hd he
    obtain ⟨inf, z, g1, g2, g3, g4, g5, g6⟩ := tElem_spec he
    split at h
    · rename_i oid off len cap hda
      have hD := hC.eval d
      rw [hda] at hD
      split at h
      · rename_i cs hcs
        generalize hu : a.eval d = u at hD
        cases hD with
        | @arr _ _ _ off' _ _ b hb hoo hnc h0 =>
          obtain ⟨vs, T0, hh, hr, hv1, hni⟩ := hC.inv.objb hcs hb
          have hru := RepL.up hr
          have hlv := hr.length
          have holds : off + len * n ≤ cs.length → (Builtin.firstCells n len (.slice (some ⟨b, off', none⟩) len cap)).run P w.drew = .ok ((vs.drop off).take (len * n)).toArray w.drew := fun hle =>
            run_firstCells_some w.drew n len _ _ _ _ (by simp; omega) (fun j v hj => by
              rw [List.getElem?_take] at hj
              split at hj
              · rename_i hlt
                rw [List.getElem?_drop] at hj
                obtain rfl := h0 (by
                  rcases Nat.eq_zero_or_pos len with h2 | h2
                  · subst h2; simp at hlt
                  · omega)
                rw [addr_add]
                have : w.drew.cell? ⟨b, off' + j, none⟩ = w.cell? ⟨b, off' + j, none⟩ := rfl
                rw [this]
                simp only [World.cell?, hh]
                simpa using hj
              · cases hj)
          have hold1 : ∀ v ∈ (vs.drop off).take (len * n), v.oneCell' = true := fun v hv => hv1 v (List.mem_of_mem_drop (List.mem_of_mem_take hv))
          split at h
          · -- zeros
            rename_i m hint hsm
            split at h
            · rename_i zv hzv
              simp only [Option.some.injEq] at h
              subst h
              obtain ⟨q, hg⟩ := gb_iff.1 hX
              simp only [Bool.and_eq_true, hold_eq, decide_eq_true_eq] at q
              obtain ⟨⟨q1, q2, q3⟩, q4⟩ := q
              have hti : P.underlying T' = some (.int .i64) := by
                unfold isIntT at hint
                split at hint
                · assumption
                · cases hint
              have hS := hC.eval s
              rw [hsm] at hS
              have hS := hS.int_inv
              obtain ⟨inf', z', k1, k2, k3⟩ := zeroV_spec hzv
              rw [g2] at k1
              cases k1
              rw [g5] at k2
              cases k2
              obtain ⟨r1, r2, r3⟩ := absZ_spec k3 γ w true
              have hzn : zv.cells.length = n ∧ 0 < n := by
                unfold growV at hg
                rw [he] at hg
                simp only [] at hg
                have hg2 := (gb_iff.1 hg).2 0
                by_cases hsmall : len + m.toNat + 0 ≤ 9223372036854775807
                · have hg2 := hg2 hsmall
                  unfold growA at hg2
                  rw [he] at hg2
                  simp only [hzv] at hg2
                  split at hg2
                  · rename_i hq
                    split at hq
                    · rename_i hdz; exact of_decide_eq_true hdz
                    · cases hq
                  · exact hg2.elim
                · have := (gb_iff.1 hg).1
                  simp only [hold_eq, decide_eq_true_eq] at this
                  omega
              have hzs : z.cells.size = n := by
                have := r2.length
                rw [← hzn.1, this]; simp
              have hzl := zeros_eq z.cells n m.toNat hzs hzn.2
              have hzl2 : (Builtin.zeroCells z.cells m.toNat).toList = (List.replicate m.toNat z.cells.toList).flatten := by
                rw [← hzs] at hzl
                unfold Builtin.zeroCells
                rw [hzs] at hzl ⊢
                first | exact hzl | (rw [← hzs]; rw [← hzs] at hzl; exact hzl)
              obtain ⟨st', d1, d2⟩ := growV_does (a := a) (o := o) (cap := cap) hC he hd hg (news := (vs.drop off).take (len * n) ++ (Builtin.zeroCells z.cells m.toNat).toList)
                (RepL.append (by rw [hzl2]; exact replicate_flat r2 m.toNat) ((hru.drop off).take (len * n)))
                (fun v hv => (List.mem_append.1 hv).elim (hold1 v) (fun hv => by rw [hzl2] at hv; exact replicate_one r3 _ v hv)) g2 g5 (fun hb1 hb2 => by
                  refine Op.appendRun ho ?_
                  rw [hu, hS]
                  have := run_append_zeros_grow (P := P) (w := w) T T' o.type e inf z g1 hti g2 g5 (some ⟨b, off', none⟩) len cap _ (by rw [g3]; exact holds q4) m.toNat (by omega) (by omega) (by rw [g3]; exact hzn.2) (by omega) (by omega) (by rw [g4]; exact hb1)
                  rwa [show ((m.toNat : Nat) : Int) = m by omega] at this)
              exact done st' d1 d2
            · cases h
          · split at h
            · rename_i q m xs hsrc
              simp only [Option.some.injEq] at h
              subst h
              obtain ⟨q0, hg⟩ := gb_iff.1 hX
              simp only [Bool.and_eq_true, decide_eq_true_eq] at q0
              obtain ⟨q1, q2⟩ := q0
              obtain ⟨news, s1, s2, s3, s4, s5⟩ := srcC_sound hC.ok (hC.eval s) hsrc q1
              by_cases hroom : len + m ≤ cap
              · exact opW_sound ho' ((brV_iff.1 hg).1 (by simp [hroom])) hC hn
              · have hg := (brV_iff.1 hg).2 (by simp [hroom])
                obtain ⟨st', d1, d2⟩ := growV_does (a := a) (o := o) (cap := cap) hC he hd hg (news := (vs.drop off).take (len * n) ++ news) (RepL.append s3 ((hru.drop off).take (len * n))) (fun v hv => (List.mem_append.1 hv).elim (hold1 v) (s4 v)) g2 g5 (fun hb1 hb2 => by
                  refine Op.appendRun ho ?_
                  rw [hu]
                  exact run_append_grow_src w T T' o.type e inf z g1 g2 g5 (some ⟨b, off', none⟩) len cap _ (by rw [g3]; exact holds q2) _ m news (by rw [g3]; exact s1) (by omega) (by omega) (growslice_fits (by omega) (by rw [g4]; exact hb1)))
                exact done st' d1 d2
            · cases h
      · cases h
    · rename_i es0 s0 t hda
      split at h
      · rename_i hwr
        split at h
        · rename_i q m xs hsrc
          simp only [Option.some.injEq] at h
          subst h
          obtain ⟨q0, hg⟩ := gb_iff.1 hX
          simp only [Bool.and_eq_true] at q0
          obtain ⟨q1, q2⟩ := q0
          obtain ⟨news, s1, s2, s3, s4, s5⟩ := srcC_sound hC.ok (hC.eval s) hsrc q1
          have hD := hC.eval d
          rw [hda] at hD
          obtain ⟨base, hu⟩ : ∃ base, a.eval d = .slice base 0 0 := by
            generalize a.eval d = u at hD
            generalize hel : ([] : List AVal) = el at hD
            cases hD with
            | sliceRow hr hs hc h1 hnc hm ht =>
              subst hel
              simp only [AL.tagRow, List.length_nil] at ht
              subst ht
              exact ⟨_, rfl⟩
            | sliceNil ht hoo => exact ⟨_, rfl⟩
          by_cases hm0 : m = 0
          · have hK := (brV_iff.1 hg).1 (by simp [hm0])
            subst hm0
            have hnl := s3.length
            rw [s5] at hnl
            have hnews : news = [] := List.eq_nil_of_length_eq_zero (by simpa using hnl.symm)
            subst hnews
            have hrun := run_append_same (P := P) (w := w) (T := T) (T' := T') g1 g2 base 0 0 (Nat.le_refl _) s1 g3 o.type
            refine done _ ⟨γ, w, .slice base 0 0, .inl (Op.appendRun ho (by rw [hu]; exact hrun)), hC.fin cfg (fok_fin (by rw [hd]; exact q2) cfg _) (Rep.sliceNil (tag := .full) trivial (.inr rfl)), EvoS.put (st' := st) (Evo.refl _ _ _ _) (fin_objAt _ _ _ _) (fin_σ _ _ _ _)⟩ hK
          · have hg := (brV_iff.1 hg).2 (by simp [hm0])
            obtain ⟨st', d1, d2⟩ := growV_does (a := a) (o := o) (cap := 0) hC he hd hg (news := news) s3 s4 g2 g5 (fun hb1 hb2 => by
              refine Op.appendRun ho ?_
              rw [hu]
              have := run_append_grow_src w T T' o.type e inf z g1 g2 g5 base 0 0 [] (run_firstCells_zero w.drew inf.size 0 0 base) _ m news (by rw [g3]; exact s1) (by omega) (by omega) (growslice_fits (by omega) (by rw [g4]; exact hb1))
              simpa using this)
            exact done st' d1 d2
        · cases h
      · cases h
    · cases h
  · cases h

theorem run_overlaps_none {P : Program} {w : World} {T e : TypeId} {inf : TypeInfo} (ht : P.underlying T = some (.slice e)) (hi : P.info? e = some inf) {ps rs : Array TypeId} (hp : ps[0]? = some T) (a b : Option Addr) (ca lb cb : Nat) :
    (Extern.SlicesOverlaps.overlaps ps rs #[.slice a 0 ca, .slice b lb cb]).run P w = .ok (.bool false) w := by
  conv => lhs; arg 2; whnf
  cases a <;> cases b <;> simp [hp, run_underlying ht, sizeOf, typeInfo, hi]

/-- The model's entry for slices.overlaps, where the first slice's cells never change and the second's block is an array's. -/
theorem run_overlaps_false {P : Program} {w : World} {T e tR : TypeId} {inf : TypeInfo} (ht : P.underlying T = some (.slice e)) (hi : P.info? e = some inf) {ps rs : Array TypeId} (hp : ps[0]? = some T)
    {a b : Addr} {la ca lb cb : Nat} (hne : a.block ≠ b.block) {csA csB : Array Value} {tA tB : TypeId} {fA : Nat × Nat} (hA : w.heap[a.block]? = some (.cells csA tA fA)) (hB : w.heap[b.block]? = some (.cells csB tB (0, 0))) (h0 : lb ≠ 0 → csB.size ≠ 0) (hA0 : csA.size ≠ 0) :
    (Extern.SlicesOverlaps.overlaps ps rs #[.slice (some a) la ca, .slice (some b) lb cb]).run P w = .ok (.bool false) w := by
  have hnb : (a.block != b.block) = true := by simpa using hne
  have hnb' : (a.block == b.block) = false := by simpa using hne
  have hsa : w.shape? a.block = some (tA, csA.size) := by simp [World.shape?, hA]
  have hsb : w.shape? b.block = some (tB, csB.size) := by simp [World.shape?, hB]
  have hfb : ∀ n, w.frozen? ⟨b.block, n, none⟩ = false := fun n => by simp [World.frozen?, hB]
  have hfb' : w.frozen? b = false := by simp [World.frozen?, hB]
  conv => lhs; arg 2; whnf
  by_cases h1 : la = 0 ∨ lb = 0 ∨ inf.size = 0
  · simp [hp, run_underlying ht, sizeOf, typeInfo, hi, h1]
  · have hkB := h0 (by omega)
    cases hk : csB.size with
    | zero => exact absurd hk hkB
    | succ kB =>
    cases hka : csA.size with
    | zero => exact absurd hka hA0
    | succ kA =>
      rw [hk] at hsb
      rw [hka] at hsa
      cases hfa : w.frozen? a <;> cases hfe : w.frozen? ⟨a.block, kA + 1, none⟩ <;>
        simp [hp, run_underlying ht, sizeOf, typeInfo, hi, h1, hnb, hnb', frozen, noView, viewAt, mayBeOne, stringish, shape, Sem.run, hsa, hsb, hfa, hfe, hfb, hfb']

theorem extV_sound {P : Program} {cfg : Cfg} (ho' : OrcOk P cfg) {o : Oper} {f : Operand} {args : Array Operand} {ts : Array TypeId} (ho : o.op = .call ⟨.value f, args, ts⟩) {st : St} {p : Bool} (h : extV cfg st (st.eval f) (args.toList.map st.eval) = some p) (hp : p)
    {γ : Gh} {w : World} {a : Act} (hC : Conc γ w a st) : (execOp a.eval o).run P w = .ok (.value (.bool false)) w := by
  unfold extV at h
  split at h
  · rename_i g es s t oid off len cap hc
    split at h
    · rename_i cs hx hcs
      simp only [Option.some.injEq] at h
      subst h
      have hp := of_decide_eq_true hp
      obtain ⟨fn, T, e, inf, f1, f2, f3, f4, f5, f6, f7, f8⟩ := ho'.ext g hx
      have hf := hC.eval f
      have ha := RepL.map (fun x => hC.eval x) args.toList
      unfold calleeA at hc
      split at hc
      · rename_i g' first cp hfe
        simp only [Option.some.injEq, Prod.mk.injEq] at hc
        obtain ⟨rfl, hxs⟩ := hc
        rw [hfe] at hf
        generalize hfv : a.eval f = fv at hf
        cases hf with
        | func h1 h2 =>
          rename_i fs cs2
          have hr := RepL.append h2 (RepL.append ha h1)
          rw [hxs] at hr
          have e1 : fs.toArray ++ (args.map a.eval ++ cs2.toArray) = (fs ++ args.toList.map a.eval ++ cs2).toArray := Array.ext' (by simp)
          generalize hvs : fs ++ args.toList.map a.eval ++ cs2 = vs at hr e1
          cases hr with
          | cons r1 r2 =>
            cases r2 with
            | cons r3 r4 =>
              cases r4
              rename_i v1 v2
              have hrun : (Extern.SlicesOverlaps.overlaps fn.params fn.resultTypes #[v1, v2]).run P w = .ok (.bool false) w := by
                cases r3 with
                | @arr _ _ _ off' _ _ b hb hoo hnc h0 =>
                  obtain ⟨vs0, T0, hh, hr0, hv1, hni⟩ := hC.inv.objb hcs hb
                  cases r1 with
                  | @sliceRow _ _ _ _ ba offa ca vs1 hr1 hs1 hc1 h11 hnc1 hm1 ht1 =>
                    cases es with
                    | nil => exact run_overlaps_none f7 f8 f6 _ _ _ _ _
                    | cons e0 es =>
                      have hl1 := hr1.length
                      rw [flat_length hs1] at hl1
                      obtain ⟨v0, hv0⟩ : ∃ v0, vs1[0]? = some v0 := by
                        have : 0 < vs1.length := by rw [← hl1]; exact Nat.mul_pos (by simp) hp.1
                        exact ⟨vs1[0], by simp [this]⟩
                      obtain ⟨hi1, hcell⟩ := hc1 0 v0 hv0
                      have hne : ba ≠ b := by rintro rfl; exact hni _ hi1
                      obtain ⟨csA, tA, fA, hA, hA0⟩ : ∃ csA tA fA, w.heap[ba]? = some (.cells csA tA fA) ∧ csA.size ≠ 0 := by
                        cases hh2 : w.heap[ba]? with
                        | none => simp [World.cell?, hh2] at hcell
                        | some x =>
                          cases x with
                          | cells c1 c2 c3 =>
                            refine ⟨c1, c2, c3, rfl, fun h => ?_⟩
                            have : c1 = #[] := Array.eq_empty_of_size_eq_zero h
                            subst this
                            simp [World.cell?, hh2] at hcell
                          | _ => simp [World.cell?, hh2] at hcell
                      exact run_overlaps_false (tR := 0) f7 f8 f6 (a := ⟨ba, offa, none⟩) (b := ⟨b, off', none⟩) hne hA hh (fun h => by
                        have := hr0.length
                        simp only [List.size_toArray]
                        omega) hA0
                  | sliceNil => exact run_overlaps_none f7 f8 f6 _ _ _ _ _
              simp only [execOp, ho, resolve, hfv, Deferred.ofValue, invoke, Sem.run_bind, Sem.run_pure, Result.andThen_ok]
              have hcf := run_callFunc_extern f1 f2 f3 f4 f5 #[v1, v2] w
              simp [e1, hcf, hrun]
      · cases hc
    · cases h
  · cases h

theorem run_next_at {P : Program} (w : World) (k : Nat) (s : List UInt8) (pos : Nat) (ty : TypeId) (hk : w.heap[k]? = some (.stringIter ⟨s.toArray⟩ pos)) :
    (Instr.next (.pointer (some ⟨k, 0, none⟩)) true ty).run P w = if pos < s.length then
      .ok (.tuple #[.bool true, .int .i64 pos, .int .i32 (decR s pos)]) { w with heap := w.heap.setIfInBounds k (.stringIter ⟨s.toArray⟩ (pos + decW s pos)) } else .ok (.tuple #[.bool false]) w := by
  have hlt : k < w.heap.size := (Array.getElem?_eq_some_iff.1 hk).1
  have hsz : (ByteArray.mk s.toArray).size = s.length := by simp [ByteArray.size]
  by_cases h : pos < s.length
  · rw [if_pos h]
    simp only [Instr.next, getObj, setObj, Sem.run_bind, Sem.run, hk, Result.andThen, hsz, h, if_true]
    simp [goInt, decR, decW]
  · rw [if_neg h]
    simp [Instr.next, getObj, Sem.run, hk, h, hsz]
theorem nextV_sound {P : Program} {cfg : Cfg} {o : Oper} {it : Operand} (ho : o.op = .next it true) {oid : Oid} {s : List UInt8} {pos : Nat} {K : St → Prop} {st : St} (hi : iterOf st.objAt (st.eval it) = some (oid, s, pos)) (h : nextV cfg o.dst oid s pos K st)
    {γ : Gh} {w : World} {a : Act} (hC : Conc γ w a st) {next : Act → World → Prop} {Q : Exit → Act → World → Prop}
    (hn : ∀ γ' w' a' st', Conc γ' w' a' st' → EvoS γ w st γ' w' st' → K st' → next a' w') : o.wp P a w next Q := by
  unfold iterOf at hi
  split at hi
  · rename_i o2 hx
    split at hi
    · rename_i s2 p2 hob
      simp only [Option.some.injEq, Prod.mk.injEq] at hi
      obtain ⟨rfl, rfl, rfl⟩ := hi
      have hr := hC.eval it
      rw [hx] at hr
      obtain ⟨b, hv, hb⟩ : ∃ b, a.eval it = .pointer (some ⟨b, 0, none⟩) ∧ γ.obj o2 = some b := by
        generalize a.eval it = u at hr
        cases hr with
        | ptr hb ho => exact ⟨_, rfl, hb⟩
      obtain ⟨hk, hni⟩ := hC.inv.objb hob hb
      have hlt : b < w.heap.size := (Array.getElem?_eq_some_iff.1 hk).1
      have hrun := run_next_at (P := P) w b s2 p2 o.type hk
      unfold nextV brV at h
      rw [hold_eq] at h
      unfold Oper.wp
      by_cases hp : p2 < s2.length
      · rw [if_pos hp] at hrun
        simp only [hp, decide_true] at h
        obtain ⟨h1, h2⟩ := gb_iff.1 h
        obtain ⟨c1, c2⟩ := hC.setBlock (w' := { w with heap := w.heap.setIfInBounds b (.stringIter ⟨s2.toArray⟩ (p2 + decW s2 p2)) }) hob hb (fun b' hb' => by
          simp only []
          rw [Array.getElem?_setIfInBounds_ne (Ne.symm hb')]) (by simp) rfl rfl rfl (x := .siter s2 (p2 + decW s2 p2)) (fun e hn => ⟨by simp [hlt], hn⟩)
        have e1 : (execOp a.eval o).run P w = .ok (.value (.tuple #[.bool true, .int .i64 p2, .int .i32 (decR s2 p2)])) { w with heap := w.heap.setIfInBounds b (.stringIter ⟨s2.toArray⟩ (p2 + decW s2 p2)) } := by
          simp [execOp, ho, hv, hrun]
        rw [e1]
        exact hn _ _ _ _ (c1.fin cfg (fok_fin h1 cfg _) (.tuple (.cons (.bool _ _) (.cons (.int _ _ _) (.cons (.int _ _ _) (.nil _)))))) (c2.put (fin_objAt _ _ _ _) (fin_σ _ _ _ _)) h2
      · rw [if_neg hp] at hrun
        simp only [hp, decide_false] at h
        obtain ⟨h1, h2⟩ := gb_iff.1 h
        have e1 : (execOp a.eval o).run P w = .ok (.value (.tuple #[.bool false])) w := by
          simp [execOp, ho, hv, hrun]
        rw [e1]
        exact hn _ _ _ _ (hC.fin cfg (fok_fin h1 cfg _) (.tuple (.cons (.bool _ _) (.nil _)))) (EvoS.put (st' := st) (Evo.refl _ _ _ _) (fin_objAt _ _ _ _) (fin_σ _ _ _ _)) h2
    · cases hi
  · cases hi

theorem opV1_sound {P : Program} {cfg : Cfg} (ho' : OrcOk P cfg) {o : Oper} {K : St → Prop} {st : St} (h : opV1 P cfg o K st) {γ : Gh} {w : World} {a : Act} (hC : Conc γ w a st) {next : Act → World → Prop} {Q : Exit → Act → World → Prop}
    (hn : ∀ γ' w' a' st', Conc γ' w' a' st' → EvoS γ w st γ' w' st' → K st' → next a' w') : o.wp P a w next Q := by
  unfold opV1 at h
  split at h
  · rename_i op T x y yT ho
    split at h
    · rename_i pos es nl hcmp
      obtain ⟨hd, h⟩ := gb_iff.1 h
      unfold nilCmp at hcmp
      split at hcmp
      · rename_i e es' s t hT hx hy
        have rx := hC.eval x
        have ry := hC.eval y
        rw [hx] at rx
        rw [hy] at ry
        -- what is known of the first operand
        obtain ⟨oa, n, c, hu, hb1, hb2⟩ : ∃ (oa : Option Addr) (n c : Nat), a.eval x = .slice oa n c ∧ (oa.isNone = true → es'.isEmpty = true) ∧ (t.isNil = true → oa.isNone = true) := by
          generalize a.eval x = u at rx
          cases rx with
          | sliceRow hr hs hc h1 hn' hm ht => exact ⟨_, _, _, rfl, fun h => (by cases h), fun h => by cases t <;> simp [Tag.isNil] at h; exact ht.elim⟩
          | sliceNil ht hnil => exact ⟨_, _, _, rfl, fun _ => rfl, fun h => by rcases hnil with rfl | hnil; rfl; rw [hnil] at h; cases h⟩
        have hv : a.eval y = .slice none 0 0 := by
          generalize a.eval y = u at ry
          generalize hes : ([] : List AVal) = el at ry
          cases ry with
          | sliceRow hr hs hc h1 hn' hm ht => exact ht.elim
          | sliceNil ht hnil => rcases hnil with rfl | hnil; rfl; cases hnil
        have hg : ∀ op : BinOp, (eqGuard op T x y (.slice oa n c) (.slice none 0 0)).run P w = .ok () w := fun op => by cases op <;> simp [eqGuard]
        have fin : ∀ p : Bool, (execOp a.eval o).run P w = .ok (.value (.bool (oa.isNone == p))) w → K (st.fin cfg o.dst (.bool (oa.isNone == p))).2 → o.wp P a w next Q := by
          intro p hrun hK
          unfold Oper.wp
          rw [hrun]
          exact hn _ _ _ _ (hC.fin cfg (fok_fin hd cfg _) (.bool _ _)) (EvoS.put (st' := st) (Evo.refl _ _ _ _) (fin_objAt _ _ _ _) (fin_σ _ _ _ _)) hK
        split at hcmp
        · cases hcmp
          refine fin true ?_ (h oa.isNone hb1 hb2)
          simp [execOp, ho, hu, hv, hg, run_eql_slice_nil' w T e oa n c hT]
        · cases hcmp
          refine fin false ?_ (h oa.isNone hb1 hb2)
          have := run_neq_slice_nil (P := P) w T e oa n c hT
          simp [execOp, ho, hu, hv, hg, this]
        · cases hcmp
      · cases hcmp
    · exact opW_sound ho' h hC hn
  · rename_i args ts ho
    split at h
    · rename_i d s T T' ha ht
      have ha' : args = #[d, s] := by rw [← Array.toArray_toList (xs := args), ha]
      have ht' : ts = #[T, T'] := by rw [← Array.toArray_toList (xs := ts), ht]
      subst ha'; subst ht'
      split at h
      · rename_i X hX
        exact appV_sound ho' ho hX h hC hn
      · exact opW_sound ho' h hC hn
    · exact opW_sound ho' h hC hn
  · rename_i f args ts ho
    split at h
    · rename_i p hp
      obtain ⟨h1, h2⟩ := gb_iff.1 h
      simp only [Bool.and_eq_true] at h1
      unfold Oper.wp
      rw [extV_sound ho' ho hp h1.2 hC]
      exact hn _ _ _ _ (hC.fin cfg (fok_fin h1.1 cfg _) (.bool _ _)) (EvoS.put (st' := st) (Evo.refl _ _ _ _) (fin_objAt _ _ _ _) (fin_σ _ _ _ _)) h2
    · exact opW_sound ho' h hC hn
  · rename_i it ho
    split at h
    · rename_i oid s pos hi
      exact nextV_sound ho hi h hC hn
    · exact opW_sound ho' h hC hn
  · exact opW_sound ho' h hC hn

theorem opV_sound {P : Program} {cfg : Cfg} (ho' : OrcOk P cfg) {o : Oper} {K : St → Prop} {st : St} (h : opV P cfg o K st) {γ : Gh} {w : World} {a : Act} (hC : Conc γ w a st) {next : Act → World → Prop} {Q : Exit → Act → World → Prop}
    (hn : ∀ γ' w' a' st', Conc γ' w' a' st' → EvoS γ w st γ' w' st' → K st' → next a' w') : o.wp P a w next Q := by
  unfold opV at h
  split at h
  · obtain ⟨h1, h2⟩ := gb_iff.1 h
    obtain ⟨γ1, c1, e1⟩ := hC.freezeS h1
    exact opV1_sound ho' h2 c1 fun γ' w' a' st' c2 e2 hK => hn γ' w' a' st' c2 (e1.trans e2) hK
  · exact opV1_sound ho' h hC hn

theorem Conc.ext {γ : Gh} {w : World} {a : Act} {st st' : St} (h : Conc γ w a st) (hn : st'.n = st.n) (hg : ∀ t, st'.get t = st.get t) (hO : st'.objAt = st.objAt) (hσ : st'.σ = st.σ) : Conc γ w a st' :=
  ⟨h.size.trans hn.symm, fun t => by rw [hg]; exact h.fr t, h.defers, by rw [hO, hσ]; exact h.inv⟩

theorem get_put_same (keep : List Nat) (st : St) (g : Nat) {v : AVal} (h : st.get g = v) (t : Nat) : (st.put keep g v).get t = st.get t := by
  rw [St.get_put]
  split
  · rename_i e; subst e; exact h.symm
  · rfl

theorem Conc.putSame {γ : Gh} {w : World} {a : Act} {st : St} (h : Conc γ w a st) (keep : List Nat) {g : Nat} {v : AVal} (hv : st.get g = v) : Conc γ w a (st.put keep g v) :=
  h.ext (by simp) (get_put_same keep st g hv) (St.put_objAt _ _ _ _) (St.put_σ _ _ _ _)

theorem skipV_sound {cfg : Cfg} {o : Oper} {K : St → Prop} {st : St} (h : skipV cfg o K st) {γ : Gh} {w : World} {a : Act} (hC : Conc γ w a st) : ∃ st', Conc γ w (a.put o.dst undef) st' ∧ EvoS γ w st γ w st' ∧ K st' :=
  ⟨_, hC.fin cfg (skipV_iff h).1 (.tuple (.nil _)), EvoS.put (st' := st) (Evo.refl _ _ _ _) (fin_objAt _ _ _ _) (fin_σ _ _ _ _), (skipV_iff h).2⟩

theorem yielded_of {γ : Gh} {w : World} {a : Act} {st : St} (hC : Conc γ w a st) {ops : Array Oper} {j g : Nat} (hj : (ops[j]?).bind (·.dst) = some g) :
    (∀ b, st.get g = .bool b → yielded ops a.tmps j = some b) ∧ (∀ vs, st.get g = .tuple vs → yielded ops a.tmps j = none) := by
  have hr := hC.fr g
  constructor
  · intro b hb
    rw [hb] at hr
    unfold yielded
    rw [hj]
    simp only [Option.bind_some]
    cases hg : a.tmps[g]? with
    | none =>
      have : a.tmps.getD g undef = undef := by simp [Array.getD_eq_getD_getElem?, hg]
      rw [this] at hr
      cases hr
    | some v =>
      have : a.tmps.getD g undef = v := by simp [Array.getD_eq_getD_getElem?, hg]
      rw [this] at hr
      cases hr
      rfl
  · intro vs hb
    rw [hb] at hr
    unfold yielded
    rw [hj]
    simp only [Option.bind_some]
    cases hg : a.tmps[g]? with
    | none => rfl
    | some v =>
      have : a.tmps.getD g undef = v := by simp [Array.getD_eq_getD_getElem?, hg]
      rw [this] at hr
      cases hr
      rfl

/-- An operation, be it wanted or not: from here on. -/
theorem opsV_sound {P : Program} {cfg : Cfg} (ho : OrcOk P cfg) {ops : Array Oper} {Q : Exit → Act → World → Prop} : ∀ (l : List Oper) (i : Nat) (K : St → Prop) (st : St), (∀ j, l[j]? = ops[i + j]?) → opsV P cfg ops l K st → ∀ {γ : Gh} {w : World} {a : Act}, Conc γ w a st →
    (∀ γ' w' a' st', Conc γ' w' a' st' → EvoS γ w st γ' w' st' → K st' → Q .normal a' w') → wpOps P ops Q (List.range' i l.length) a w
  | [], i, K, st, _, h, γ, w, a, hC, hQ => hQ _ _ _ _ hC (Evo.refl _ _ _ _) h
  | o :: l, i, K, st, hl, h, γ, w, a, hC, hQ => by
    have h0 : ops[i]? = some o := by have := hl 0; simpa using this.symm
    have hl' : ∀ j, l[j]? = ops[i + 1 + j]? := fun j => by have := hl (j + 1); simpa [Nat.add_assoc, Nat.add_comm 1 j] using this
    have rest : ∀ γ1 w1 a1 st1, Conc γ1 w1 a1 st1 → EvoS γ w st γ1 w1 st1 → opsV P cfg ops l K st1 → wpOps P ops Q (List.range' (i + 1) l.length) a1 w1 := fun γ1 w1 a1 st1 hC1 hE1 hV1 =>
      opsV_sound ho l (i + 1) K st1 hl' hV1 hC1 fun γ' w' a' st' c1 c2 c3 => hQ _ _ _ _ c1 (hE1.trans c2) c3
    have run : ∀ st0, Conc γ w a st0 → (EvoS γ w st γ w st0) → opV P cfg o (opsV P cfg ops l K) st0 → o.wp P a w (wpOps P ops Q (List.range' (i + 1) l.length)) Q := fun st0 hC0 hE0 hV0 =>
      opV_sound ho hV0 hC0 fun γ' w' a' st' c1 c2 c3 => rest _ _ _ _ c1 (hE0.trans c2) c3
    have skip : ∀ st0, Conc γ w a st0 → (EvoS γ w st γ w st0) → skipV cfg o (opsV P cfg ops l K) st0 → wpOps P ops Q (List.range' (i + 1) l.length) (a.put o.dst undef) w := fun st0 hC0 hE0 hV0 => by
      obtain ⟨st', c1, c2, c3⟩ := skipV_sound hV0 hC0
      exact rest _ _ _ _ c1 (hE0.trans c2) c3
    have hE : EvoS γ w st γ w st := Evo.refl _ _ _ _
    simp only [List.length_cons, List.range'_succ]
    unfold wpOps
    rw [h0]
    simp only []
    unfold opsV at h
    split at h
    · rename_i hg
      have hw : Region.wanted o (yielded ops a.tmps) = true := by simp [Region.wanted, hg]
      rw [if_pos hw]
      split at h
      · exact .inl (run st hC hE h)
      · rename_i T len ps d d' hlit
        obtain ⟨o2, r, rfl, k1, k2, k3, k4, k5, k6⟩ := litOf_spec hlit
        split at h
        · exact h.elim
        · rename_i p st' hA
          simp only [] at h
          obtain ⟨hp, hK⟩ := gb_iff.1 h
          obtain ⟨γ', w1, w2, u, m1, m2, m3, m4, m5⟩ := litA_sound hC hA hp k6
          left
          have h2 : ops[i + 1]? = some o2 := by have := hl' 0; simpa using this.symm
          have hl2 : ∀ j, r[j]? = ops[i + 1 + 1 + j]? := fun j => by
            have := hl' (j + 1)
            rw [show i + 1 + 1 + j = i + 1 + (j + 1) by omega]
            simpa using this
          have e1 : (execOp a.eval o).run P w = .ok (.value u) w1 := by
            simp only [execOp, k1, Sem.run_bind, m1, Result.andThen_ok, Sem.run_pure]
          unfold Oper.wp
          rw [e1]
          show wpOps P ops Q (List.range' (i + 1) (o2 :: r).length) (a.put o.dst u) w1
          rw [k2]
          simp only [List.length_cons, List.range'_succ]
          unfold wpOps
          rw [h2]
          simp only []
          have hw2 : Region.wanted o2 (yielded ops (a.put (some d) u).tmps) = true := by simp [Region.wanted, k3]
          rw [if_pos hw2]
          left
          have ev : (a.put (some d) u).eval (.tmp d) = u := by
            simp [Act.eval, Act.put, Array.getD, m5]
          have e2 : (execOp (a.put (some d) u).eval o2).run P w1 = .ok (.value u) w2 := by
            simp only [execOp, k4, ev, Sem.run_bind, m2, Result.andThen_ok, Sem.run_pure]
          unfold Oper.wp
          rw [e2]
          show wpOps P ops Q (List.range' (i + 1 + 1) r.length) ((a.put (some d) u).put o2.dst u) w2
          rw [k5]
          exact opsV_sound ho r (i + 1 + 1) K st' hl2 hK m3 fun γ'' w'' a'' st'' c1 c2 c3 => hQ _ _ _ _ c1 (m4.trans c2) c3
    · rename_i j want hg
      split at h
      · rename_i hj
        have hw : ¬ Region.wanted o (yielded ops a.tmps) = true := by simp [Region.wanted, hg, yielded, hj]
        rw [if_neg hw]
        exact skip st hC hE h
      · rename_i g hj
        obtain ⟨y1, y2⟩ := yielded_of hC hj
        split at h
        · rename_i b hb
          have hy := y1 b hb
          by_cases hbw : b = want
          · have hw : Region.wanted o (yielded ops a.tmps) = true := by simp [Region.wanted, hg, hy, hbw]
            rw [if_pos hw]
            refine .inl (run _ (hC.putSame cfg.keep (by rw [hb, hbw])) ?_ ((brV_iff.1 h).1 hbw))
            exact EvoS.put (st' := st) (Evo.refl _ _ _ _) (St.put_objAt _ _ _ _) (St.put_σ _ _ _ _)
          · have hw : ¬ Region.wanted o (yielded ops a.tmps) = true := by simp [Region.wanted, hg, hy, hbw]
            rw [if_neg hw]
            have hbn : b = !want := by cases b <;> cases want <;> simp at hbw ⊢
            refine skip _ (hC.putSame cfg.keep (by rw [hb, hbn])) ?_ ((brV_iff.1 h).2 hbn)
            exact EvoS.put (st' := st) (Evo.refl _ _ _ _) (St.put_objAt _ _ _ _) (St.put_σ _ _ _ _)
        · rename_i vs hb
          have hy := y2 vs hb
          have hw : ¬ Region.wanted o (yielded ops a.tmps) = true := by simp [Region.wanted, hg, hy]
          rw [if_neg hw]
          exact skip st hC hE h
        · exact h.elim

end
end Go.AL
