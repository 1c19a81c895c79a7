/-
  The abstract layer, part 9: calls; the weakest precondition of code, over abstract states.
-/
import Derived.Test.YtickkgdphdkodaaA8
namespace Go.AL
noncomputable section
set_option linter.unusedSimpArgs false
set_option linter.unusedVariables false

def Sto.O (σ : Sto) : Oid → Option AObj
  | .loc _ => none
  | .out n => σ.obj n

/-- A function's contract: called with these values, over this store, it returns, and what it returns and leaves is so. -/
def ACall (P : Program) (f : FuncId) (args : List AVal) (σ : Sto) (Q : AVal → Sto → Prop) : Prop :=
  ∀ (γ : Gh) (w : World) (vs : List Value), Inv γ w σ.O σ.own σ.nobj σ.nown → RepL γ w false args vs → Calls P f vs.toArray w fun e w' =>
    ∃ v r γ' σ', e = .returned v ∧ Rep γ' w' false r v ∧ Inv γ' w' σ'.O σ'.own σ'.nobj σ'.nown ∧ Evo γ w σ.O σ.own γ' w' σ'.O σ'.own ∧ Q r σ'

theorem ACall.mono {P : Program} {f : FuncId} {args : List AVal} {σ : Sto} {Q Q' : AVal → Sto → Prop} (h : ACall P f args σ Q) (hq : ∀ r σ', Q r σ' → Q' r σ') : ACall P f args σ Q' :=
  fun γ w vs hi hr => (h γ w vs hi hr).mono fun _ _ ⟨v, r, γ', σ', h1, h2, h3, h4, h5⟩ => ⟨v, r, γ', σ', h1, h2, h3, h4, hq _ _ h5⟩

def isGo (P : Program) (f : FuncId) : Bool :=
  match P.funcs[f]? with
  | some fn => !(fn.name == "runtime.NumGoroutine") && fn.body.isSome
  | none => false

theorem Inv.sub {γ : Gh} {w : World} {O O' : Oid → Option AObj} {W : Nat → Option Nat} {no nw : Nat} (h : Inv γ w O W no nw) (hs : ∀ i x, O' i = some x → O i = some x) : Inv γ w O' W no nw :=
  ⟨h.imm, fun i x hx => h.obj i x (hs i x hx), fun i j x y b hx hy => h.inj i j x y b (hs i x hx) (hs j y hy), h.own, h.ownInj, fun i x p n b hx => h.apart i x p n b (hs i x hx), h.freshO, h.freshW⟩

theorem Mut.sub {γ : Gh} {O O' : Oid → Option AObj} {W : Nat → Option Nat} (hs : ∀ i x, O' i = some x → O i = some x) {b : Nat} (h : Mut γ O' W b) : Mut γ O W b := by
  rcases h with ⟨i, x, hx, hb⟩ | h
  · exact .inl ⟨i, x, hs i x hx, hb⟩
  · exact .inr h

theorem Sto.O_sub (st : St) : ∀ i x, st.σ.O i = some x → st.objAt i = some x := by
  intro i x h
  cases i with
  | loc k => cases h
  | out n => exact h

/-- Behind a call the caller's own objects are as they were. -/
theorem Conc.afterCall {γ γ' : Gh} {w w' : World} {a : Act} {st : St} (hC : Conc γ w a st) {σ' : Sto} (hi : Inv γ' w' σ'.O σ'.own σ'.nobj σ'.nown) (he : Evo γ w st.σ.O st.σ.own γ' w' σ'.O σ'.own) :
    ∃ γ2, Conc γ2 w' a { st with σ := σ' } ∧ EvoS γ w st γ2 w' { st with σ := σ' } ∧ ∀ r v, Rep γ' w' false r v → Rep γ2 w' true r v := by
  have eO : ∀ i, St.objAt { st with σ := σ' } i = match i with | .loc k => st.objAt (.loc k) | .out n => σ'.obj n := fun i => by cases i <;> rfl
  -- the caller's own blocks are none of the callee's
  have hloc : ∀ k x b, st.objAt (.loc k) = some x → γ.obj (.loc k) = some b → b < w.heap.size ∧ ¬ Mut γ st.σ.O st.σ.own b ∧ ∀ o, ¬ γ.imm b o := fun k x b hx hb => by
    obtain ⟨b', hb', hok⟩ := hC.inv.obj _ _ hx
    rw [hb] at hb'; cases hb'
    refine ⟨hok.lt, fun hm => ?_, hok.notImm⟩
    rcases hm with ⟨i, y, hy, hbi⟩ | ⟨p, n, hp, hbp⟩
    · have := hC.inv.inj (.loc k) i x y b hx (Sto.O_sub st i y hy) hb hbi
      subst this
      cases hy
    · exact hC.inv.apart (.loc k) x p n b hx hp hb hbp
  have hlocM : ∀ k x b, st.objAt (.loc k) = some x → γ.obj (.loc k) = some b → ¬ Mut γ' σ'.O σ'.own b := fun k x b hx hb hm => by
    obtain ⟨h1, h2, _⟩ := hloc k x b hx hb
    rcases he.mutd b hm with h3 | h3
    · exact h2 h3
    · omega
  let γ2 : Gh := { γ' with obj := fun i => match i with | .loc k => γ.obj (.loc k) | .out n => γ'.obj (.out n) }
  have e1 : Ext true γ w γ2 w' := ⟨he.ext.imm, fun i b _ hb => by
    cases i with
    | loc k => exact hb
    | out n => exact he.ext.obj (.out n) b (.inr rfl) hb, he.ext.own⟩
  have e2 : Ext false γ' w' γ2 w' := ⟨fun b o h => ⟨h, rfl⟩, fun i b hl hb => by
    cases i with
    | loc k => rcases hl with h | h <;> cases h
    | out n => exact hb, fun p => OwnStep.refl _⟩
  have hsub : ∀ i x, st.σ.O i = some x → st.objAt i = some x := Sto.O_sub st
  refine ⟨γ2, ⟨hC.size, fun t => Rep.mono e1 (hC.fr t), hC.defers, ⟨hi.imm, fun i x hx => ?_, fun i j x y b hx hy hbi hbj => ?_, fun p n hp => ?_, hi.ownInj, fun i x p n b hx hp hbi hbp => ?_, hi.freshO, hi.freshW⟩⟩,
    ⟨he.os, he.tape, he.output, he.size, fun b hb hm => he.old b hb (fun h => hm (Mut.sub hsub h)), e1.weak, fun b o h => (he.new b o h).imp_right (.imp_right (Mut.sub hsub)), fun b hm => ?_⟩, fun r v hr => Rep.weaken (Rep.mono e2 hr) true⟩
  · cases i with
    | loc k =>
      have hx : st.objAt (.loc k) = some x := hx
      obtain ⟨b, hb, hok⟩ := hC.inv.obj _ _ hx
      obtain ⟨h1, h2, h3⟩ := hloc k x b hx hb
      refine ⟨b, hb, hok.mono e1 (he.old b h1 h2) (fun o h => ?_)⟩
      rcases he.new b o h with h4 | h4 | h4
      · exact h3 o h4
      · omega
      · exact h2 h4
    | out n =>
      obtain ⟨b, hb, hok⟩ := hi.obj (.out n) x hx
      exact ⟨b, hb, hok.mono e2 rfl hok.notImm⟩
  · cases i with
    | loc k =>
      cases j with
      | loc k2 => exact hC.inv.inj _ _ x y b hx hy hbi hbj
      | out n => exact absurd (.inl ⟨.out n, y, hy, hbj⟩) (hlocM k x b hx hbi)
    | out n =>
      cases j with
      | loc k2 => exact absurd (.inl ⟨.out n, x, hx, hbi⟩) (hlocM k2 y b hy hbj)
      | out n2 => exact hi.inj (.out n) (.out n2) x y b hx hy hbi hbj
  · exact (hi.own p n hp).mono (fun _ _ => rfl) (fun _ _ _ h => h)
  · cases i with
    | loc k => exact hlocM k x b hx hbi (.inr ⟨p, n, hp, hbp⟩)
    | out m => exact hi.apart (.out m) x p n b hx hp hbi hbp
  · rcases hm with ⟨i, x, hx, hb⟩ | ⟨p, n, hp, hb⟩
    · cases i with
      | loc k => exact .inl (.inl ⟨.loc k, x, hx, hb⟩)
      | out n =>
        rcases he.mutd b (.inl ⟨.out n, x, hx, hb⟩) with h | h
        · exact .inl (Mut.sub hsub h)
        · exact .inr h
    · rcases he.mutd b (.inr ⟨p, n, hp, hb⟩) with h | h
      · exact .inl (Mut.sub hsub h)
      · exact .inr h

/-- A call's operands: the function's number and all its arguments. -/
def calleeA (f : AVal) (args : List AVal) : Option (FuncId × List AVal) :=
  match f with
  | .func (.func g) first cap => some (g, first ++ args ++ cap)
  | _ => none

theorem execOp_call {P : Program} {γ : Gh} {w : World} {a : Act} {st : St} (hC : Conc γ w a st) {o : Oper} {f : Operand} {args : Array Operand} {ts : Array TypeId} (ho : o.op = .call ⟨.value f, args, ts⟩) {g : FuncId} {xs : List AVal}
    (hc : calleeA (st.eval f) (args.toList.map st.eval) = some (g, xs)) (hg : isGo P g = true) (hl : noLocL xs = true) :
    ∃ vs, (execOp a.eval o).run P w = .ok (.enter g vs.toArray) w ∧ RepL γ w false xs vs := by
  have hf := hC.eval f
  have ha := RepL.map (fun x => hC.eval x) args.toList
  unfold calleeA at hc
  split at hc
  · rename_i g' first cap hfe
    simp only [Option.some.injEq, Prod.mk.injEq] at hc
    obtain ⟨rfl, rfl⟩ := hc
    rw [hfe] at hf
    generalize hfv : a.eval f = fv at hf
    cases hf with
    | func h1 h2 =>
      rename_i fs cs
      refine ⟨fs ++ args.toList.map a.eval ++ cs, ?_, RepL.noLoc (RepL.append h2 (RepL.append ha h1)) hl⟩
      unfold isGo at hg
      split at hg
      · rename_i fn hfn
        simp only [Bool.and_eq_true, Bool.not_eq_true'] at hg
        have hb : ¬ fn.body = none := by
          intro e
          rw [e] at hg
          simp at hg
        have e1 : fs.toArray ++ (args.map a.eval ++ cs.toArray) = (fs ++ (args.toList.map a.eval ++ cs)).toArray := Array.ext' (by simp)
        have hn : ¬ fn.name = "runtime.NumGoroutine" := by simpa using hg.1
        simp [execOp, ho, resolve, hfv, Deferred.ofValue, invoke, callFunc, hfn, hn, hb, e1]
      · cases hg
  · cases hc

/-- What is done with a call's result. -/
def Does2 (P : Program) (o : Oper) (cfg : Cfg) (st : St) (K : St → Prop) : Prop :=
  ∀ (γ : Gh) (w : World) (a : Act), Conc γ w a st → ∀ Q : Exit → Act → World → Prop, o.wp P a w (fun a' w' => ∃ γ' st', Conc γ' w' a' st' ∧ EvoS γ w st γ' w' st' ∧ K st') Q

/-! ### Conditions -/

def gb (b : Bool) (X : Prop) : Prop := match b with | true => X | false => False
def fok (st : St) : Option Nat → Bool
  | some d => Nat.blt d st.n
  | none => true

theorem gb_iff {b : Bool} {X : Prop} : gb b X ↔ b = true ∧ X := by cases b <;> simp [gb]
theorem fok_fin {st : St} {dst : Option Nat} (h : fok st dst = true) (cfg : Cfg) (v : AVal) : (st.fin cfg dst v).1 := by
  cases dst with
  | none => rfl
  | some d => exact decide_eq_true (Nat.blt_eq.mp h)

/-- A call that turns nothing and whose answer is known. -/
def PCall (P : Program) (g : FuncId) (xs : List AVal) (v : AVal) : Prop := ∀ σ, ACall P g xs σ fun r τ => r = v ∧ τ = σ
/-- A call that turns permissions alone. -/
def WCall (P : Program) (g : FuncId) (xs : List AVal) (v : AVal) (own : Nat → Option Nat) (nown : Nat) (ow : Nat → Option Nat) (nw : Nat) : Prop :=
  ∀ σ : Sto, σ.own = own → σ.nown = nown → ACall P g xs σ fun r τ => r = v ∧ τ = { σ with own := ow, nown := nw }
/-- A call whose answer and whose store are known. -/
def FCall (P : Program) (g : FuncId) (xs : List AVal) (σ : Sto) (v : AVal) (σ' : Sto) : Prop := ACall P g xs σ fun r τ => r = v ∧ τ = σ'

def St.setσ (st : St) (σ : Sto) : St := { st with σ := σ }

/-- What is told of calls is so. -/
def OrcOk (P : Program) (cfg : Cfg) : Prop := ∀ (g : FuncId) (xs : List AVal) (σ : Sto),
  match cfg.orc g xs σ with
  | some (.pure c v) => c = true → PCall P g xs v
  | some (.own c v ow nw) => c = true → WCall P g xs v σ.own σ.nown ow nw
  | some (.full c v σ') => c = true → FCall P g xs σ v σ'
  | none => True

theorem OrcOk.of_none {P : Program} {cfg : Cfg} (h : cfg.orc = fun _ _ _ => none) : OrcOk P cfg := fun g xs σ => by rw [h]; trivial

/-- A call. -/
def callV (P : Program) (cfg : Cfg) (dst : Option Nat) (f : AVal) (args : List AVal) (K : St → Prop) (st : St) : Prop :=
  match calleeA f args with
  | some (g, xs) => gb (fok st dst && (isGo P g && noLocL xs)) (
    match cfg.orc g xs st.σ with
    | some (.pure c v) => gb c (K (st.fin cfg dst v).2)
    | some (.own c v ow nw) => gb c (K ((st.setσ { st.σ with own := ow, nown := nw }).fin cfg dst v).2)
    | some (.full c v σ') => gb c (K ((st.setσ σ').fin cfg dst v).2)
    | none => ACall P g xs st.σ fun r σ' => K ((st.setσ σ').fin cfg dst r).2)
  | none => False

theorem callV_acall {P : Program} {cfg : Cfg} (ho : OrcOk P cfg) {dst : Option Nat} {f : AVal} {args : List AVal} {K : St → Prop} {st : St} (h : callV P cfg dst f args K st) :
    ∃ g xs, calleeA f args = some (g, xs) ∧ isGo P g = true ∧ noLocL xs = true ∧ ACall P g xs st.σ fun r σ' => (({ st with σ := σ' } : St).fin cfg dst r).1 ∧ K (({ st with σ := σ' } : St).fin cfg dst r).2 := by
  have hf : ∀ (σ' : Sto), fok st dst = true → fok ({ st with σ := σ' } : St) dst = true := fun σ' h => h
  unfold callV at h
  split at h
  · rename_i g xs hc
    obtain ⟨hb, h⟩ := gb_iff.1 h
    simp only [Bool.and_eq_true] at hb
    obtain ⟨k2, hg, hl⟩ := hb
    refine ⟨g, xs, hc, hg, hl, ?_⟩
    have hok := ho g xs st.σ
    split at h
    · rename_i c v e
      rw [e] at hok
      obtain ⟨h1, h3⟩ := gb_iff.1 h
      refine ((hok h1) st.σ).mono ?_
      rintro r τ ⟨rfl, rfl⟩
      exact ⟨fok_fin (hf _ k2) cfg _, h3⟩
    · rename_i c v ow nw e
      rw [e] at hok
      obtain ⟨h1, h3⟩ := gb_iff.1 h
      refine ((hok h1) st.σ rfl rfl).mono ?_
      rintro r τ ⟨rfl, rfl⟩
      exact ⟨fok_fin (hf _ k2) cfg _, h3⟩
    · rename_i c v σ' e
      rw [e] at hok
      obtain ⟨h1, h3⟩ := gb_iff.1 h
      refine ACall.mono (hok h1) ?_
      rintro r τ ⟨rfl, rfl⟩
      exact ⟨fok_fin (hf _ k2) cfg _, h3⟩
    · exact ACall.mono h fun r τ hk => ⟨fok_fin (hf _ k2) cfg _, hk⟩
  · exact h.elim

/-- One operation, and what follows. -/
def opV (P : Program) (cfg : Cfg) (o : Oper) (K : St → Prop) (st : St) : Prop :=
  match o.op with
  | .call ⟨.value f, args, _⟩ => callV P cfg o.dst (st.eval f) (args.toList.map st.eval) K st
  | _ =>
    match pureOp P st.eval st.objAt o.op with
    | some (p, v) => gb (fok st o.dst && p) (K (st.fin cfg o.dst v).2)
    | none =>
      match effOp P cfg o st with
      | some (p, st') => gb p (K st')
      | none => False

theorem step_of {P : Program} {cfg : Cfg} {o : Oper} {K : St → Prop} {st : St}
    (h : match pureOp P st.eval st.objAt o.op with
      | some (p, v) => gb (fok st o.dst && p) (K (st.fin cfg o.dst v).2)
      | none => match effOp P cfg o st with | some (p, st') => gb p (K st') | none => False) :
    ∃ p st', stepOp P cfg o st = some (p, st') ∧ p = true ∧ K st' := by
  unfold stepOp
  split at h
  · rename_i p v hp
    obtain ⟨h1, h2⟩ := gb_iff.1 h
    simp only [Bool.and_eq_true] at h1
    rw [hp]
    exact ⟨_, _, rfl, decide_eq_true ⟨h1.2, fok_fin h1.1 cfg v⟩, h2⟩
  · rename_i hp
    rw [hp]
    split at h
    · rename_i p st' he
      obtain ⟨h1, h2⟩ := gb_iff.1 h
      exact ⟨_, _, he, h1, h2⟩
    · exact h.elim

/-- It is skipped. -/
def skipV (cfg : Cfg) (o : Oper) (K : St → Prop) (st : St) : Prop := gb (fok st o.dst) (K (st.fin cfg o.dst (.tuple [])).2)

theorem skipV_iff {cfg : Cfg} {o : Oper} {K : St → Prop} {st : St} (h : skipV cfg o K st) : (st.fin cfg o.dst (.tuple [])).1 ∧ K (st.fin cfg o.dst (.tuple [])).2 :=
  ⟨fok_fin (gb_iff.1 h).1 cfg _, (gb_iff.1 h).2⟩

/-- Both ways of a condition. -/
def brV (b want : Bool) (A B : Prop) : Prop :=
  match b with
  | true => (match want with | true => A | false => B)
  | false => (match want with | true => B | false => A)

theorem brV_iff {b want : Bool} {A B : Prop} : brV b want A B ↔ (b = want → A) ∧ (b = (!want) → B) := by cases b <;> cases want <;> simp [brV]

/-- The operations of a region, one behind the other. -/
def opsV (P : Program) (cfg : Cfg) (ops : Array Oper) : List Oper → (St → Prop) → St → Prop
  | [], K, st => K st
  | o :: rest, K, st =>
    match o.guard with
    | none => opV P cfg o (opsV P cfg ops rest K) st
    | some (j, want) =>
      match (ops[j]?).bind (·.dst) with
      | none => skipV cfg o (opsV P cfg ops rest K) st
      | some g =>
        match st.get g with
        | .bool b => brV b want (opV P cfg o (opsV P cfg ops rest K) (st.put cfg.keep g (.bool want))) (skipV cfg o (opsV P cfg ops rest K) (st.put cfg.keep g (.bool (!want))))
        | .tuple _ => skipV cfg o (opsV P cfg ops rest K) st
        | _ => False

theorem Does.wp {P : Program} {γ : Gh} {w : World} {a : Act} {o : Oper} {st st' : St} (h : Does P γ w a o st st') {next : Act → World → Prop} {Q : Exit → Act → World → Prop}
    (hn : ∀ γ' w' a', Conc γ' w' a' st' → EvoS γ w st γ' w' st' → next a' w') : o.wp P a w next Q := by
  obtain ⟨γ', w', u, hr, hC, hE⟩ := h
  unfold Oper.wp
  rcases hr with hr | ⟨hr, rfl⟩
  · rw [hr]; exact hn _ _ _ hC hE
  · rw [hr]; exact hn _ _ _ hC hE

theorem opV_sound {P : Program} {cfg : Cfg} (ho' : OrcOk P cfg) {o : Oper} {K : St → Prop} {st : St} (h : opV P cfg o K st) {γ : Gh} {w : World} {a : Act} (hC : Conc γ w a st) {next : Act → World → Prop} {Q : Exit → Act → World → Prop}
    (hn : ∀ γ' w' a' st', Conc γ' w' a' st' → EvoS γ w st γ' w' st' → K st' → next a' w') : o.wp P a w next Q := by
  unfold opV at h
  split at h
  · rename_i f args ts ho
    obtain ⟨g, xs, hc, hg, hl, hA⟩ := callV_acall ho' h
    obtain ⟨vs, hrun, hr⟩ := execOp_call hC ho hc hg hl
    have hcall := hA γ w vs (hC.inv.sub (Sto.O_sub st)) hr
    unfold Oper.wp
    rw [hrun]
    refine hcall.mono fun e w' ⟨v, r, γ', σ', he, hrep, hi, hev, hd, hK⟩ => ?_
    subst he
    obtain ⟨γ2, c1, c2, c3⟩ := hC.afterCall hi hev
    exact hn _ _ _ _ (c1.fin cfg hd (c3 r v hrep)) (c2.put (fin_objAt _ _ _ _) (fin_σ _ _ _ _)) hK
  · obtain ⟨p, st', hs, h1, h2⟩ := step_of h
    exact (stepOp_sound hC hs h1).wp fun γ' w' a' c1 c2 => hn _ _ _ _ c1 c2 h2

theorem Conc.ext {γ : Gh} {w : World} {a : Act} {st st' : St} (h : Conc γ w a st) (hn : st'.n = st.n) (hg : ∀ t, st'.get t = st.get t) (hO : st'.objAt = st.objAt) (hσ : st'.σ = st.σ) : Conc γ w a st' :=
  ⟨h.size.trans hn.symm, fun t => by rw [hg]; exact h.fr t, h.defers, by rw [hO, hσ]; exact h.inv⟩

theorem get_put_same (keep : List Nat) (st : St) (g : Nat) {v : AVal} (h : st.get g = v) (t : Nat) : (st.put keep g v).get t = st.get t := by
  rw [St.get_put]
  split
  · rename_i e; subst e; exact h.symm
  · rfl

theorem Conc.putSame {γ : Gh} {w : World} {a : Act} {st : St} (h : Conc γ w a st) (keep : List Nat) {g : Nat} {v : AVal} (hv : st.get g = v) : Conc γ w a (st.put keep g v) :=
  h.ext (by simp) (get_put_same keep st g hv) (St.put_objAt _ _ _ _) (St.put_σ _ _ _ _)

theorem skipV_sound {cfg : Cfg} {o : Oper} {K : St → Prop} {st : St} (h : skipV cfg o K st) {γ : Gh} {w : World} {a : Act} (hC : Conc γ w a st) : ∃ st', Conc γ w (a.put o.dst undef) st' ∧ EvoS γ w st γ w st' ∧ K st' :=
  ⟨_, hC.fin cfg (skipV_iff h).1 (.tuple (.nil _)), EvoS.put (st' := st) (Evo.refl _ _ _ _) (fin_objAt _ _ _ _) (fin_σ _ _ _ _), (skipV_iff h).2⟩

theorem yielded_of {γ : Gh} {w : World} {a : Act} {st : St} (hC : Conc γ w a st) {ops : Array Oper} {j g : Nat} (hj : (ops[j]?).bind (·.dst) = some g) :
    (∀ b, st.get g = .bool b → yielded ops a.tmps j = some b) ∧ (∀ vs, st.get g = .tuple vs → yielded ops a.tmps j = none) := by
  have hr := hC.fr g
  constructor
  · intro b hb
    rw [hb] at hr
    unfold yielded
    rw [hj]
    simp only [Option.bind_some]
    cases hg : a.tmps[g]? with
    | none =>
      have : a.tmps.getD g undef = undef := by simp [Array.getD_eq_getD_getElem?, hg]
      rw [this] at hr
      cases hr
    | some v =>
      have : a.tmps.getD g undef = v := by simp [Array.getD_eq_getD_getElem?, hg]
      rw [this] at hr
      cases hr
      rfl
  · intro vs hb
    rw [hb] at hr
    unfold yielded
    rw [hj]
    simp only [Option.bind_some]
    cases hg : a.tmps[g]? with
    | none => rfl
    | some v =>
      have : a.tmps.getD g undef = v := by simp [Array.getD_eq_getD_getElem?, hg]
      rw [this] at hr
      cases hr
      rfl

/-- An operation, be it wanted or not: from here on. -/
theorem opsV_sound {P : Program} {cfg : Cfg} (ho : OrcOk P cfg) {ops : Array Oper} {Q : Exit → Act → World → Prop} : ∀ (l : List Oper) (i : Nat) (K : St → Prop) (st : St), (∀ j, l[j]? = ops[i + j]?) → opsV P cfg ops l K st → ∀ {γ : Gh} {w : World} {a : Act}, Conc γ w a st →
    (∀ γ' w' a' st', Conc γ' w' a' st' → EvoS γ w st γ' w' st' → K st' → Q .normal a' w') → wpOps P ops Q (List.range' i l.length) a w
  | [], i, K, st, _, h, γ, w, a, hC, hQ => hQ _ _ _ _ hC (Evo.refl _ _ _ _) h
  | o :: l, i, K, st, hl, h, γ, w, a, hC, hQ => by
    have h0 : ops[i]? = some o := by have := hl 0; simpa using this.symm
    have hl' : ∀ j, l[j]? = ops[i + 1 + j]? := fun j => by have := hl (j + 1); simpa [Nat.add_assoc, Nat.add_comm 1 j] using this
    have rest : ∀ γ1 w1 a1 st1, Conc γ1 w1 a1 st1 → EvoS γ w st γ1 w1 st1 → opsV P cfg ops l K st1 → wpOps P ops Q (List.range' (i + 1) l.length) a1 w1 := fun γ1 w1 a1 st1 hC1 hE1 hV1 =>
      opsV_sound ho l (i + 1) K st1 hl' hV1 hC1 fun γ' w' a' st' c1 c2 c3 => hQ _ _ _ _ c1 (hE1.trans c2) c3
    have run : ∀ st0, Conc γ w a st0 → (EvoS γ w st γ w st0) → opV P cfg o (opsV P cfg ops l K) st0 → o.wp P a w (wpOps P ops Q (List.range' (i + 1) l.length)) Q := fun st0 hC0 hE0 hV0 =>
      opV_sound ho hV0 hC0 fun γ' w' a' st' c1 c2 c3 => rest _ _ _ _ c1 (hE0.trans c2) c3
    have skip : ∀ st0, Conc γ w a st0 → (EvoS γ w st γ w st0) → skipV cfg o (opsV P cfg ops l K) st0 → wpOps P ops Q (List.range' (i + 1) l.length) (a.put o.dst undef) w := fun st0 hC0 hE0 hV0 => by
      obtain ⟨st', c1, c2, c3⟩ := skipV_sound hV0 hC0
      exact rest _ _ _ _ c1 (hE0.trans c2) c3
    have hE : EvoS γ w st γ w st := Evo.refl _ _ _ _
    simp only [List.length_cons, List.range'_succ]
    unfold wpOps
    rw [h0]
    simp only []
    unfold opsV at h
    split at h
    · rename_i hg
      have hw : Region.wanted o (yielded ops a.tmps) = true := by simp [Region.wanted, hg]
      rw [if_pos hw]
      exact .inl (run st hC hE h)
    · rename_i j want hg
      split at h
      · rename_i hj
        have hw : ¬ Region.wanted o (yielded ops a.tmps) = true := by simp [Region.wanted, hg, yielded, hj]
        rw [if_neg hw]
        exact skip st hC hE h
      · rename_i g hj
        obtain ⟨y1, y2⟩ := yielded_of hC hj
        split at h
        · rename_i b hb
          have hy := y1 b hb
          by_cases hbw : b = want
          · have hw : Region.wanted o (yielded ops a.tmps) = true := by simp [Region.wanted, hg, hy, hbw]
            rw [if_pos hw]
            refine .inl (run _ (hC.putSame cfg.keep (by rw [hb, hbw])) ?_ ((brV_iff.1 h).1 hbw))
            exact EvoS.put (st' := st) (Evo.refl _ _ _ _) (St.put_objAt _ _ _ _) (St.put_σ _ _ _ _)
          · have hw : ¬ Region.wanted o (yielded ops a.tmps) = true := by simp [Region.wanted, hg, hy, hbw]
            rw [if_neg hw]
            have hbn : b = !want := by cases b <;> cases want <;> simp at hbw ⊢
            refine skip _ (hC.putSame cfg.keep (by rw [hb, hbn])) ?_ ((brV_iff.1 h).2 hbn)
            exact EvoS.put (st' := st) (Evo.refl _ _ _ _) (St.put_objAt _ _ _ _) (St.put_σ _ _ _ _)
        · rename_i vs hb
          have hy := y2 vs hb
          have hw : ¬ Region.wanted o (yielded ops a.tmps) = true := by simp [Region.wanted, hg, hy]
          rw [if_neg hw]
          exact skip st hC hE h
        · exact h.elim

end
end Go.AL
