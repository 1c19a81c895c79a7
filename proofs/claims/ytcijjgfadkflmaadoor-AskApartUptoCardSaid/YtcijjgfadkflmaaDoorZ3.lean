/-
  The texts A9, A10, A11, A12, A13, A14 of this seat, one behind the other.
-/
import Derived.Test.YtcijjgfadkflmaaDoorZ2
import Derived.Laws.Cover3
import Derived.Lib.SlBytesConst
import Derived.Laws.Externs
import Derived.ProofKit
import Derived.OpenShut
import Derived.ChangeSame
import Derived.SizedLaws
import Derived.JoinedOf
import Derived.JoinedCond
import Derived.Deep.CondSized

section
namespace Go.AL
noncomputable section
set_option linter.unusedSimpArgs false
set_option linter.unusedVariables false

def Sto.O (σ : Sto) : Oid → Option AObj
  | .loc _ => none
  | .out n => σ.obj n

def ACall (P : Program) (f : FuncId) (args : List AVal) (σ : Sto) (Q : AVal → Sto → Prop) : Prop :=
  ∀ (γ : Gh) (w : World) (vs : List Value), Inv γ w σ.O σ.own σ.nobj σ.nown → RepL γ w false args vs → Calls P f vs.toArray w fun e w' =>
    ∃ v r γ' σ', e = .returned v ∧ Rep γ' w' false r v ∧ Inv γ' w' σ'.O σ'.own σ'.nobj σ'.nown ∧ Evo γ w σ.O σ.own γ' w' σ'.O σ'.own ∧ Q r σ'

theorem ACall.mono {P : Program} {f : FuncId} {args : List AVal} {σ : Sto} {Q Q' : AVal → Sto → Prop} (h : ACall P f args σ Q) (hq : ∀ r σ', Q r σ' → Q' r σ') : ACall P f args σ Q' :=
  fun γ w vs hi hr => (h γ w vs hi hr).mono fun _ _ ⟨v, r, γ', σ', h1, h2, h3, h4, h5⟩ => ⟨v, r, γ', σ', h1, h2, h3, h4, hq _ _ h5⟩

def isGo (P : Program) (f : FuncId) : Bool :=
  match P.funcs[f]? with
  | some fn => !(fn.name == "runtime.NumGoroutine") && fn.body.isSome
  | none => false

theorem Inv.sub {γ : Gh} {w : World} {O O' : Oid → Option AObj} {W : Nat → Option Nat} {no nw : Nat} (h : Inv γ w O W no nw) (hs : ∀ i x, O' i = some x → O i = some x) : Inv γ w O' W no nw :=
  ⟨h.imm, fun i x hx => h.obj i x (hs i x hx), fun i j x y b hx hy => h.inj i j x y b (hs i x hx) (hs j y hy), h.own, h.ownInj, fun i x p n b hx => h.apart i x p n b (hs i x hx), h.freshO, h.freshW, h.amb⟩

theorem Mut.sub {γ : Gh} {O O' : Oid → Option AObj} {W : Nat → Option Nat} (hs : ∀ i x, O' i = some x → O i = some x) {b : Nat} (h : Mut γ O' W b) : Mut γ O W b := by
  rcases h with ⟨i, x, hx, hb⟩ | h
  · exact .inl ⟨i, x, hs i x hx, hb⟩
  · exact .inr h

theorem Sto.O_sub (st : St) : ∀ i x, st.σ.O i = some x → st.objAt i = some x := by
  intro i x h
  cases i with
  | loc k => cases h
  | out n => exact h

theorem Conc.afterCall {γ γ' : Gh} {w w' : World} {a : Act} {st : St} (hC : Conc γ w a st) {σ' : Sto} (hi : Inv γ' w' σ'.O σ'.own σ'.nobj σ'.nown) (he : Evo γ w st.σ.O st.σ.own γ' w' σ'.O σ'.own) :
    ∃ γ2, Conc γ2 w' a { st with σ := σ' } ∧ EvoS γ w st γ2 w' { st with σ := σ' } ∧ ∀ r v, Rep γ' w' false r v → Rep γ2 w' true r v := by
  have eO : ∀ i, St.objAt { st with σ := σ' } i = match i with | .loc k => st.objAt (.loc k) | .out n => σ'.obj n := fun i => by cases i <;> rfl
  -- the caller's own blocks are none of the callee's
  have hloc : ∀ k x b, st.objAt (.loc k) = some x → γ.obj (.loc k) = some b → b < w.heap.size ∧ ¬ Mut γ st.σ.O st.σ.own b ∧ ∀ o, ¬ γ.imm b o := fun k x b hx hb => by
    have hok := hC.inv.objb hx hb
    refine ⟨hok.lt, fun hm => ?_, hok.notImm⟩
    rcases hm with ⟨i, y, hy, hbi⟩ | ⟨p, n, hp, hbp⟩
    · have := hC.inv.inj (.loc k) i x y b hx (Sto.O_sub st i y hy) hb hbi
      subst this
      cases hy
    · exact hC.inv.apart (.loc k) x p n b hx hp hb hbp
  have hlocM : ∀ k x b, st.objAt (.loc k) = some x → γ.obj (.loc k) = some b → ¬ Mut γ' σ'.O σ'.own b := fun k x b hx hb hm => by
    obtain ⟨h1, h2, _⟩ := hloc k x b hx hb
    rcases he.mutd b hm with h3 | h3
    · exact h2 h3
    · omega
  let γ2 : Gh := { γ' with obj := fun i => match i with | .loc k => γ.obj (.loc k) | .out n => γ'.obj (.out n) }
  have e1 : Ext true γ w γ2 w' := ⟨he.ext.imm, fun i b _ hb => by
    cases i with
    | loc k => exact hb
    | out n => exact he.ext.obj (.out n) b (.inr rfl) hb, he.ext.own⟩
  have e2 : Ext false γ' w' γ2 w' := ⟨fun b o h => ⟨h, rfl⟩, fun i b hl hb => by
    cases i with
    | loc k => rcases hl with h | h <;> cases h
    | out n => exact hb, fun p => OwnStep.refl _⟩
  have hsub : ∀ i x, st.σ.O i = some x → st.objAt i = some x := Sto.O_sub st
  refine ⟨γ2, ⟨hC.size, fun t => Rep.mono e1 (hC.fr t), hC.defers, ⟨hi.imm, fun i x hx => ?_, fun i j x y b hx hy hbi hbj => ?_, fun p n hp => ?_, hi.ownInj, fun i x p n b hx hp hbi hbp => ?_, hi.freshO, hi.freshW, hi.amb⟩⟩,
    ⟨he.os, he.tape, he.output, he.size, fun b hb hm => he.old b hb (fun h => hm (Mut.sub hsub h)), e1.weak, fun b o h => (he.new b o h).imp_right (.imp_right (Mut.sub hsub)), fun b hm => ?_⟩, fun r v hr => Rep.weaken (Rep.mono e2 hr) true⟩
  · cases i with
    | loc k =>
      have hx : st.objAt (.loc k) = some x := hx
      rcases hC.inv.obj _ _ hx with ⟨j, s, h1, _⟩ | ⟨b, hb, hok⟩
      · cases h1
      obtain ⟨h1, h2, h3⟩ := hloc k x b hx hb
      refine .inr ⟨b, hb, hok.mono e1 (he.old b h1 h2) (fun o h => ?_)⟩
      rcases he.new b o h with h4 | h4 | h4
      · exact h3 o h4
      · omega
      · exact h2 h4
    | out n =>
      rcases hi.obj (.out n) x hx with ⟨j, s, h1, h2, h3, h4⟩ | ⟨b, hb, hok⟩
      · cases h1
        exact .inl ⟨_, s, rfl, h2, h3, h4⟩
      exact .inr ⟨b, hb, hok.mono e2 rfl hok.notImm⟩
  · cases i with
    | loc k =>
      cases j with
      | loc k2 => exact hC.inv.inj _ _ x y b hx hy hbi hbj
      | out n => exact absurd (.inl ⟨.out n, y, hy, hbj⟩) (hlocM k x b hx hbi)
    | out n =>
      cases j with
      | loc k2 => exact absurd (.inl ⟨.out n, x, hx, hbi⟩) (hlocM k2 y b hy hbj)
      | out n2 => exact hi.inj (.out n) (.out n2) x y b hx hy hbi hbj
  · exact (hi.own p n hp).mono (fun _ _ => rfl) (fun _ _ _ h => h)
  · cases i with
    | loc k => exact hlocM k x b hx hbi (.inr ⟨p, n, hp, hbp⟩)
    | out m => exact hi.apart (.out m) x p n b hx hp hbi hbp
  · rcases hm with ⟨i, x, hx, hb⟩ | ⟨p, n, hp, hb⟩
    · cases i with
      | loc k => exact .inl (.inl ⟨.loc k, x, hx, hb⟩)
      | out n =>
        rcases he.mutd b (.inl ⟨.out n, x, hx, hb⟩) with h | h
        · exact .inl (Mut.sub hsub h)
        · exact .inr h
    · rcases he.mutd b (.inr ⟨p, n, hp, hb⟩) with h | h
      · exact .inl (Mut.sub hsub h)
      · exact .inr h

def calleeA (f : AVal) (args : List AVal) : Option (FuncId × List AVal) :=
  match f with
  | .func (.func g) first cap => some (g, first ++ args ++ cap)
  | _ => none

theorem execOp_call {P : Program} {γ : Gh} {w : World} {a : Act} {st : St} (hC : Conc γ w a st) {o : Oper} {f : Operand} {args : Array Operand} {ts : Array TypeId} (ho : o.op = .call ⟨.value f, args, ts⟩) {g : FuncId} {xs : List AVal}
    (hc : calleeA (st.eval f) (args.toList.map st.eval) = some (g, xs)) (hg : isGo P g = true) (hl : noLocL xs = true) :
    ∃ vs, (execOp a.eval o).run P w = .ok (.enter g vs.toArray) w ∧ RepL γ w false xs vs := by
  have hf := hC.eval f
  have ha := RepL.map (fun x => hC.eval x) args.toList
  unfold calleeA at hc
  split at hc
  · rename_i g' first cap hfe
    simp only [Option.some.injEq, Prod.mk.injEq] at hc
    obtain ⟨rfl, rfl⟩ := hc
    rw [hfe] at hf
    generalize hfv : a.eval f = fv at hf
    cases hf with
    | func h1 h2 =>
      rename_i fs cs
      refine ⟨fs ++ args.toList.map a.eval ++ cs, ?_, RepL.noLoc (RepL.append h2 (RepL.append ha h1)) hl⟩
      unfold isGo at hg
      split at hg
      · rename_i fn hfn
        simp only [Bool.and_eq_true, Bool.not_eq_true'] at hg
        have hb : ¬ fn.body = none := by
          intro e
          rw [e] at hg
          simp at hg
        have e1 : fs.toArray ++ (args.map a.eval ++ cs.toArray) = (fs ++ (args.toList.map a.eval ++ cs)).toArray := Array.ext' (by simp)
        have hn : ¬ fn.name = "runtime.NumGoroutine" := by simpa using hg.1
        simp [execOp, ho, resolve, hfv, Deferred.ofValue, invoke, callFunc, hfn, hn, hb, e1]
      · cases hg
  · cases hc

def Does2 (P : Program) (o : Oper) (cfg : Cfg) (st : St) (K : St → Prop) : Prop :=
  ∀ (γ : Gh) (w : World) (a : Act), Conc γ w a st → ∀ Q : Exit → Act → World → Prop, o.wp P a w (fun a' w' => ∃ γ' st', Conc γ' w' a' st' ∧ EvoS γ w st γ' w' st' ∧ K st') Q

/-! ### Conditions -/

def gb (b : Bool) (X : Prop) : Prop := match b with | true => X | false => False
def fok (st : St) : Option Nat → Bool
  | some d => Nat.blt d st.n
  | none => true

theorem gb_iff {b : Bool} {X : Prop} : gb b X ↔ b = true ∧ X := by cases b <;> simp [gb]
theorem fok_fin {st : St} {dst : Option Nat} (h : fok st dst = true) (cfg : Cfg) (v : AVal) : (st.fin cfg dst v).1 := by
  cases dst with
  | none => rfl
  | some d => exact decide_eq_true (Nat.blt_eq.mp h)

def PCall (P : Program) (g : FuncId) (xs : List AVal) (v : AVal) : Prop := ∀ σ, ACall P g xs σ fun r τ => r = v ∧ τ = σ
def WCall (P : Program) (g : FuncId) (xs : List AVal) (v : AVal) (own : Nat → Option Nat) (nown : Nat) (ow : Nat → Option Nat) (nw : Nat) : Prop :=
  ∀ σ : Sto, σ.own = own → σ.nown = nown → ACall P g xs σ fun r τ => r = v ∧ τ = { σ with own := ow, nown := nw }
def FCall (P : Program) (g : FuncId) (xs : List AVal) (σ : Sto) (v : AVal) (σ' : Sto) : Prop := ACall P g xs σ fun r τ => r = v ∧ τ = σ'

def St.setσ (st : St) (σ : Sto) : St := { st with σ := σ }

structure Pan (γ : Gh) (w : World) (O : Oid → Option AObj) (W : Nat → Option Nat) (w' : World) : Prop where
  os : w'.os = w.os
  tape : w'.tape = w.tape
  output : w'.output = w.output
  size : w.heap.size ≤ w'.heap.size
  old : ∀ b, b < w.heap.size → ¬ Mut γ O W b → w'.heap[b]? = w.heap[b]?
def okCh (ch : List PanicEntry) : Prop := ∃ u pv, ch = [{ v := .iface u pv, recovered := false }]
def XPan (P : Program) (g : FuncId) (xs : List AVal) (σ : Sto) : Prop :=
  ∀ (γ : Gh) (w : World) (vs : List Value), Inv γ w σ.O σ.own σ.nobj σ.nown → RepL γ w false xs vs → Calls P g vs.toArray w fun e w' => ∃ ch, e = .panicked ch ∧ okCh ch ∧ Pan γ w σ.O σ.own w'
def PanS (γ : Gh) (w : World) (st : St) (w' : World) : Prop := Pan γ w st.objAt st.σ.own w'
theorem Pan.sub {γ : Gh} {w w' : World} {O O' : Oid → Option AObj} {W : Nat → Option Nat} (h : Pan γ w O W w') (hs : ∀ i x, O i = some x → O' i = some x) : Pan γ w O' W w' :=
  ⟨h.os, h.tape, h.output, h.size, fun b hb hm => h.old b hb fun hm' => hm (Mut.sub hs hm')⟩
theorem PanS.trans {γ γ1 : Gh} {w w1 w2 : World} {st st1 : St} (h : EvoS γ w st γ1 w1 st1) (k : PanS γ1 w1 st1 w2) : PanS γ w st w2 :=
  ⟨k.os.trans h.os, k.tape.trans h.tape, k.output.trans h.output, Nat.le_trans h.size k.size, fun b hb hm => (k.old b (Nat.lt_of_lt_of_le hb h.size) (fun hm' => by
    rcases h.mutd b hm' with h1 | h1
    · exact hm h1
    · omega)).trans (h.old b hb hm)⟩
theorem PanS.self {γ : Gh} {w : World} {st : St} : PanS γ w st w := ⟨rfl, rfl, rfl, Nat.le_refl _, fun _ _ _ => rfl⟩
def PanOK (cfg : Cfg) (γ : Gh) (w : World) (st : St) (Q : Exit → Act → World → Prop) : Prop :=
  cfg.pan → ∀ a' ch w', a'.defers = [] → okCh ch → PanS γ w st w' → Q (.panic ch) a' w'
theorem PanOK.trans {cfg : Cfg} {γ γ1 : Gh} {w w1 : World} {st st1 : St} {Q : Exit → Act → World → Prop} (h : PanOK cfg γ w st Q) (e : EvoS γ w st γ1 w1 st1) : PanOK cfg γ1 w1 st1 Q :=
  fun hp a' ch w' h1 h2 h3 => h hp a' ch w' h1 h2 (PanS.trans e h3)
def ansOk (P : Program) (g : FuncId) (xs : List AVal) (σ : Sto) : Ans → Prop
  | .pure c v => c = true → PCall P g xs v
  | .own c v ow nw => c = true → WCall P g xs v σ.own σ.nown ow nw
  | .full c v σ' => c = true → FCall P g xs σ v σ'
  | .nm x f => ansOk P g xs σ (f x)
  | .br b x y => (b = true → ansOk P g xs σ x) ∧ (b = false → ansOk P g xs σ y)
  | .pan c b _ x => c = true → (b = true → XPan P g xs σ) ∧ (b = false → ansOk P g xs σ x)
def OvOk (P : Program) (g : FuncId) : Prop := ∃ fn T e inf, P.funcs[g]? = some fn ∧ (fn.name == "runtime.NumGoroutine") = false ∧ fn.body.isNone = true ∧ Extern.findNext fn = none ∧
  Extern.find fn = some (Extern.SlicesOverlaps.overlaps fn.params fn.resultTypes) ∧ fn.params[0]? = some T ∧ P.underlying T = some (.slice e) ∧ P.info? e = some inf
structure OrcOk (P : Program) (cfg : Cfg) : Prop where
  call : ∀ (g : FuncId) (xs : List AVal) (σ : Sto), match cfg.orc g xs σ with
    | some a => ansOk P g xs σ a
    | none => True
  ext : ∀ g, cfg.ext g = true → OvOk P g
theorem OrcOk.of_none {P : Program} {cfg : Cfg} (h : cfg.orc = fun _ _ _ => none) (hx : cfg.ext = fun _ => false := by rfl) : OrcOk P cfg := ⟨fun g xs σ => by rw [h]; trivial, fun g hg => by rw [hx] at hg; cases hg⟩

def brV (b want : Bool) (A B : Prop) : Prop :=
  match b with
  | true => (match want with | true => A | false => B)
  | false => (match want with | true => B | false => A)

theorem brV_iff {b want : Bool} {A B : Prop} : brV b want A B ↔ (b = want → A) ∧ (b = (!want) → B) := by cases b <;> cases want <;> simp [brV]

def ansV (cfg : Cfg) (dst : Option Nat) (K : St → Prop) (st : St) : Ans → Prop
  | .pure c v => gb c (K (st.fin cfg dst v).2)
  | .own c v ow nw => gb c (K ((st.setσ { st.σ with own := ow, nown := nw }).fin cfg dst v).2)
  | .full c v σ' => gb c (K ((st.setσ σ').fin cfg dst v).2)
  | .nm x f => ∀ y, y = x → ansV cfg dst K st (f y)
  | .br b x y => brV b true (ansV cfg dst K st x) (ansV cfg dst K st y)
  | .pan c b _ x => gb c (brV b true cfg.pan (ansV cfg dst K st x))
def callV (P : Program) (cfg : Cfg) (dst : Option Nat) (f : AVal) (args : List AVal) (K : St → Prop) (st : St) : Prop :=
  match calleeA f args with
  | some (g, xs) => gb (fok st dst && (isGo P g && noLocL xs)) (
    match cfg.orc g xs st.σ with
    | some a => ansV cfg dst K st a
    | none => ACall P g xs st.σ fun r σ' => K ((st.setσ σ').fin cfg dst r).2)
  | none => False

theorem ansV_acall {P : Program} {cfg : Cfg} {dst : Option Nat} {K : St → Prop} {st : St} {g : FuncId} {xs : List AVal} (k2 : fok st dst = true) :
    ∀ (a : Ans), ansOk P g xs st.σ a → ansV cfg dst K st a → (ACall P g xs st.σ fun r σ' => (({ st with σ := σ' } : St).fin cfg dst r).1 ∧ K (({ st with σ := σ' } : St).fin cfg dst r).2) ∨ (cfg.pan ∧ XPan P g xs st.σ) := by
  have hf : ∀ (σ' : Sto), fok st dst = true → fok ({ st with σ := σ' } : St) dst = true := fun σ' h => h
  intro a
  induction a with
  | pure c v =>
    intro hok h
    obtain ⟨h1, h3⟩ := gb_iff.1 h
    refine .inl (((hok h1) st.σ).mono ?_)
    rintro r τ ⟨rfl, rfl⟩
    exact ⟨fok_fin (hf _ k2) cfg _, h3⟩
  | own c v ow nw =>
    intro hok h
    obtain ⟨h1, h3⟩ := gb_iff.1 h
    refine .inl (((hok h1) st.σ rfl rfl).mono ?_)
    rintro r τ ⟨rfl, rfl⟩
    exact ⟨fok_fin (hf _ k2) cfg _, h3⟩
  | full c v σ' =>
    intro hok h
    obtain ⟨h1, h3⟩ := gb_iff.1 h
    refine .inl (ACall.mono (hok h1) ?_)
    rintro r τ ⟨rfl, rfl⟩
    exact ⟨fok_fin (hf _ k2) cfg _, h3⟩
  | nm x f ih =>
    intro hok h
    exact ih x hok (h x rfl)
  | br b x y ihx ihy =>
    intro hok h
    cases b with
    | true => exact ihx (hok.1 rfl) ((brV_iff.1 h).1 rfl)
    | false => exact ihy (hok.2 rfl) ((brV_iff.1 h).2 rfl)
  | pan c b bad x ih =>
    intro hok h
    obtain ⟨hc, h⟩ := gb_iff.1 h
    cases b with
    | true => exact .inr ⟨(brV_iff.1 h).1 rfl, (hok hc).1 rfl⟩
    | false => exact ih ((hok hc).2 rfl) ((brV_iff.1 h).2 rfl)

theorem callV_acall {P : Program} {cfg : Cfg} (ho : OrcOk P cfg) {dst : Option Nat} {f : AVal} {args : List AVal} {K : St → Prop} {st : St} (h : callV P cfg dst f args K st) :
    ∃ g xs, calleeA f args = some (g, xs) ∧ isGo P g = true ∧ noLocL xs = true ∧ ((ACall P g xs st.σ fun r σ' => (({ st with σ := σ' } : St).fin cfg dst r).1 ∧ K (({ st with σ := σ' } : St).fin cfg dst r).2) ∨ (cfg.pan ∧ XPan P g xs st.σ)) := by
  have hf : ∀ (σ' : Sto), fok st dst = true → fok ({ st with σ := σ' } : St) dst = true := fun σ' h => h
  unfold callV at h
  split at h
  · rename_i g xs hc
    obtain ⟨hb, h⟩ := gb_iff.1 h
    simp only [Bool.and_eq_true] at hb
    obtain ⟨k2, hg, hl⟩ := hb
    refine ⟨g, xs, hc, hg, hl, ?_⟩
    have hok := ho.call g xs st.σ
    split at h
    · rename_i a e
      rw [e] at hok
      exact ansV_acall k2 a hok h
    · exact .inl (ACall.mono h fun r τ hk => ⟨fok_fin (hf _ k2) cfg _, hk⟩)
  · exact h.elim

def nameV (cfg : Cfg) (dst : Option Nat) (v : AVal) (X : AVal → Prop) : Prop :=
  match dst with
  | some d =>
    match cfg.nmd.elem d with
    | true =>
      match v with
      | .int k n => ∀ m, m = n → X (.int k m)
      | .str s => ∀ m, m = s → X (.str m)
      | .bool b => ∀ m, m = b → X (.bool m)
      | v => X v
    | false => X v
  | none => X v
theorem nameV_elim {cfg : Cfg} {dst : Option Nat} {v : AVal} {X : AVal → Prop} (h : nameV cfg dst v X) : X v := by
  unfold nameV at h
  split at h
  · split at h
    · split at h
      · exact h _ rfl
      · exact h _ rfl
      · exact h _ rfl
      · exact h
    · exact h
  · exact h
def opP (P : Program) (cfg : Cfg) (o : Oper) (K : St → Prop) (st : St) : Prop :=
  match pureOp P st.eval st.objAt o.op with
  | some (p, v) => gb (fok st o.dst && p) (nameV cfg o.dst v fun v => K (st.fin cfg o.dst v).2)
  | none =>
    match effOp P cfg o st with
    | some (p, st') => gb p (K st')
    | none => False
def opW (P : Program) (cfg : Cfg) (o : Oper) (K : St → Prop) (st : St) : Prop :=
  match o.op with
  | .call ⟨.value f, args, _⟩ => callV P cfg o.dst (st.eval f) (args.toList.map st.eval) K st
  | .makeFunc _ _ c =>
    match o.dst with
    | some d =>
      match cfg.frz.elem d with
      | true => gb (St.freezeL (locsOf st c.toList) st).1 (opP P cfg o K (St.freezeL (locsOf st c.toList) st).2)
      | false => opP P cfg o K st
    | none => opP P cfg o K st
  | .panic x =>
    match st.eval x with
    | .iface _ _ => cfg.pan
    | _ => False
  | _ => opP P cfg o K st
def nilCmp (P : Program) (op : BinOp) (T : TypeId) (x y : AVal) : Option (Bool × List AVal × Bool) :=
  match P.underlying T, x, y with
  | some (.slice _), .slice es _ t, .slice [] 0 .nil =>
    match op with
    | .eql => some (true, es, t.isNil)
    | .neq => some (false, es, t.isNil)
    | _ => none
  | _, _, _ => none

def nilV (cfg : Cfg) (d : Option Nat) (pos : Bool) (es : List AVal) (nl : Bool) (K : St → Prop) (st : St) : Prop :=
  gb (fok st d) (∀ b : Bool, (b = true → es.isEmpty = true) → (nl = true → b = true) → K (st.fin cfg d (.bool (b == pos))).2)

/-! ### Appends that make a new array -/

def growA (P : Program) (cfg : Cfg) (st : St) (T d len m : Nat) (cs : List AVal) (k : Nat) : Option (Bool × St) :=
  match tElem P T with
  | some (e, n, _, _) =>
    match zeroV P e with
    | some z =>
      match decide (z.cells.length = n ∧ 0 < n) with
      | true =>
        match allocA cfg st d (.cells (cs ++ List.replicate (k * n) .undef)) (fun o => .arr o 0 (len + m) (len + m + k)) with
        | some (p, st') => some (p, st')
        | none => none
      | false => none
    | none => none
  | none => none

def growV (P : Program) (cfg : Cfg) (st : St) (T d len m : Nat) (cs : List AVal) (K : St → Prop) : Prop :=
  match tElem P T with
  | some (_, _, bs, _) => gb (hold (decide ((len + m) * bs ≤ 140737488355328 ∧ len + m ≤ 9223372036854775807))) (∀ k : Nat, len + m + k ≤ 9223372036854775807 → match growA P cfg st T d len m cs k with
    | some (p, st') => gb p (K st')
    | none => False)
  | none => False

def isIntT (P : Program) (T : TypeId) : Bool :=
  match P.underlying T with
  | some (.int .i64) => true
  | _ => false

def appV (P : Program) (cfg : Cfg) (o : Oper) (d s : AVal) (T T' : TypeId) (K : St → Prop) (KI : Prop) (st : St) : Option Prop :=
  match o.dst, tElem P T with
  | some dd, some (e, n, _, _) =>
    match d with
    | .arr oid off len cap =>
      match st.objAt oid with
      | some (.cells cs) =>
        match isIntT P T', s with
        | true, .int .i64 m =>
          match zeroV P e with
          | some z => some (gb (hold (decide (1 ≤ m ∧ m ≤ 1000000000000 ∧ cap < len + m.toNat)) && decide (off + len * n ≤ cs.length)) (growV P cfg st T dd len m.toNat ((cs.drop off).take (len * n) ++ flat (List.replicate m.toNat z)) K))
          | none => none
        | _, _ =>
          match srcC P st.objAt n T' s with
          | some (q, m, xs) => some (gb (q && decide (off + len * n ≤ cs.length)) (brV (hold (decide (len + m ≤ cap))) true KI (growV P cfg st T dd len m ((cs.drop off).take (len * n) ++ xs) K)))
          | none => none
      | _ => none
    | .slice es _ t =>
      match cfg.wr.elem dd, t, es with
      | true, .full, [] =>
        match srcC P st.objAt n T' s with
        | some (q, m, xs) => some (gb (q && Nat.blt dd st.n) (brV (hold (decide (m = 0))) true (K (st.fin cfg o.dst (.slice [] n .full)).2) (growV P cfg st T dd 0 m xs K)))
        | none => none
      | _, _, _ => none
    | _ => none
  | _, _ => none

def extV (cfg : Cfg) (st : St) (f : AVal) (xs : List AVal) : Option Bool :=
  match calleeA f xs with
  | some (g, [.slice es s _, .arr o off len _]) =>
    match cfg.ext g, st.objAt o with
    | true, some (.cells cs) => some (decide (0 < s ∧ off + len ≤ cs.length))
    | _, _ => none
  | _ => none

def decR (s : List UInt8) (pos : Nat) : Int := (Utf8.decode ⟨s.toArray⟩ pos).1
def decW (s : List UInt8) (pos : Nat) : Nat := (Utf8.decode ⟨s.toArray⟩ pos).2
def nextV (cfg : Cfg) (d : Option Nat) (o : Oid) (s : List UInt8) (pos : Nat) (K : St → Prop) (st : St) : Prop :=
  brV (hold (decide (pos < s.length))) true
    (gb (fok (st.setObj o (.siter s (pos + decW s pos))) d) (K ((st.setObj o (.siter s (pos + decW s pos))).fin cfg d (.tuple [.bool true, .int .i64 pos, .int .i32 (decR s pos)])).2))
    (gb (fok st d) (K (st.fin cfg d (.tuple [.bool false])).2))
def iterOf (lk : Oid → Option AObj) : AVal → Option (Oid × List UInt8 × Nat)
  | .ptr o 0 => match lk o with
    | some (.siter s pos) => some (o, s, pos)
    | _ => none
  | _ => none
def frlOf (cfg : Cfg) : Option Nat → Option (Nat × Nat)
  | some d => lookup cfg.frl d
  | none => none
def opV1 (P : Program) (cfg : Cfg) (o : Oper) (K : St → Prop) (st : St) : Prop :=
  match o.op with
  | .binOp op T x y _ =>
    match nilCmp P op T (st.eval x) (st.eval y) with
    | some (pos, es, nl) => nilV cfg o.dst pos es nl K st
    | none => opW P cfg o K st
  | .call ⟨.builtin .append, args, ts⟩ =>
    match args.toList, ts.toList with
    | [d, s], [T, T'] =>
      match appV P cfg o (st.eval d) (st.eval s) T T' K (opW P cfg o K st) st with
      | some X => X
      | none => opW P cfg o K st
    | _, _ => opW P cfg o K st
  | .call ⟨.value f, args, _⟩ =>
    match extV cfg st (st.eval f) (args.toList.map st.eval) with
    | some p => gb (fok st o.dst && p) (K (st.fin cfg o.dst (.bool false)).2)
    | none => opW P cfg o K st
  | .next it true =>
    match iterOf st.objAt (st.eval it) with
    | some (oid, s, pos) => nextV cfg o.dst oid s pos K st
    | none => opW P cfg o K st
  | _ => opW P cfg o K st
def opV (P : Program) (cfg : Cfg) (o : Oper) (K : St → Prop) (st : St) : Prop :=
  match frlOf cfg o.dst with
  | some (k, t) => gb (st.freezeS cfg.keep k t).1 (opV1 P cfg o K (st.freezeS cfg.keep k t).2)
  | none => opV1 P cfg o K st

theorem step_of {P : Program} {cfg : Cfg} {o : Oper} {K : St → Prop} {st : St} (h : opP P cfg o K st) : ∃ p st', stepOp P cfg o st = some (p, st') ∧ p = true ∧ K st' := by
  unfold opP at h
  unfold stepOp
  split at h
  · rename_i p v hp
    obtain ⟨h1, h2⟩ := gb_iff.1 h
    simp only [Bool.and_eq_true] at h1
    rw [hp]
    exact ⟨_, _, rfl, decide_eq_true ⟨h1.2, fok_fin h1.1 cfg v⟩, nameV_elim h2⟩
  · rename_i hp
    rw [hp]
    split at h
    · rename_i p st' he
      obtain ⟨h1, h2⟩ := gb_iff.1 h
      exact ⟨_, _, he, h1, h2⟩
    · exact h.elim

def skipV (cfg : Cfg) (o : Oper) (K : St → Prop) (st : St) : Prop := gb (fok st o.dst) (K (st.fin cfg o.dst (.tuple [])).2)

theorem skipV_iff {cfg : Cfg} {o : Oper} {K : St → Prop} {st : St} (h : skipV cfg o K st) : (st.fin cfg o.dst (.tuple [])).1 ∧ K (st.fin cfg o.dst (.tuple [])).2 :=
  ⟨fok_fin (gb_iff.1 h).1 cfg _, (gb_iff.1 h).2⟩

def litOf (P : Program) (cfg : Cfg) (o : Oper) (l : List Oper) : Option (TypeId × Nat × Array (Nat × Operand) × Nat × Nat) :=
  match o.op, o.dst, l with
  | .buildSlice T len ps, some d, o2 :: _ =>
    match o2.guard, o2.op, o2.dst with
    | none, .convert S D (.tmp d2), some d' => if d2 = d ∧ S = T ∧ D = T ∧ isBytes P T = true ∧ cfg.wr.elem d = false then some (T, len, ps, d, d') else none
    | _, _, _ => none
  | _, _, _ => none

def litA (P : Program) (cfg : Cfg) (st : St) (T len : Nat) (ps : List (Nat × AVal)) (d d' : Nat) : Option (Bool × St) :=
  match tElem P T with
  | some (e, n, _, _) =>
    match zeroV P e with
    | some z =>
      if z.cells.length = n ∧ elemsOk n len ps = true ∧ len * n ≤ 16777216 ∧ 0 < n then
        some (decide (noLocL (flat (setElems (List.replicate len z) ps)) = true ∧ d < st.n ∧ d' < st.n),
          (st.put cfg.keep d (.slice (setElems (List.replicate len z) ps) n .full)).put cfg.keep d' (.slice (setElems (List.replicate len z) ps) n .full))
      else none
    | none => none
  | none => none

theorem litOf_spec {P : Program} {cfg : Cfg} {o : Oper} {l : List Oper} {T len : Nat} {ps : Array (Nat × Operand)} {d d' : Nat} (h : litOf P cfg o l = some (T, len, ps, d, d')) :
    ∃ o2 r, l = o2 :: r ∧ o.op = .buildSlice T len ps ∧ o.dst = some d ∧ o2.guard = none ∧ o2.op = .convert T T (.tmp d) ∧ o2.dst = some d' ∧ isBytes P T = true := by
  unfold litOf at h
  split at h
  · rename_i T0 len0 ps0 d0 o2 r h1 h2
    split at h
    · rename_i S D d2 d'0 g1 g2 g3
      split at h
      · rename_i hc
        obtain ⟨rfl, rfl, rfl, hb, _⟩ := hc
        cases h
        exact ⟨o2, r, rfl, h1, h2, g1, g2, g3, hb⟩
      · cases h
    · cases h
  · cases h

theorem litA_sound {P : Program} {γ : Gh} {w : World} {a : Act} {st : St} (hC : Conc γ w a st) {cfg : Cfg} {T len : Nat} {ps : Array (Nat × Operand)} {d d' : Nat} {p : Bool} {st' : St}
    (h : litA P cfg st T len (ps.toList.map fun x => (x.1, st.eval x.2)) d d' = some (p, st')) (hp : p) (hbt : isBytes P T = true) :
    ∃ γ' w1 w2 u, (Instr.buildSlice T len (ps.map fun (i, x) => (i, a.eval x))).run P w = .ok u w1 ∧ (convert T T u).run P w1 = .ok u w2 ∧
      Conc γ' w2 ((a.put (some d) u).put (some d') u) st' ∧ EvoS γ w st γ' w2 st' ∧ d < a.tmps.size := by
  unfold litA at h
  split at h
  · rename_i e n bs zs he
    obtain ⟨inf, zv, g1, g2, g3, g4, g5, g6⟩ := tElem_spec he
    split at h
    · rename_i z hz
      obtain ⟨inf', zv', gi, gz, ga⟩ := zeroV_spec hz
      rw [g2] at gi; cases gi
      rw [g5] at gz; cases gz
      obtain ⟨_, r2, r3⟩ := absZ_spec ga γ w true
      split at h
      · rename_i hc
        obtain ⟨hzn, hok, hbig, hn⟩ := hc
        have hzs : zv.cells.size = n := by have := r2.length; simp at this; omega
        have hlist : (ps.map fun (i, x) => (i, a.eval x)).toList = ps.toList.map fun x => (x.1, a.eval x.2) := by simp
        generalize (ps.map fun (i, x) => (i, a.eval x)) = qs at hlist ⊢
        have hr0 : RepL γ w true (flat (List.replicate len z)) ((Array.range (len * n)).map (zv.cells[· % zv.cells.size]!)).toList := by
          rw [zeros_eq zv.cells n len hzs hn]
          exact replicate_flat r2 len
        have h10 : ∀ v ∈ ((Array.range (len * n)).map (zv.cells[· % zv.cells.size]!)).toList, v.oneCell' = true := by
          rw [zeros_eq zv.cells n len hzs hn]
          exact replicate_one r3 len
        obtain ⟨us, f1, f2, f3, f4, f5⟩ := setElems_sound (fun x => hC.eval x) (ps := ps.toList) (es := List.replicate len z) hok (by simp) (fun e he => by rw [List.eq_of_mem_replicate he]; exact hzn) hr0 h10
        have hrun : (Instr.buildSlice T len qs).run P w = .ok (.slice (some ⟨w.heap.size, 0, none⟩) len len) (w.alloc (.cells us.toList.toArray e)) := by
          have hb : ¬ 16777216 < len * n := by omega
          rw [← hlist] at f1
          by_cases hl0 : len * n = 0
          · have hl00 : len = 0 := by rcases Nat.mul_eq_zero.1 hl0 with h1 | h1 <;> omega
            subst hl00
            simp only [Nat.zero_mul] at f1
            have e0 : ∀ f : Nat → Value, (Array.range 0).map f = #[] := fun f => Array.ext' (by simp)
            rw [e0] at f1
            simp [Instr.buildSlice, run_underlying g1, sizeOf, typeInfo, g2, g3, e0, f1, newRow]
          · simp [Instr.buildSlice, run_underlying g1, sizeOf, typeInfo, g2, g3, hb, hl0, run_zeroValue g2 g5, f1, newRow]
        simp only [Option.some.injEq, Prod.mk.injEq] at h
        obtain ⟨rfl, rfl⟩ := h
        replace hp := of_decide_eq_true hp
        obtain ⟨hl, hd, hd'⟩ := hp
        obtain ⟨e', b1, b2⟩ := isBytes_spec hbt
        rw [g1] at b1
        cases b1
        have f2' := RepL.noLoc f2 hl
        have hconv := Go.Lib.run_convert_bytes_const w T e us.toList.toArray len len g1 b2
        obtain ⟨c1, c2, c3⟩ := hC.allocImm us.toList e (us.toList.toArray.size, us.toList.toArray.size + 1)
        have hrep := Rep.sliceRow (γ := γ.addImm w.heap.size us.toList.length) (l := true) (tag := .full) (cap := len) (RepL.mono c3.weak f2') f4 (cellsAt_new us.toList e (us.toList.toArray.size, us.toList.toArray.size + 1)) f3 (by omega) (by simp [maxLen]; have : len ≤ len * n := Nat.le_mul_of_pos_right len hn; omega) (by simp [tagRow, f5])
        rw [f5] at hrep
        refine ⟨_, _, _, _, hrun, hconv, (c1.put cfg.keep hd hrep).put cfg.keep (by simpa using hd') hrep, ?_, by rw [hC.size]; exact hd⟩
        exact (c2.put (St.put_objAt _ _ _ _) (St.put_σ _ _ _ _)).put (St.put_objAt _ _ _ _) (St.put_σ _ _ _ _)
      · cases h
    · cases h
  · cases h

def opsV (P : Program) (cfg : Cfg) (ops : Array Oper) : List Oper → (St → Prop) → St → Prop
  | [], K, st => K st
  | o :: rest, K, st =>
    match o.guard with
    | none =>
      match litOf P cfg o rest with
      | none => opV P cfg o (opsV P cfg ops rest K) st
      | some (T, len, ps, d, d') =>
        match litA P cfg st T len (ps.toList.map fun x => (x.1, st.eval x.2)) d d' with
        | none => False
        | some (p, st') =>
          match rest with
          | [] => False
          | _ :: r => gb p (opsV P cfg ops r K st')
    | some (j, want) =>
      match (ops[j]?).bind (·.dst) with
      | none => skipV cfg o (opsV P cfg ops rest K) st
      | some g =>
        match st.get g with
        | .bool b => brV b want (opV P cfg o (opsV P cfg ops rest K) (st.put cfg.keep g (.bool want))) (skipV cfg o (opsV P cfg ops rest K) (st.put cfg.keep g (.bool (!want))))
        | .tuple _ => skipV cfg o (opsV P cfg ops rest K) st
        | _ => False

theorem Does.wp {P : Program} {γ : Gh} {w : World} {a : Act} {o : Oper} {st st' : St} (h : Does P γ w a o st st') {next : Act → World → Prop} {Q : Exit → Act → World → Prop}
    (hn : ∀ γ' w' a', Conc γ' w' a' st' → EvoS γ w st γ' w' st' → next a' w') : o.wp P a w next Q := by
  obtain ⟨γ', w', u, hr, hC, hE⟩ := h
  unfold Oper.wp
  rcases hr with hr | ⟨hr, rfl⟩
  · rw [hr]; exact hn _ _ _ hC hE
  · rw [hr]; exact hn _ _ _ hC hE

theorem opW_sound {P : Program} {cfg : Cfg} (ho' : OrcOk P cfg) {o : Oper} {K : St → Prop} {st : St} (h : opW P cfg o K st) {γ : Gh} {w : World} {a : Act} (hC : Conc γ w a st) {next : Act → World → Prop} {Q : Exit → Act → World → Prop}
    (hn : ∀ γ' w' a' st', Conc γ' w' a' st' → EvoS γ w st γ' w' st' → K st' → next a' w') (hp : PanOK cfg γ w st Q) : o.wp P a w next Q := by
  unfold opW at h
  split at h
  · rename_i f args ts ho
    obtain ⟨g, xs, hc, hg, hl, hA⟩ := callV_acall ho' h
    obtain ⟨vs, hrun, hr⟩ := execOp_call hC ho hc hg hl
    unfold Oper.wp
    rw [hrun]
    rcases hA with hA | ⟨hpan, hX⟩
    · have hcall := hA γ w vs (hC.inv.sub (Sto.O_sub st)) hr
      refine hcall.mono fun e w' ⟨v, r, γ', σ', he, hrep, hi, hev, hd, hK⟩ => ?_
      subst he
      obtain ⟨γ2, c1, c2, c3⟩ := hC.afterCall hi hev
      exact hn _ _ _ _ (c1.fin cfg hd (c3 r v hrep)) (c2.put (fin_objAt _ _ _ _) (fin_σ _ _ _ _)) hK
    · have hcall := hX γ w vs (hC.inv.sub (Sto.O_sub st)) hr
      refine hcall.mono fun e w' ⟨ch, he, hch, hq⟩ => ?_
      subst he
      exact hp hpan _ _ _ hC.defers hch (hq.sub (Sto.O_sub st))
  · have plain : opP P cfg o K st → o.wp P a w next Q := fun h => by
      obtain ⟨p, st', hs, h1, h2⟩ := step_of h
      exact (stepOp_sound hC hs h1).wp fun γ' w' a' c1 c2 => hn _ _ _ _ c1 c2 h2
    split at h
    · split at h
      · obtain ⟨h1, h2⟩ := gb_iff.1 h
        obtain ⟨γ1, c1, e1⟩ := hC.freezeL _ h1
        obtain ⟨p, st', hs, h3, h4⟩ := step_of h2
        exact (stepOp_sound c1 hs h3).wp fun γ' w' a' c2 e2 => hn _ _ _ _ c2 (e1.trans e2) h4
      · exact plain h
    · exact plain h
  · rename_i x ho
    split at h
    · rename_i T v hx
      have hr := hC.eval x
      rw [hx] at hr
      obtain ⟨u, pv, hu⟩ : ∃ u pv, a.eval x = .iface u pv := by
        generalize a.eval x = y at hr
        cases hr
        exact ⟨_, _, rfl⟩
      have e1 : (execOp a.eval o).run P w = .halt (.panic (.iface u pv)) w := by
        simp [execOp, ho, hu, Instr.panic]
      unfold Oper.wp
      rw [e1]
      exact hp h _ _ _ hC.defers ⟨u, pv, rfl⟩ PanS.self
    · exact h.elim
  · obtain ⟨p, st', hs, h1, h2⟩ := step_of h
    exact (stepOp_sound hC hs h1).wp fun γ' w' a' c1 c2 => hn _ _ _ _ c1 c2 h2

theorem run_eql_slice_nil' {P : Program} (w : World) (t e : TypeId) (a : Option Addr) (l c : Nat) (h : P.underlying t = some (.slice e)) : (binOp .eql t (.slice a l c) (.slice none 0 0)).run P w = .ok (.bool a.isNone) w := by
  have := run_equal_slice_nil w t e a l c h
  simp only [binOp]
  simp [this]

theorem RepL.undefs (γ : Gh) (w : World) (l : Bool) : ∀ (vs : List Value) (n : Nat), vs.length = n → RepL γ w l (List.replicate n .undef) vs
  | [], 0, _ => .nil _
  | v :: vs, n + 1, h => .cons (.undef _ _) (RepL.undefs γ w l vs n (by simpa using h))
  | [], n + 1, h => by cases h
  | _ :: _, 0, h => by cases h

theorem Op.appendRun {P : Program} {w : World} {a : Act} {o : Oper} {d s : Operand} {T T' : TypeId} (ho : o.op = .call ⟨.builtin .append, #[d, s], #[T, T']⟩) {v : Value} {w' : World}
    (hr : (Builtin.append_ #[T, T'] o.type #[a.eval d, a.eval s]).run P w = .ok v w') : (execOp a.eval o).run P w = .ok (.value v) w' := by
  simp [execOp, ho, resolve, invoke, builtin, hr]

theorem growA_sound {P : Program} {γ : Gh} {w : World} {a : Act} {st : St} (hC : Conc γ w a st) {cfg : Cfg} {o : Oper} {T e n bs dd len m : Nat} {zs : List Value} (he : tElem P T = some (e, n, bs, zs)) (hd : o.dst = some dd)
    {cs : List AVal} {news : List Value} (hr : RepL γ w true cs news) (h1 : ∀ v ∈ news, v.oneCell' = true) {inf : TypeInfo} {z : Value} (hi : P.info? e = some inf) (hz : inf.zero = some z)
    {gc : Nat} (hgc : len + m ≤ gc) (hrun : (execOp a.eval o).run P w = .ok (.value (.slice (some ⟨w.heap.size, 0, none⟩) (len + m) gc)) (w.drew.alloc (.cells (news.toArray ++ Builtin.zeroCells z.cells (gc - (len + m))) e)))
    {p : Bool} {st' : St} (h : growA P cfg st T dd len m cs (gc - (len + m)) = some (p, st')) (hp : p) : Does P γ w a o st st' := by
  unfold growA at h
  rw [he] at h
  simp only [] at h
  split at h
  · rename_i zv hzv
    split at h
    · rename_i hzn
      have hzn := of_decide_eq_true hzn
      split at h
      · rename_i q st1 hal
        simp only [Option.some.injEq, Prod.mk.injEq] at h
        obtain ⟨rfl, rfl⟩ := h
        obtain ⟨inf', z', k1, k2, k3⟩ := zeroV_spec hzv
        rw [hi] at k1
        cases k1
        rw [hz] at k2
        cases k2
        obtain ⟨r1, r2, r3⟩ := absZ_spec k3 γ w true
        have hzl := r2.length
        have hzs : z.cells.size = n := by rw [← hzn.1, hzl]; simp
        have hze : (Builtin.zeroCells z.cells (gc - (len + m))).toList = (List.replicate (gc - (len + m)) z.cells.toList).flatten := by
          have := zeros_eq z.cells n (gc - (len + m)) hzs hzn.2
          rw [← hzs] at this
          unfold Builtin.zeroCells
          rw [hzs] at this ⊢
          first | exact this | (rw [← hzs]; rw [← hzs] at this; exact this)
        have hW : news.toArray ++ Builtin.zeroCells z.cells (gc - (len + m)) = (news ++ (Builtin.zeroCells z.cells (gc - (len + m))).toList).toArray := Array.ext' (by simp)
        rw [hW] at hrun
        have hCd : Conc γ w.drew a st := hC.ofHeap rfl
        have hzlen : (Builtin.zeroCells z.cells (gc - (len + m))).toList.length = (gc - (len + m)) * n := by
          rw [Array.length_toList, size_zeroCells, hzs]
        obtain ⟨γ', c1, c2⟩ := allocA_sound (P := P) (cfg := cfg) hCd hal hp e (vs := news ++ (Builtin.zeroCells z.cells (gc - (len + m))).toList) (u := .slice (some ⟨w.heap.size, 0, none⟩) (len + m) gc)
          (RepL.append (RepL.undefs γ w.drew true _ _ hzlen) (RepL.mono (Ext.ofHeap (w := w) (w' := w.drew) rfl) hr)) (fun v hv => (List.mem_append.1 hv).elim (h1 v) (fun hv => by rw [hze] at hv; exact replicate_one r3 _ v hv))
          (fun γ' i hi => by
            have := Rep.arr (γ := γ') (w := w.drew.alloc (.cells (news ++ (Builtin.zeroCells z.cells (gc - (len + m))).toList).toArray e)) (l := true) (o := i) (off := 0) (off' := 0) (len := len + m) (cap := gc) hi (.inl rfl) hgc (fun _ => rfl)
            rwa [show len + m + (gc - (len + m)) = gc by omega])
        refine ⟨γ', _, _, .inl hrun, by rw [hd]; exact c1, ?_⟩
        exact Evo.trans (EvoS.ofHeap (w := w) (w' := w.drew) (st := st) rfl rfl rfl rfl) c2
      · cases h
    · cases h
  · cases h

theorem growV_does {P : Program} {γ : Gh} {w : World} {a : Act} {st : St} (hC : Conc γ w a st) {cfg : Cfg} {o : Oper} {T e n bs dd len m : Nat} {zs : List Value} (he : tElem P T = some (e, n, bs, zs)) (hd : o.dst = some dd) {K : St → Prop}
    {cs : List AVal} (h : growV P cfg st T dd len m cs K) {news : List Value} (hr : RepL γ w true cs news) (h1 : ∀ v ∈ news, v.oneCell' = true) {inf : TypeInfo} {z : Value} (hi : P.info? e = some inf) (hz : inf.zero = some z)
    {cap : Nat}
    (hrun : (len + m) * bs ≤ 140737488355328 → len + m ≤ 9223372036854775807 → (execOp a.eval o).run P w = .ok (.value (.slice (some ⟨w.heap.size, 0, none⟩) (len + m) (grownCap w (len + m) cap e))) (w.drew.alloc (.cells (news.toArray ++ Builtin.zeroCells z.cells (grownCap w (len + m) cap e - (len + m))) e))) :
    ∃ st', Does P γ w a o st st' ∧ K st' := by
  have hge := grownCap_ge w (len + m) cap e
  unfold growV at h
  rw [he] at h
  simp only [] at h
  obtain ⟨hs, h⟩ := gb_iff.1 h
  simp only [hold_eq, decide_eq_true_eq] at hs
  have hle := grownCap_le_maxLen w (len + m) cap e (by simp [maxLen]; omega)
  have hk := h (grownCap w (len + m) cap e - (len + m)) (by simp [maxLen] at hle; omega)
  split at hk
  · rename_i p st' hg
    obtain ⟨hp, hK⟩ := gb_iff.1 hk
    exact ⟨st', growA_sound hC he hd hr h1 hi hz hge (hrun hs.1 hs.2) hg hp, hK⟩
  · exact hk.elim

theorem run_append_zeros_grow {P : Program} {w : World} (t tx ty e : TypeId) (i : TypeInfo) (z : Value) (ht : P.underlying t = some (.slice e)) (htx : P.underlying tx = some (.int .i64)) (hi : P.info? e = some i) (hz : i.zero = some z) (base : Option Addr) (sLen sCap : Nat) (olds : List Value)
    (hold : (Builtin.firstCells i.size sLen (.slice base sLen sCap)).run P w.drew = .ok olds.toArray w.drew) (n : Nat) (hn0 : 0 < n) (hn1 : n ≤ 1000000000000) (hs0 : 0 < i.size)
    (hg : sCap < sLen + n) (h63 : ((sLen + n : Nat) : Int) ≤ 9223372036854775807) (hb : (sLen + n) * i.bytes ≤ 140737488355328) :
    (Builtin.append_ #[t, tx] ty #[.slice base sLen sCap, .int .i64 n]).run P w =
      .ok (.slice (some ⟨w.heap.size, 0, none⟩) (sLen + n) (grownCap w (sLen + n) sCap e))
        (w.drew.alloc (.cells ((olds ++ (Builtin.zeroCells z.cells n).toList).toArray ++ Builtin.zeroCells z.cells (grownCap w (sLen + n) sCap e - (sLen + n))) e)) := by
  have hn : ¬ (sLen + n ≤ sCap) := by omega
  have h63' : ¬ (9223372036854775807 < ((sLen : Int) + (n : Int))) := by omega
  have hfit := growslice_fits hg hb
  have h48' : ¬ (281474976710656 < Builtin.nextslicecap (sLen + n) sCap * i.bytes) := by omega
  have hw : IntKind.i64.wrap (n : Int) = n := by rw [IntKind.wrap_i64]; omega
  have h48i : ¬ (281474976710656 < (n : Int) * (i.bytes : Int)) := by
    rw [← Int.natCast_mul]
    have : n * i.bytes ≤ (sLen + n) * i.bytes := Nat.mul_le_mul_right _ (by omega)
    omega
  have hneg : ¬ ((n : Int) < 0) := by omega
  have hns : ¬ (n * i.size = 0) := Nat.mul_ne_zero (by omega) (by omega)
  simp [Builtin.append_, run_underlying ht, run_underlying htx, sizeOf, typeInfo, zeroValue, hi, hz, asInt, asIntOf, hw, hn, hneg, hns, h63', h48', h48i, Question.forced, hold, newRow, grownCap]
  congr 2
  apply Array.ext'
  simp [List.append_assoc]

theorem appV_sound {P : Program} {cfg : Cfg} (ho' : OrcOk P cfg) {o : Oper} {d s : Operand} {T T' : TypeId} {K : St → Prop} {st : St} {X : Prop} (ho : o.op = .call ⟨.builtin .append, #[d, s], #[T, T']⟩)
    (h : appV P cfg o (st.eval d) (st.eval s) T T' K (opW P cfg o K st) st = some X) (hX : X) {γ : Gh} {w : World} {a : Act} (hC : Conc γ w a st) {next : Act → World → Prop} {Q : Exit → Act → World → Prop}
    (hn : ∀ γ' w' a' st', Conc γ' w' a' st' → EvoS γ w st γ' w' st' → K st' → next a' w') (hp : PanOK cfg γ w st Q) : o.wp P a w next Q := by
  have done : ∀ st', Does P γ w a o st st' → K st' → o.wp P a w next Q := fun st' hd hK => hd.wp fun γ' w' a' c1 c2 => hn _ _ _ _ c1 c2 hK
  unfold appV at h
  split at h
  · rename_i dd e n bs zs hd he
    obtain ⟨inf, z, g1, g2, g3, g4, g5, g6⟩ := tElem_spec he
    split at h
    · rename_i oid off len cap hda
      have hD := hC.eval d
      rw [hda] at hD
      split at h
      · rename_i cs hcs
        generalize hu : a.eval d = u at hD
        cases hD with
        | @arr _ _ _ off' _ _ b hb hoo hnc h0 =>
          obtain ⟨vs, T0, hh, hr, hv1, hni⟩ := hC.inv.objb hcs hb
          have hru := RepL.up hr
          have hlv := hr.length
          have holds : off + len * n ≤ cs.length → (Builtin.firstCells n len (.slice (some ⟨b, off', none⟩) len cap)).run P w.drew = .ok ((vs.drop off).take (len * n)).toArray w.drew := fun hle =>
            run_firstCells_some w.drew n len _ _ _ _ (by simp; omega) (fun j v hj => by
              rw [List.getElem?_take] at hj
              split at hj
              · rename_i hlt
                rw [List.getElem?_drop] at hj
                obtain rfl := h0 (by
                  rcases Nat.eq_zero_or_pos len with h2 | h2
                  · subst h2; simp at hlt
                  · omega)
                rw [addr_add]
                have : w.drew.cell? ⟨b, off' + j, none⟩ = w.cell? ⟨b, off' + j, none⟩ := rfl
                rw [this]
                simp only [World.cell?, hh]
                simpa using hj
              · cases hj)
          have hold1 : ∀ v ∈ (vs.drop off).take (len * n), v.oneCell' = true := fun v hv => hv1 v (List.mem_of_mem_drop (List.mem_of_mem_take hv))
          split at h
          · -- zeros
            rename_i m hint hsm
            split at h
            · rename_i zv hzv
              simp only [Option.some.injEq] at h
              subst h
              obtain ⟨q, hg⟩ := gb_iff.1 hX
              simp only [Bool.and_eq_true, hold_eq, decide_eq_true_eq] at q
              obtain ⟨⟨q1, q2, q3⟩, q4⟩ := q
              have hti : P.underlying T' = some (.int .i64) := by
                unfold isIntT at hint
                split at hint
                · assumption
                · cases hint
              have hS := hC.eval s
              rw [hsm] at hS
              have hS := hS.int_inv
              obtain ⟨inf', z', k1, k2, k3⟩ := zeroV_spec hzv
              rw [g2] at k1
              cases k1
              rw [g5] at k2
              cases k2
              obtain ⟨r1, r2, r3⟩ := absZ_spec k3 γ w true
              have hzn : zv.cells.length = n ∧ 0 < n := by
                unfold growV at hg
                rw [he] at hg
                simp only [] at hg
                have hg2 := (gb_iff.1 hg).2 0
                by_cases hsmall : len + m.toNat + 0 ≤ 9223372036854775807
                · have hg2 := hg2 hsmall
                  unfold growA at hg2
                  rw [he] at hg2
                  simp only [hzv] at hg2
                  split at hg2
                  · rename_i hq
                    split at hq
                    · rename_i hdz; exact of_decide_eq_true hdz
                    · cases hq
                  · exact hg2.elim
                · have := (gb_iff.1 hg).1
                  simp only [hold_eq, decide_eq_true_eq] at this
                  omega
              have hzs : z.cells.size = n := by
                have := r2.length
                rw [← hzn.1, this]; simp
              have hzl := zeros_eq z.cells n m.toNat hzs hzn.2
              have hzl2 : (Builtin.zeroCells z.cells m.toNat).toList = (List.replicate m.toNat z.cells.toList).flatten := by
                rw [← hzs] at hzl
                unfold Builtin.zeroCells
                rw [hzs] at hzl ⊢
                first | exact hzl | (rw [← hzs]; rw [← hzs] at hzl; exact hzl)
              obtain ⟨st', d1, d2⟩ := growV_does (a := a) (o := o) (cap := cap) hC he hd hg (news := (vs.drop off).take (len * n) ++ (Builtin.zeroCells z.cells m.toNat).toList)
                (RepL.append (by rw [hzl2]; exact replicate_flat r2 m.toNat) ((hru.drop off).take (len * n)))
                (fun v hv => (List.mem_append.1 hv).elim (hold1 v) (fun hv => by rw [hzl2] at hv; exact replicate_one r3 _ v hv)) g2 g5 (fun hb1 hb2 => by
                  refine Op.appendRun ho ?_
                  rw [hu, hS]
                  have := run_append_zeros_grow (P := P) (w := w) T T' o.type e inf z g1 hti g2 g5 (some ⟨b, off', none⟩) len cap _ (by rw [g3]; exact holds q4) m.toNat (by omega) (by omega) (by rw [g3]; exact hzn.2) (by omega) (by omega) (by rw [g4]; exact hb1)
                  rwa [show ((m.toNat : Nat) : Int) = m by omega] at this)
              exact done st' d1 d2
            · cases h
          · split at h
            · rename_i q m xs hsrc
              simp only [Option.some.injEq] at h
              subst h
              obtain ⟨q0, hg⟩ := gb_iff.1 hX
              simp only [Bool.and_eq_true, decide_eq_true_eq] at q0
              obtain ⟨q1, q2⟩ := q0
              obtain ⟨news, s1, s2, s3, s4, s5⟩ := srcC_sound hC.ok (hC.eval s) hsrc q1
              by_cases hroom : len + m ≤ cap
              · exact opW_sound ho' ((brV_iff.1 hg).1 (by simp [hroom])) hC hn hp
              · have hg := (brV_iff.1 hg).2 (by simp [hroom])
                obtain ⟨st', d1, d2⟩ := growV_does (a := a) (o := o) (cap := cap) hC he hd hg (news := (vs.drop off).take (len * n) ++ news) (RepL.append s3 ((hru.drop off).take (len * n))) (fun v hv => (List.mem_append.1 hv).elim (hold1 v) (s4 v)) g2 g5 (fun hb1 hb2 => by
                  refine Op.appendRun ho ?_
                  rw [hu]
                  exact run_append_grow_src w T T' o.type e inf z g1 g2 g5 (some ⟨b, off', none⟩) len cap _ (by rw [g3]; exact holds q2) _ m news (by rw [g3]; exact s1) (by omega) (by omega) (growslice_fits (by omega) (by rw [g4]; exact hb1)))
                exact done st' d1 d2
            · cases h
      · cases h
    · rename_i es0 s0 t hda
      split at h
      · rename_i hwr
        split at h
        · rename_i q m xs hsrc
          simp only [Option.some.injEq] at h
          subst h
          obtain ⟨q0, hg⟩ := gb_iff.1 hX
          simp only [Bool.and_eq_true] at q0
          obtain ⟨q1, q2⟩ := q0
          obtain ⟨news, s1, s2, s3, s4, s5⟩ := srcC_sound hC.ok (hC.eval s) hsrc q1
          have hD := hC.eval d
          rw [hda] at hD
          obtain ⟨base, hu⟩ : ∃ base, a.eval d = .slice base 0 0 := by
            generalize a.eval d = u at hD
            generalize hel : ([] : List AVal) = el at hD
            cases hD with
            | sliceRow hr hs hc h1 hnc hm ht =>
              subst hel
              simp only [AL.tagRow, List.length_nil] at ht
              subst ht
              exact ⟨_, rfl⟩
            | sliceNil ht hoo => exact ⟨_, rfl⟩
          by_cases hm0 : m = 0
          · have hK := (brV_iff.1 hg).1 (by simp [hm0])
            subst hm0
            have hnl := s3.length
            rw [s5] at hnl
            have hnews : news = [] := List.eq_nil_of_length_eq_zero (by simpa using hnl.symm)
            subst hnews
            have hrun := run_append_same (P := P) (w := w) (T := T) (T' := T') g1 g2 base 0 0 (Nat.le_refl _) s1 g3 o.type
            refine done _ ⟨γ, w, .slice base 0 0, .inl (Op.appendRun ho (by rw [hu]; exact hrun)), hC.fin cfg (fok_fin (by rw [hd]; exact q2) cfg _) (Rep.sliceNil (tag := .full) trivial (.inr rfl)), EvoS.put (st' := st) (Evo.refl _ _ _ _) (fin_objAt _ _ _ _) (fin_σ _ _ _ _)⟩ hK
          · have hg := (brV_iff.1 hg).2 (by simp [hm0])
            obtain ⟨st', d1, d2⟩ := growV_does (a := a) (o := o) (cap := 0) hC he hd hg (news := news) s3 s4 g2 g5 (fun hb1 hb2 => by
              refine Op.appendRun ho ?_
              rw [hu]
              have := run_append_grow_src w T T' o.type e inf z g1 g2 g5 base 0 0 [] (run_firstCells_zero w.drew inf.size 0 0 base) _ m news (by rw [g3]; exact s1) (by omega) (by omega) (growslice_fits (by omega) (by rw [g4]; exact hb1))
              simpa using this)
            exact done st' d1 d2
        · cases h
      · cases h
    · cases h
  · cases h

theorem run_overlaps_none {P : Program} {w : World} {T e : TypeId} {inf : TypeInfo} (ht : P.underlying T = some (.slice e)) (hi : P.info? e = some inf) {ps rs : Array TypeId} (hp : ps[0]? = some T) (a b : Option Addr) (ca lb cb : Nat) :
    (Extern.SlicesOverlaps.overlaps ps rs #[.slice a 0 ca, .slice b lb cb]).run P w = .ok (.bool false) w := by
  conv => lhs; arg 2; whnf
  cases a <;> cases b <;> simp [hp, run_underlying ht, sizeOf, typeInfo, hi]

theorem run_overlaps_false {P : Program} {w : World} {T e tR : TypeId} {inf : TypeInfo} (ht : P.underlying T = some (.slice e)) (hi : P.info? e = some inf) {ps rs : Array TypeId} (hp : ps[0]? = some T)
    {a b : Addr} {la ca lb cb : Nat} (hne : a.block ≠ b.block) {csA csB : Array Value} {tA tB : TypeId} {fA : Nat × Nat} (hA : w.heap[a.block]? = some (.cells csA tA fA)) (hB : w.heap[b.block]? = some (.cells csB tB (0, 0))) (h0 : lb ≠ 0 → csB.size ≠ 0) (hA0 : csA.size ≠ 0) :
    (Extern.SlicesOverlaps.overlaps ps rs #[.slice (some a) la ca, .slice (some b) lb cb]).run P w = .ok (.bool false) w := by
  have hnb : (a.block != b.block) = true := by simpa using hne
  have hnb' : (a.block == b.block) = false := by simpa using hne
  have hsa : w.shape? a.block = some (tA, csA.size) := by simp [World.shape?, hA]
  have hsb : w.shape? b.block = some (tB, csB.size) := by simp [World.shape?, hB]
  have hfb : ∀ n, w.frozen? ⟨b.block, n, none⟩ = false := fun n => by simp [World.frozen?, hB]
  have hfb' : w.frozen? b = false := by simp [World.frozen?, hB]
  conv => lhs; arg 2; whnf
  by_cases h1 : la = 0 ∨ lb = 0 ∨ inf.size = 0
  · simp [hp, run_underlying ht, sizeOf, typeInfo, hi, h1]
  · have hkB := h0 (by omega)
    cases hk : csB.size with
    | zero => exact absurd hk hkB
    | succ kB =>
    cases hka : csA.size with
    | zero => exact absurd hka hA0
    | succ kA =>
      rw [hk] at hsb
      rw [hka] at hsa
      cases hfa : w.frozen? a <;> cases hfe : w.frozen? ⟨a.block, kA + 1, none⟩ <;>
        simp [hp, run_underlying ht, sizeOf, typeInfo, hi, h1, hnb, hnb', frozen, noView, viewAt, mayBeOne, stringish, shape, Sem.run, hsa, hsb, hfa, hfe, hfb, hfb']

theorem extV_sound {P : Program} {cfg : Cfg} (ho' : OrcOk P cfg) {o : Oper} {f : Operand} {args : Array Operand} {ts : Array TypeId} (ho : o.op = .call ⟨.value f, args, ts⟩) {st : St} {p : Bool} (h : extV cfg st (st.eval f) (args.toList.map st.eval) = some p) (hp : p)
    {γ : Gh} {w : World} {a : Act} (hC : Conc γ w a st) : (execOp a.eval o).run P w = .ok (.value (.bool false)) w := by
  unfold extV at h
  split at h
  · rename_i g es s t oid off len cap hc
    split at h
    · rename_i cs hx hcs
      simp only [Option.some.injEq] at h
      subst h
      have hp := of_decide_eq_true hp
      obtain ⟨fn, T, e, inf, f1, f2, f3, f4, f5, f6, f7, f8⟩ := ho'.ext g hx
      have hf := hC.eval f
      have ha := RepL.map (fun x => hC.eval x) args.toList
      unfold calleeA at hc
      split at hc
      · rename_i g' first cp hfe
        simp only [Option.some.injEq, Prod.mk.injEq] at hc
        obtain ⟨rfl, hxs⟩ := hc
        rw [hfe] at hf
        generalize hfv : a.eval f = fv at hf
        cases hf with
        | func h1 h2 =>
          rename_i fs cs2
          have hr := RepL.append h2 (RepL.append ha h1)
          rw [hxs] at hr
          have e1 : fs.toArray ++ (args.map a.eval ++ cs2.toArray) = (fs ++ args.toList.map a.eval ++ cs2).toArray := Array.ext' (by simp)
          generalize hvs : fs ++ args.toList.map a.eval ++ cs2 = vs at hr e1
          cases hr with
          | cons r1 r2 =>
            cases r2 with
            | cons r3 r4 =>
              cases r4
              rename_i v1 v2
              have hrun : (Extern.SlicesOverlaps.overlaps fn.params fn.resultTypes #[v1, v2]).run P w = .ok (.bool false) w := by
                cases r3 with
                | @arr _ _ _ off' _ _ b hb hoo hnc h0 =>
                  obtain ⟨vs0, T0, hh, hr0, hv1, hni⟩ := hC.inv.objb hcs hb
                  cases r1 with
                  | @sliceRow _ _ _ _ ba offa ca vs1 hr1 hs1 hc1 h11 hnc1 hm1 ht1 =>
                    cases es with
                    | nil => exact run_overlaps_none f7 f8 f6 _ _ _ _ _
                    | cons e0 es =>
                      have hl1 := hr1.length
                      rw [flat_length hs1] at hl1
                      obtain ⟨v0, hv0⟩ : ∃ v0, vs1[0]? = some v0 := by
                        have : 0 < vs1.length := by rw [← hl1]; exact Nat.mul_pos (by simp) hp.1
                        exact ⟨vs1[0], by simp [this]⟩
                      obtain ⟨hi1, hcell⟩ := hc1 0 v0 hv0
                      have hne : ba ≠ b := by rintro rfl; exact hni _ hi1
                      obtain ⟨csA, tA, fA, hA, hA0⟩ : ∃ csA tA fA, w.heap[ba]? = some (.cells csA tA fA) ∧ csA.size ≠ 0 := by
                        cases hh2 : w.heap[ba]? with
                        | none => simp [World.cell?, hh2] at hcell
                        | some x =>
                          cases x with
                          | cells c1 c2 c3 =>
                            refine ⟨c1, c2, c3, rfl, fun h => ?_⟩
                            have : c1 = #[] := Array.eq_empty_of_size_eq_zero h
                            subst this
                            simp [World.cell?, hh2] at hcell
                          | _ => simp [World.cell?, hh2] at hcell
                      exact run_overlaps_false (tR := 0) f7 f8 f6 (a := ⟨ba, offa, none⟩) (b := ⟨b, off', none⟩) hne hA hh (fun h => by
                        have := hr0.length
                        simp only [List.size_toArray]
                        omega) hA0
                  | sliceNil => exact run_overlaps_none f7 f8 f6 _ _ _ _ _
              simp only [execOp, ho, resolve, hfv, Deferred.ofValue, invoke, Sem.run_bind, Sem.run_pure, Result.andThen_ok]
              have hcf := run_callFunc_extern f1 f2 f3 f4 f5 #[v1, v2] w
              simp [e1, hcf, hrun]
      · cases hc
    · cases h
  · cases h

theorem run_next_at {P : Program} (w : World) (k : Nat) (s : List UInt8) (pos : Nat) (ty : TypeId) (hk : w.heap[k]? = some (.stringIter ⟨s.toArray⟩ pos)) :
    (Instr.next (.pointer (some ⟨k, 0, none⟩)) true ty).run P w = if pos < s.length then
      .ok (.tuple #[.bool true, .int .i64 pos, .int .i32 (decR s pos)]) { w with heap := w.heap.setIfInBounds k (.stringIter ⟨s.toArray⟩ (pos + decW s pos)) } else .ok (.tuple #[.bool false]) w := by
  have hlt : k < w.heap.size := (Array.getElem?_eq_some_iff.1 hk).1
  have hsz : (ByteArray.mk s.toArray).size = s.length := by simp [ByteArray.size]
  by_cases h : pos < s.length
  · rw [if_pos h]
    simp only [Instr.next, getObj, setObj, Sem.run_bind, Sem.run, hk, Result.andThen, hsz, h, if_true]
    simp [goInt, decR, decW]
  · rw [if_neg h]
    simp [Instr.next, getObj, Sem.run, hk, h, hsz]
theorem nextV_sound {P : Program} {cfg : Cfg} {o : Oper} {it : Operand} (ho : o.op = .next it true) {oid : Oid} {s : List UInt8} {pos : Nat} {K : St → Prop} {st : St} (hi : iterOf st.objAt (st.eval it) = some (oid, s, pos)) (h : nextV cfg o.dst oid s pos K st)
    {γ : Gh} {w : World} {a : Act} (hC : Conc γ w a st) {next : Act → World → Prop} {Q : Exit → Act → World → Prop}
    (hn : ∀ γ' w' a' st', Conc γ' w' a' st' → EvoS γ w st γ' w' st' → K st' → next a' w') : o.wp P a w next Q := by
  unfold iterOf at hi
  split at hi
  · rename_i o2 hx
    split at hi
    · rename_i s2 p2 hob
      simp only [Option.some.injEq, Prod.mk.injEq] at hi
      obtain ⟨rfl, rfl, rfl⟩ := hi
      have hr := hC.eval it
      rw [hx] at hr
      obtain ⟨b, hv, hb⟩ : ∃ b, a.eval it = .pointer (some ⟨b, 0, none⟩) ∧ γ.obj o2 = some b := by
        generalize a.eval it = u at hr
        cases hr with
        | ptr hb ho => exact ⟨_, rfl, hb⟩
      obtain ⟨hk, hni⟩ := hC.inv.objb hob hb
      have hlt : b < w.heap.size := (Array.getElem?_eq_some_iff.1 hk).1
      have hrun := run_next_at (P := P) w b s2 p2 o.type hk
      unfold nextV brV at h
      rw [hold_eq] at h
      unfold Oper.wp
      by_cases hp : p2 < s2.length
      · rw [if_pos hp] at hrun
        simp only [hp, decide_true] at h
        obtain ⟨h1, h2⟩ := gb_iff.1 h
        obtain ⟨c1, c2⟩ := hC.setBlock (w' := { w with heap := w.heap.setIfInBounds b (.stringIter ⟨s2.toArray⟩ (p2 + decW s2 p2)) }) hob hb (fun b' hb' => by
          simp only []
          rw [Array.getElem?_setIfInBounds_ne (Ne.symm hb')]) (by simp) rfl rfl rfl (x := .siter s2 (p2 + decW s2 p2)) (fun e hn => ⟨by simp [hlt], hn⟩)
        have e1 : (execOp a.eval o).run P w = .ok (.value (.tuple #[.bool true, .int .i64 p2, .int .i32 (decR s2 p2)])) { w with heap := w.heap.setIfInBounds b (.stringIter ⟨s2.toArray⟩ (p2 + decW s2 p2)) } := by
          simp [execOp, ho, hv, hrun]
        rw [e1]
        exact hn _ _ _ _ (c1.fin cfg (fok_fin h1 cfg _) (.tuple (.cons (.bool _ _) (.cons (.int _ _ _) (.cons (.int _ _ _) (.nil _)))))) (c2.put (fin_objAt _ _ _ _) (fin_σ _ _ _ _)) h2
      · rw [if_neg hp] at hrun
        simp only [hp, decide_false] at h
        obtain ⟨h1, h2⟩ := gb_iff.1 h
        have e1 : (execOp a.eval o).run P w = .ok (.value (.tuple #[.bool false])) w := by
          simp [execOp, ho, hv, hrun]
        rw [e1]
        exact hn _ _ _ _ (hC.fin cfg (fok_fin h1 cfg _) (.tuple (.cons (.bool _ _) (.nil _)))) (EvoS.put (st' := st) (Evo.refl _ _ _ _) (fin_objAt _ _ _ _) (fin_σ _ _ _ _)) h2
    · cases hi
  · cases hi

theorem opV1_sound {P : Program} {cfg : Cfg} (ho' : OrcOk P cfg) {o : Oper} {K : St → Prop} {st : St} (h : opV1 P cfg o K st) {γ : Gh} {w : World} {a : Act} (hC : Conc γ w a st) {next : Act → World → Prop} {Q : Exit → Act → World → Prop}
    (hn : ∀ γ' w' a' st', Conc γ' w' a' st' → EvoS γ w st γ' w' st' → K st' → next a' w') (hp : PanOK cfg γ w st Q) : o.wp P a w next Q := by
  unfold opV1 at h
  split at h
  · rename_i op T x y yT ho
    split at h
    · rename_i pos es nl hcmp
      obtain ⟨hd, h⟩ := gb_iff.1 h
      unfold nilCmp at hcmp
      split at hcmp
      · rename_i e es' s t hT hx hy
        have rx := hC.eval x
        have ry := hC.eval y
        rw [hx] at rx
        rw [hy] at ry
        -- what is known of the first operand
        obtain ⟨oa, n, c, hu, hb1, hb2⟩ : ∃ (oa : Option Addr) (n c : Nat), a.eval x = .slice oa n c ∧ (oa.isNone = true → es'.isEmpty = true) ∧ (t.isNil = true → oa.isNone = true) := by
          generalize a.eval x = u at rx
          cases rx with
          | sliceRow hr hs hc h1 hn' hm ht => exact ⟨_, _, _, rfl, fun h => (by cases h), fun h => by cases t <;> simp [Tag.isNil] at h; exact ht.elim⟩
          | sliceNil ht hnil => exact ⟨_, _, _, rfl, fun _ => rfl, fun h => by rcases hnil with rfl | hnil; rfl; rw [hnil] at h; cases h⟩
        have hv : a.eval y = .slice none 0 0 := by
          generalize a.eval y = u at ry
          generalize hes : ([] : List AVal) = el at ry
          cases ry with
          | sliceRow hr hs hc h1 hn' hm ht => exact ht.elim
          | sliceNil ht hnil => rcases hnil with rfl | hnil; rfl; cases hnil
        have hg : ∀ op : BinOp, (eqGuard op T x y (.slice oa n c) (.slice none 0 0)).run P w = .ok () w := fun op => by cases op <;> simp [eqGuard]
        have fin : ∀ p : Bool, (execOp a.eval o).run P w = .ok (.value (.bool (oa.isNone == p))) w → K (st.fin cfg o.dst (.bool (oa.isNone == p))).2 → o.wp P a w next Q := by
          intro p hrun hK
          unfold Oper.wp
          rw [hrun]
          exact hn _ _ _ _ (hC.fin cfg (fok_fin hd cfg _) (.bool _ _)) (EvoS.put (st' := st) (Evo.refl _ _ _ _) (fin_objAt _ _ _ _) (fin_σ _ _ _ _)) hK
        split at hcmp
        · cases hcmp
          refine fin true ?_ (h oa.isNone hb1 hb2)
          simp [execOp, ho, hu, hv, hg, run_eql_slice_nil' w T e oa n c hT]
        · cases hcmp
          refine fin false ?_ (h oa.isNone hb1 hb2)
          have := run_neq_slice_nil (P := P) w T e oa n c hT
          simp [execOp, ho, hu, hv, hg, this]
        · cases hcmp
      · cases hcmp
    · exact opW_sound ho' h hC hn hp
  · rename_i args ts ho
    split at h
    · rename_i d s T T' ha ht
      have ha' : args = #[d, s] := by rw [← Array.toArray_toList (xs := args), ha]
      have ht' : ts = #[T, T'] := by rw [← Array.toArray_toList (xs := ts), ht]
      subst ha'; subst ht'
      split at h
      · rename_i X hX
        exact appV_sound ho' ho hX h hC hn hp
      · exact opW_sound ho' h hC hn hp
    · exact opW_sound ho' h hC hn hp
  · rename_i f args ts ho
    split at h
    · rename_i p hp
      obtain ⟨h1, h2⟩ := gb_iff.1 h
      simp only [Bool.and_eq_true] at h1
      unfold Oper.wp
      rw [extV_sound ho' ho hp h1.2 hC]
      exact hn _ _ _ _ (hC.fin cfg (fok_fin h1.1 cfg _) (.bool _ _)) (EvoS.put (st' := st) (Evo.refl _ _ _ _) (fin_objAt _ _ _ _) (fin_σ _ _ _ _)) h2
    · exact opW_sound ho' h hC hn hp
  · rename_i it ho
    split at h
    · rename_i oid s pos hi
      exact nextV_sound ho hi h hC hn
    · exact opW_sound ho' h hC hn hp
  · exact opW_sound ho' h hC hn hp

theorem opV_sound {P : Program} {cfg : Cfg} (ho' : OrcOk P cfg) {o : Oper} {K : St → Prop} {st : St} (h : opV P cfg o K st) {γ : Gh} {w : World} {a : Act} (hC : Conc γ w a st) {next : Act → World → Prop} {Q : Exit → Act → World → Prop}
    (hn : ∀ γ' w' a' st', Conc γ' w' a' st' → EvoS γ w st γ' w' st' → K st' → next a' w') (hp : PanOK cfg γ w st Q) : o.wp P a w next Q := by
  unfold opV at h
  split at h
  · obtain ⟨h1, h2⟩ := gb_iff.1 h
    obtain ⟨γ1, c1, e1⟩ := hC.freezeS h1
    exact opV1_sound ho' h2 c1 (fun γ' w' a' st' c2 e2 hK => hn γ' w' a' st' c2 (e1.trans e2) hK) (hp.trans e1)
  · exact opV1_sound ho' h hC hn hp

theorem Conc.ext {γ : Gh} {w : World} {a : Act} {st st' : St} (h : Conc γ w a st) (hn : st'.n = st.n) (hg : ∀ t, st'.get t = st.get t) (hO : st'.objAt = st.objAt) (hσ : st'.σ = st.σ) : Conc γ w a st' :=
  ⟨h.size.trans hn.symm, fun t => by rw [hg]; exact h.fr t, h.defers, by rw [hO, hσ]; exact h.inv⟩

theorem get_put_same (keep : List Nat) (st : St) (g : Nat) {v : AVal} (h : st.get g = v) (t : Nat) : (st.put keep g v).get t = st.get t := by
  rw [St.get_put]
  split
  · rename_i e; subst e; exact h.symm
  · rfl

theorem Conc.putSame {γ : Gh} {w : World} {a : Act} {st : St} (h : Conc γ w a st) (keep : List Nat) {g : Nat} {v : AVal} (hv : st.get g = v) : Conc γ w a (st.put keep g v) :=
  h.ext (by simp) (get_put_same keep st g hv) (St.put_objAt _ _ _ _) (St.put_σ _ _ _ _)

theorem skipV_sound {cfg : Cfg} {o : Oper} {K : St → Prop} {st : St} (h : skipV cfg o K st) {γ : Gh} {w : World} {a : Act} (hC : Conc γ w a st) : ∃ st', Conc γ w (a.put o.dst undef) st' ∧ EvoS γ w st γ w st' ∧ K st' :=
  ⟨_, hC.fin cfg (skipV_iff h).1 (.tuple (.nil _)), EvoS.put (st' := st) (Evo.refl _ _ _ _) (fin_objAt _ _ _ _) (fin_σ _ _ _ _), (skipV_iff h).2⟩

theorem yielded_of {γ : Gh} {w : World} {a : Act} {st : St} (hC : Conc γ w a st) {ops : Array Oper} {j g : Nat} (hj : (ops[j]?).bind (·.dst) = some g) :
    (∀ b, st.get g = .bool b → yielded ops a.tmps j = some b) ∧ (∀ vs, st.get g = .tuple vs → yielded ops a.tmps j = none) := by
  have hr := hC.fr g
  constructor
  · intro b hb
    rw [hb] at hr
    unfold yielded
    rw [hj]
    simp only [Option.bind_some]
    cases hg : a.tmps[g]? with
    | none =>
      have : a.tmps.getD g undef = undef := by simp [Array.getD_eq_getD_getElem?, hg]
      rw [this] at hr
      cases hr
    | some v =>
      have : a.tmps.getD g undef = v := by simp [Array.getD_eq_getD_getElem?, hg]
      rw [this] at hr
      cases hr
      rfl
  · intro vs hb
    rw [hb] at hr
    unfold yielded
    rw [hj]
    simp only [Option.bind_some]
    cases hg : a.tmps[g]? with
    | none => rfl
    | some v =>
      have : a.tmps.getD g undef = v := by simp [Array.getD_eq_getD_getElem?, hg]
      rw [this] at hr
      cases hr
      rfl

theorem opsV_sound {P : Program} {cfg : Cfg} (ho : OrcOk P cfg) {ops : Array Oper} {Q : Exit → Act → World → Prop} : ∀ (l : List Oper) (i : Nat) (K : St → Prop) (st : St), (∀ j, l[j]? = ops[i + j]?) → opsV P cfg ops l K st → ∀ {γ : Gh} {w : World} {a : Act}, Conc γ w a st →
    (∀ γ' w' a' st', Conc γ' w' a' st' → EvoS γ w st γ' w' st' → K st' → Q .normal a' w') → PanOK cfg γ w st Q → wpOps P ops Q (List.range' i l.length) a w
  | [], i, K, st, _, h, γ, w, a, hC, hQ, _ => hQ _ _ _ _ hC (Evo.refl _ _ _ _) h
  | o :: l, i, K, st, hl, h, γ, w, a, hC, hQ, hpq => by
    have h0 : ops[i]? = some o := by have := hl 0; simpa using this.symm
    have hl' : ∀ j, l[j]? = ops[i + 1 + j]? := fun j => by have := hl (j + 1); simpa [Nat.add_assoc, Nat.add_comm 1 j] using this
    have rest : ∀ γ1 w1 a1 st1, Conc γ1 w1 a1 st1 → EvoS γ w st γ1 w1 st1 → opsV P cfg ops l K st1 → wpOps P ops Q (List.range' (i + 1) l.length) a1 w1 := fun γ1 w1 a1 st1 hC1 hE1 hV1 =>
      opsV_sound ho l (i + 1) K st1 hl' hV1 hC1 (fun γ' w' a' st' c1 c2 c3 => hQ _ _ _ _ c1 (hE1.trans c2) c3) (hpq.trans hE1)
    have run : ∀ st0, Conc γ w a st0 → (EvoS γ w st γ w st0) → opV P cfg o (opsV P cfg ops l K) st0 → o.wp P a w (wpOps P ops Q (List.range' (i + 1) l.length)) Q := fun st0 hC0 hE0 hV0 =>
      opV_sound ho hV0 hC0 (fun γ' w' a' st' c1 c2 c3 => rest _ _ _ _ c1 (hE0.trans c2) c3) (hpq.trans hE0)
    have skip : ∀ st0, Conc γ w a st0 → (EvoS γ w st γ w st0) → skipV cfg o (opsV P cfg ops l K) st0 → wpOps P ops Q (List.range' (i + 1) l.length) (a.put o.dst undef) w := fun st0 hC0 hE0 hV0 => by
      obtain ⟨st', c1, c2, c3⟩ := skipV_sound hV0 hC0
      exact rest _ _ _ _ c1 (hE0.trans c2) c3
    have hE : EvoS γ w st γ w st := Evo.refl _ _ _ _
    simp only [List.length_cons, List.range'_succ]
    unfold wpOps
    rw [h0]
    simp only []
    unfold opsV at h
    split at h
    · rename_i hg
      have hw : Region.wanted o (yielded ops a.tmps) = true := by simp [Region.wanted, hg]
      rw [if_pos hw]
      split at h
      · exact .inl (run st hC hE h)
      · rename_i T len ps d d' hlit
        obtain ⟨o2, r, rfl, k1, k2, k3, k4, k5, k6⟩ := litOf_spec hlit
        split at h
        · exact h.elim
        · rename_i p st' hA
          simp only [] at h
          obtain ⟨hp, hK⟩ := gb_iff.1 h
          obtain ⟨γ', w1, w2, u, m1, m2, m3, m4, m5⟩ := litA_sound hC hA hp k6
          left
          have h2 : ops[i + 1]? = some o2 := by have := hl' 0; simpa using this.symm
          have hl2 : ∀ j, r[j]? = ops[i + 1 + 1 + j]? := fun j => by
            have := hl' (j + 1)
            rw [show i + 1 + 1 + j = i + 1 + (j + 1) by omega]
            simpa using this
          have e1 : (execOp a.eval o).run P w = .ok (.value u) w1 := by
            simp only [execOp, k1, Sem.run_bind, m1, Result.andThen_ok, Sem.run_pure]
          unfold Oper.wp
          rw [e1]
          show wpOps P ops Q (List.range' (i + 1) (o2 :: r).length) (a.put o.dst u) w1
          rw [k2]
          simp only [List.length_cons, List.range'_succ]
          unfold wpOps
          rw [h2]
          simp only []
          have hw2 : Region.wanted o2 (yielded ops (a.put (some d) u).tmps) = true := by simp [Region.wanted, k3]
          rw [if_pos hw2]
          left
          have ev : (a.put (some d) u).eval (.tmp d) = u := by
            simp [Act.eval, Act.put, Array.getD, m5]
          have e2 : (execOp (a.put (some d) u).eval o2).run P w1 = .ok (.value u) w2 := by
            simp only [execOp, k4, ev, Sem.run_bind, m2, Result.andThen_ok, Sem.run_pure]
          unfold Oper.wp
          rw [e2]
          show wpOps P ops Q (List.range' (i + 1 + 1) r.length) ((a.put (some d) u).put o2.dst u) w2
          rw [k5]
          exact opsV_sound ho r (i + 1 + 1) K st' hl2 hK m3 (fun γ'' w'' a'' st'' c1 c2 c3 => hQ _ _ _ _ c1 (m4.trans c2) c3) (hpq.trans m4)
    · rename_i j want hg
      split at h
      · rename_i hj
        have hw : ¬ Region.wanted o (yielded ops a.tmps) = true := by simp [Region.wanted, hg, yielded, hj]
        rw [if_neg hw]
        exact skip st hC hE h
      · rename_i g hj
        obtain ⟨y1, y2⟩ := yielded_of hC hj
        split at h
        · rename_i b hb
          have hy := y1 b hb
          by_cases hbw : b = want
          · have hw : Region.wanted o (yielded ops a.tmps) = true := by simp [Region.wanted, hg, hy, hbw]
            rw [if_pos hw]
            refine .inl (run _ (hC.putSame cfg.keep (by rw [hb, hbw])) ?_ ((brV_iff.1 h).1 hbw))
            exact EvoS.put (st' := st) (Evo.refl _ _ _ _) (St.put_objAt _ _ _ _) (St.put_σ _ _ _ _)
          · have hw : ¬ Region.wanted o (yielded ops a.tmps) = true := by simp [Region.wanted, hg, hy, hbw]
            rw [if_neg hw]
            have hbn : b = !want := by cases b <;> cases want <;> simp at hbw ⊢
            refine skip _ (hC.putSame cfg.keep (by rw [hb, hbn])) ?_ ((brV_iff.1 h).2 hbn)
            exact EvoS.put (st' := st) (Evo.refl _ _ _ _) (St.put_objAt _ _ _ _) (St.put_σ _ _ _ _)
        · rename_i vs hb
          have hy := y2 vs hb
          have hw : ¬ Region.wanted o (yielded ops a.tmps) = true := by simp [Region.wanted, hg, hy]
          rw [if_neg hw]
          exact skip st hC hE h
        · exact h.elim

end
end Go.AL
end

section
namespace Go.AL
noncomputable section
set_option linter.unusedSimpArgs false
set_option linter.unusedVariables false

structure SS where
  n : Nat
  get : Nat → AVal
  loc : Nat → Option AObj
  σ : Sto

def St.ss (st : St) : SS := ⟨st.n, st.get, fun k => lookup st.loc k, st.σ⟩

theorem Conc.ofSS {γ : Gh} {w : World} {a : Act} {st st' : St} (h : Conc γ w a st) (e : st'.ss = st.ss) : Conc γ w a st' := by
  simp only [St.ss, SS.mk.injEq] at e
  refine h.ext e.1 (fun t => congrFun e.2.1 t) ?_ e.2.2.2
  funext i
  cases i with
  | loc k => exact congrFun e.2.2.1 k
  | out n => simp [St.objAt, e.2.2.2]

theorem objAt_ofSS {st st' : St} (e : st'.ss = st.ss) : st'.objAt = st.objAt := by
  simp only [St.ss, SS.mk.injEq] at e
  funext i
  cases i with
  | loc k => exact congrFun e.2.2.1 k
  | out n => simp [St.objAt, e.2.2.2]

structure Bits where
  rL : List Nat := []
  rO : Bool := false
  rW : Bool := false
  wL : List Nat := []
  wO : Bool := false
  wW : Bool := false
  nr : List Nat := []
  mL : List Nat := []
  /-- It breaks off here. -/
  stop : Bool := false

def Bits.mind (a b : Bits) : Bool := a.nr.any fun k => b.mL.elem k
def Bits.clash (a b : Bits) : Bool :=
  (a.wL.any fun k => b.rL.elem k || b.wL.elem k) || (b.wL.any fun k => a.rL.elem k || a.wL.elem k) || a.mind b || b.mind a || (a.wO && (b.rO || b.wO)) || (b.wO && a.rO) || (a.wW && (b.rW || b.wW)) || (b.wW && a.rW)

structure Rec where
  dst : Option Nat
  v : AVal
  b : Bits
  loc : Nat → Option AObj
  σ : Sto

def Rec.apply (r : Rec) (s : SS) : SS where
  n := s.n
  get := match r.dst with
    | none => s.get
    | some d => fun t => if d = t then r.v else s.get t
  loc := fun k => if r.b.wL.elem k then r.loc k else s.loc k
  σ := { nobj := if r.b.wO then r.σ.nobj else s.σ.nobj, obj := if r.b.wO then r.σ.obj else s.σ.obj, nown := if r.b.wW then r.σ.nown else s.σ.nown, own := if r.b.wW then r.σ.own else s.σ.own }

def Rec.mk' (o : Oper) (b : Bits) (st' : St) : Rec := ⟨o.dst, match o.dst with | some d => st'.get d | none => .undef, b, fun k => lookup st'.loc k, st'.σ⟩

def SS.NoRefX (s : SS) (k : Nat) : Prop := (∀ t, t ≠ k → (s.get t).noRef k = true) ∧ ∀ j v, s.loc j = some v → j ≠ k → v.noRef k = true
def Rec.Says (r : Rec) (ds : List Nat) : Prop := ∀ k, ds.elem k = true → r.b.mL.elem k = false → (∀ t, r.dst = some t → t ≠ k → r.v.noRef k = true) ∧ ∀ j v, r.b.wL.elem j = true → r.loc j = some v → j ≠ k → v.noRef k = true
theorem Rec.apply_noRefX {r : Rec} {ds : List Nat} (h : r.Says ds) {k : Nat} (hk : ds.elem k = true) (hm : r.b.mL.elem k = false) {s : SS} (hs : s.NoRefX k) : (r.apply s).NoRefX k := by
  obtain ⟨h1, h2⟩ := h k hk hm
  refine ⟨fun t ht => ?_, fun j v hv hj => ?_⟩
  · simp only [Rec.apply]
    cases hd : r.dst with
    | none => exact hs.1 t ht
    | some d =>
      simp only []
      split
      · rename_i e; subst e; exact h1 d hd ht
      · exact hs.1 t ht
  · simp only [Rec.apply] at hv
    split at hv
    · rename_i e; exact h2 j v e hv hj
    · exact hs.2 j v hv hj
structure Agree (ops : Array Oper) (o : Oper) (b : Bits) (s s' : SS) : Prop where
  n : s.n = s'.n
  tmp : ∀ t, t ∈ o.looksAt ops → s.get t = s'.get t
  loc : ∀ k, b.rL.elem k = true → s.loc k = s'.loc k
  nr : ∀ k, b.nr.elem k = true → s.NoRefX k
  obj : b.rO = true → s.σ.obj = s'.σ.obj ∧ s.σ.nobj = s'.σ.nobj
  own : b.rW = true → s.σ.own = s'.σ.own ∧ s.σ.nown = s'.σ.nown

def Framed (P : Program) (ops : Array Oper) (pk : Prop) (Q : Exit → Act → World → Prop) (i : Nat) (o : Oper) (r : Rec) (s : SS) : Prop :=
  ∀ (γ : Gh) (w : World) (a : Act) (st : St), Conc γ w a st → Agree ops o r.b st.ss s → ∀ next : Act → World → Prop,
    (r.b.stop = false → ∀ γ' w' a' st', Conc γ' w' a' st' → EvoS γ w st γ' w' st' → st'.ss = r.apply st.ss → next a' w') → (pk → ∀ a' ch w', a'.defers = [] → okCh ch → PanS γ w st w' → Q (.panic ch) a' w') → wpOp P ops Q i next a w

def FramedAll (P : Program) (ops : Array Oper) (pk : Prop) (Q : Exit → Act → World → Prop) : Nat → List Oper → List Rec → SS → Prop
  | _, [], [], _ => True
  | i, o :: os, r :: rs, s => r.dst = o.dst ∧ Framed P ops pk Q i o r s ∧ FramedAll P ops pk Q (i + 1) os rs (r.apply s)
  | _, _, _, _ => False

def foldR (L : Nat → Bool) : List Rec → Nat → SS → SS
  | [], _, s => s
  | r :: rs, k, s => foldR L rs (k + 1) (if L k then r.apply s else s)

theorem apply_n (r : Rec) (s : SS) : (r.apply s).n = s.n := rfl

theorem foldR_n (L : Nat → Bool) : ∀ (rs : List Rec) (k : Nat) (s : SS), (foldR L rs k s).n = s.n
  | [], _, _ => rfl
  | r :: rs, k, s => by
    rw [foldR, foldR_n L rs]
    split <;> rfl

theorem foldR_tmp {L L' : Nat → Bool} (t : Nat) : ∀ (rs : List Rec) (k : Nat) (s s' : SS), s.get t = s'.get t → (∀ j r, rs[j]? = some r → r.dst = some t → L (k + j) = L' (k + j)) → (foldR L rs k s).get t = (foldR L' rs k s').get t
  | [], _, _, _, h, _ => h
  | r :: rs, k, s, s', h, hw => by
    rw [foldR, foldR]
    refine foldR_tmp t rs (k + 1) _ _ ?_ (fun j r' hj hd => by have := hw (j + 1) r' (by simpa using hj) hd; rwa [show k + 1 + j = k + (j + 1) by omega])
    by_cases hd : r.dst = some t
    · have := hw 0 r rfl hd
      simp only [Nat.add_zero] at this
      rw [this]
      split
      · simp [Rec.apply, hd]
      · exact h
    · have e : ∀ s : SS, (r.apply s).get t = s.get t := fun s => by
        cases hdd : r.dst with
        | none => simp [Rec.apply, hdd]
        | some d =>
          have : d ≠ t := fun e => hd (by rw [hdd, e])
          simp [Rec.apply, hdd, this]
      split <;> split <;> simp [e, h]

theorem foldR_noRefX {L : Nat → Bool} {ds : List Nat} {d : Nat} (hd : ds.elem d = true) : ∀ (rs : List Rec) (k : Nat) (s : SS), s.NoRefX d → (∀ r ∈ rs, r.Says ds) → (∀ j r, rs[j]? = some r → L (k + j) = true → r.b.mL.elem d = false) → (foldR L rs k s).NoRefX d
  | [], _, _, h, _, _ => h
  | r :: rs, k, s, h, hs, hL => by
    rw [foldR]
    refine foldR_noRefX hd rs (k + 1) _ ?_ (fun r' hr' => hs r' (List.mem_cons_of_mem _ hr')) (fun j r' hj hl => hL (j + 1) r' (by simpa using hj) (by rwa [show k + 1 + j = k + (j + 1) by omega] at hl))
    split
    · rename_i hl
      exact r.apply_noRefX (hs r (List.mem_cons_self ..)) hd (hL 0 r rfl (by simpa using hl)) h
    · exact h
theorem foldR_loc {L L' : Nat → Bool} (q : Nat) : ∀ (rs : List Rec) (k : Nat) (s s' : SS), s.loc q = s'.loc q → (∀ j r, rs[j]? = some r → r.b.wL.elem q = true → L (k + j) = L' (k + j)) → (foldR L rs k s).loc q = (foldR L' rs k s').loc q
  | [], _, _, _, h, _ => h
  | r :: rs, k, s, s', h, hw => by
    rw [foldR, foldR]
    refine foldR_loc q rs (k + 1) _ _ ?_ (fun j r' hj hd => by have := hw (j + 1) r' (by simpa using hj) hd; rwa [show k + 1 + j = k + (j + 1) by omega])
    by_cases hd : r.b.wL.elem q = true
    · have := hw 0 r rfl hd
      simp only [Nat.add_zero] at this
      rw [this]
      split
      · simp only [Rec.apply]
        rw [if_pos hd, if_pos hd]
      · exact h
    · split <;> split <;> simp only [Rec.apply, if_neg hd, h]

theorem foldR_obj {L L' : Nat → Bool} : ∀ (rs : List Rec) (k : Nat) (s s' : SS), (s.σ.obj = s'.σ.obj ∧ s.σ.nobj = s'.σ.nobj) → (∀ j r, rs[j]? = some r → r.b.wO = true → L (k + j) = L' (k + j)) →
    (foldR L rs k s).σ.obj = (foldR L' rs k s').σ.obj ∧ (foldR L rs k s).σ.nobj = (foldR L' rs k s').σ.nobj
  | [], _, _, _, h, _ => h
  | r :: rs, k, s, s', h, hw => by
    rw [foldR, foldR]
    refine foldR_obj rs (k + 1) _ _ ?_ (fun j r' hj hd => by have := hw (j + 1) r' (by simpa using hj) hd; rwa [show k + 1 + j = k + (j + 1) by omega])
    by_cases hd : r.b.wO = true
    · have := hw 0 r rfl hd
      simp only [Nat.add_zero] at this
      rw [this]
      split
      · simp [Rec.apply, hd]
      · exact h
    · split <;> split <;> simp [Rec.apply, hd, h]

theorem foldR_own {L L' : Nat → Bool} : ∀ (rs : List Rec) (k : Nat) (s s' : SS), (s.σ.own = s'.σ.own ∧ s.σ.nown = s'.σ.nown) → (∀ j r, rs[j]? = some r → r.b.wW = true → L (k + j) = L' (k + j)) →
    (foldR L rs k s).σ.own = (foldR L' rs k s').σ.own ∧ (foldR L rs k s).σ.nown = (foldR L' rs k s').σ.nown
  | [], _, _, _, h, _ => h
  | r :: rs, k, s, s', h, hw => by
    rw [foldR, foldR]
    refine foldR_own rs (k + 1) _ _ ?_ (fun j r' hj hd => by have := hw (j + 1) r' (by simpa using hj) hd; rwa [show k + 1 + j = k + (j + 1) by omega])
    by_cases hd : r.b.wW = true
    · have := hw 0 r rfl hd
      simp only [Nat.add_zero] at this
      rw [this]
      split
      · simp [Rec.apply, hd]
      · exact h
    · split <;> split <;> simp [Rec.apply, hd, h]

theorem framedAll_at {P : Program} {ops : Array Oper} {pk : Prop} {Q : Exit → Act → World → Prop} : ∀ (os : List Oper) (rs : List Rec) (k : Nat) (s : SS), FramedAll P ops pk Q k os rs s → ∀ (j : Nat) (o : Oper), os[j]? = some o →
    ∃ r, rs[j]? = some r ∧ r.dst = o.dst ∧ Framed P ops pk Q (k + j) o r (foldR (fun i => decide (i < k + j)) rs k s)
  | o :: os, r :: rs, k, s, h, 0, o', ho => by
    simp only [List.getElem?_cons_zero, Option.some.injEq] at ho
    subst ho
    refine ⟨r, rfl, h.1, ?_⟩
    have key : ∀ (rs : List Rec) (m : Nat) (s : SS), k ≤ m → foldR (fun i => decide (i < k + 0)) rs m s = s := by
      intro rs
      induction rs with
      | nil => intro m s _; rfl
      | cons r rs ih =>
        intro m s hm
        rw [foldR, if_neg (by simp only [decide_eq_true_eq]; omega)]
        exact ih _ _ (by omega)
    rw [key (r :: rs) k s (Nat.le_refl _)]
    simpa using h.2.1
  | o :: os, r :: rs, k, s, h, j + 1, o', ho => by
    obtain ⟨r', h1, h2, h3⟩ := framedAll_at os rs (k + 1) (r.apply s) h.2.2 j o' (by simpa using ho)
    refine ⟨r', by simpa using h1, h2, ?_⟩
    rw [foldR, if_pos (by simp only [decide_eq_true_eq]; omega)]
    rwa [show k + 1 + j = k + (j + 1) by omega] at h3
  | [], [], _, _, _, j, o', ho => by simp at ho
  | [], _ :: _, _, _, h, _, _, _ => h.elim
  | _ :: _, [], _, _, h, _, _, _ => h.elim

theorem foldR_none {L : Nat → Bool} : ∀ (rs : List Rec) (k : Nat) (s : SS), (∀ j, k ≤ j → L j = false) → foldR L rs k s = s
  | [], _, _, _ => rfl
  | r :: rs, k, s, h => by
    rw [foldR, h k (Nat.le_refl _)]
    exact foldR_none rs (k + 1) s (fun j hj => h j (by omega))

theorem foldR_succ : ∀ (rs : List Rec) (k i : Nat) (s : SS) (r : Rec), rs[i]? = some r → foldR (fun j => decide (j < k + i + 1)) rs k s = r.apply (foldR (fun j => decide (j < k + i)) rs k s)
  | r' :: rs, k, 0, s, r, h => by
    simp only [List.getElem?_cons_zero, Option.some.injEq] at h
    subst h
    rw [foldR, foldR, if_pos (by simp only [decide_eq_true_eq]; omega), if_neg (by simp only [decide_eq_true_eq]; omega), foldR_none rs (k + 1) _ (fun j hj => by simp only [decide_eq_false_iff_not]; omega), foldR_none rs (k + 1) _ (fun j hj => by simp only [decide_eq_false_iff_not]; omega)]
  | r' :: rs, k, i + 1, s, r, h => by
    have ih := foldR_succ rs (k + 1) i (r'.apply s) r (by simpa using h)
    rw [foldR, foldR, if_pos (by simp only [decide_eq_true_eq]; omega), if_pos (by simp only [decide_eq_true_eq]; omega)]
    rw [show k + (i + 1) = k + 1 + i by omega]
    exact ih
  | [], _, i, _, _, h => by simp at h

theorem framedAll_length {P : Program} {ops : Array Oper} {pk : Prop} {Q : Exit → Act → World → Prop} : ∀ (os : List Oper) (rs : List Rec) (k : Nat) (s : SS), FramedAll P ops pk Q k os rs s → os.length = rs.length
  | [], [], _, _, _ => rfl
  | o :: os, r :: rs, k, s, h => by simp [framedAll_length os rs (k + 1) _ h.2.2]
  | [], _ :: _, _, _, h => h.elim
  | _ :: _, [], _, _, h => h.elim

/-! ### The check -/

def edgesOf (o : Oper) : List Nat := (o.after.toList.filter (Region.binds .any)).map (·.on)

def maskOf (acc : List Nat) (es : List Nat) : Nat := es.foldl (fun s x => s ||| (2 ^ x ||| acc.getD x 0)) 0

def befL : List (List Nat) → List Nat → List Nat
  | [], acc => acc
  | e :: es, acc => befL es (acc ++ [maskOf acc e])

inductive Reach (E : Nat → List Nat) : Nat → Nat → Prop
  | one {j i : Nat} (h : i ∈ E j) : Reach E j i
  | more {j k i : Nat} (h : k ∈ E j) (r : Reach E k i) : Reach E j i

theorem maskOf_reach {E : Nat → List Nat} {acc : List Nat} {j : Nat} (hacc : ∀ k m, acc[k]? = some m → ∀ i, m.testBit i = true → Reach E k i) : ∀ (es : List Nat) (s : Nat), (∀ x ∈ es, x ∈ E j) → (∀ i, s.testBit i = true → Reach E j i) →
    ∀ i, (es.foldl (fun s x => s ||| (2 ^ x ||| acc.getD x 0)) s).testBit i = true → Reach E j i
  | [], s, _, hs, i, h => hs i h
  | x :: es, s, hE, hs, i, h => by
    refine maskOf_reach hacc es _ (fun y hy => hE y (by simp [hy])) (fun i hi => ?_) i h
    simp only [Nat.testBit_or, Bool.or_eq_true] at hi
    rcases hi with hi | hi | hi
    · exact hs i hi
    · have : x = i := by
        rw [Nat.testBit_two_pow] at hi
        simpa using hi
      subst this
      exact .one (hE x (by simp))
    · cases hx : acc[x]? with
      | none => simp [List.getD, hx] at hi
      | some m =>
        simp [List.getD, hx] at hi
        exact .more (hE x (by simp)) (hacc x m hx i hi)

theorem befL_reach {E : Nat → List Nat} : ∀ (es : List (List Nat)) (acc : List Nat), (∀ j e, es[j]? = some e → e = E (acc.length + j)) → (∀ k m, acc[k]? = some m → ∀ i, m.testBit i = true → Reach E k i) →
    ∀ k m, (befL es acc)[k]? = some m → ∀ i, m.testBit i = true → Reach E k i
  | [], acc, _, hacc => hacc
  | e :: es, acc, hE, hacc => by
    rw [befL]
    refine befL_reach es (acc ++ [maskOf acc e]) (fun j e' hj => ?_) (fun k m hk i hi => ?_)
    · have := hE (j + 1) e' (by simpa using hj)
      rw [this]
      congr 1
      simp
      omega
    · by_cases hlt : k < acc.length
      · rw [List.getElem?_append_left hlt] at hk
        exact hacc k m hk i hi
      · rw [List.getElem?_append_right (by omega)] at hk
        have hk0 : k - acc.length = 0 := by
          rcases Nat.eq_zero_or_pos (k - acc.length) with h | h
          · exact h
          · rw [List.getElem?_eq_none (by simp; omega)] at hk; cases hk
        rw [hk0] at hk
        simp only [List.getElem?_cons_zero, Option.some.injEq] at hk
        subst hk
        have : k = acc.length := by omega
        subst this
        have he := hE 0 e rfl
        simp only [Nat.add_zero] at he
        exact maskOf_reach hacc e 0 (fun x hx => he ▸ hx) (fun i hi => by simp at hi) i hi

theorem Reach.closed {E : Nat → List Nat} {S : Nat → Prop} (hS : ∀ j, S j → ∀ i ∈ E j, S i) {j i : Nat} (h : Reach E j i) : S j → S i := by
  induction h with
  | one h => exact fun hj => hS _ hj _ h
  | more h _ ih => exact fun hj => ih (hS _ hj _ h)

def pairOk (ops : Array Oper) (m : Nat) (oj : Oper) (bj : Bits) : Nat → List Oper → List Bits → Bool
  | i, o :: os, b :: bs => !bj.mind b && ((m.testBit i || (o.apart ops oj && !b.clash bj)) && pairOk ops m oj bj (i + 1) os bs)
  | _, _, _ => true

def pairsOk (ops : Array Oper) (os0 : List Oper) (bs0 : List Bits) : Nat → List Oper → List Bits → List Nat → Bool
  | j, o :: os, b :: bs, m :: ms => pairOk ops m o b 0 (os0.take j) (bs0.take j) && (edgesOf o).all (fun e => decide (e < j)) && pairsOk ops os0 bs0 (j + 1) os bs ms
  | _, _, _, _ => true

def drawOk (ops : Array Oper) (bs : List Bits) : Bool :=
  bs.length == ops.toList.length && (befL (ops.toList.map edgesOf) []).length == ops.toList.length && pairsOk ops ops.toList bs 0 ops.toList bs (befL (ops.toList.map edgesOf) [])

theorem pairOk_spec {ops : Array Oper} {m : Nat} {oj : Oper} {bj : Bits} : ∀ (os : List Oper) (bs : List Bits) (k : Nat), pairOk ops m oj bj k os bs = true → ∀ (i : Nat) (o : Oper) (b : Bits), os[i]? = some o → bs[i]? = some b →
    bj.mind b = false ∧ (m.testBit (k + i) = true ∨ (o.apart ops oj = true ∧ b.clash bj = false))
  | o :: os, b :: bs, k, h, 0, o', b', ho, hb => by
    simp only [List.getElem?_cons_zero, Option.some.injEq] at ho hb
    subst ho; subst hb
    simp only [pairOk, Bool.and_eq_true, Bool.or_eq_true, Bool.not_eq_true'] at h
    exact ⟨h.1, h.2.1⟩
  | o :: os, b :: bs, k, h, i + 1, o', b', ho, hb => by
    simp only [pairOk, Bool.and_eq_true] at h
    have := pairOk_spec os bs (k + 1) h.2.2 i o' b' (by simpa using ho) (by simpa using hb)
    rwa [show k + 1 + i = k + (i + 1) by omega] at this
  | [], _, _, _, i, _, _, ho, _ => by simp at ho
  | _ :: _, [], _, _, i, _, _, _, hb => by simp at hb

theorem pairsOk_spec {ops : Array Oper} {os0 : List Oper} {bs0 : List Bits} : ∀ (os : List Oper) (bs : List Bits) (ms : List Nat) (k : Nat), pairsOk ops os0 bs0 k os bs ms = true → ∀ (j : Nat) (o : Oper) (b : Bits) (m : Nat), os[j]? = some o → bs[j]? = some b → ms[j]? = some m →
    pairOk ops m o b 0 (os0.take (k + j)) (bs0.take (k + j)) = true ∧ ∀ e ∈ edgesOf o, e < k + j
  | o :: os, b :: bs, m :: ms, k, h, 0, o', b', m', ho, hb, hm => by
    simp only [List.getElem?_cons_zero, Option.some.injEq] at ho hb hm
    subst ho; subst hb; subst hm
    simp only [pairsOk, Bool.and_eq_true, List.all_eq_true, decide_eq_true_eq] at h
    exact ⟨h.1.1, h.1.2⟩
  | o :: os, b :: bs, m :: ms, k, h, j + 1, o', b', m', ho, hb, hm => by
    simp only [pairsOk, Bool.and_eq_true] at h
    have := pairsOk_spec os bs ms (k + 1) h.2 j o' b' m' (by simpa using ho) (by simpa using hb) (by simpa using hm)
    rwa [show k + 1 + j = k + (j + 1) by omega] at this
  | [], _, _, _, _, j, _, _, _, ho, _, _ => by simp at ho
  | _ :: _, [], _, _, _, j, _, _, _, _, hb, _ => by simp at hb
  | _ :: _, _ :: _, [], _, _, j, _, _, _, _, _, hm => by simp at hm

theorem drawOk_spec {ops : Array Oper} {bs : List Bits} (h : drawOk ops bs = true) : (∀ j o, ops[j]? = some o → ∀ e ∈ edgesOf o, e < j) ∧
    ∀ i j oi oj bi bj, i < j → ops[i]? = some oi → ops[j]? = some oj → bs[i]? = some bi → bs[j]? = some bj → bj.mind bi = false ∧ (Reach (fun j => (ops[j]?).elim [] edgesOf) j i ∨ (oi.apart ops oj = true ∧ bi.clash bj = false)) := by
  simp only [drawOk, Bool.and_eq_true, beq_iff_eq] at h
  obtain ⟨⟨h1, h2⟩, h3⟩ := h
  have hm : ∀ j, j < ops.size → ∃ m, (befL (ops.toList.map edgesOf) [])[j]? = some m := fun j hj => by
    have : j < (befL (ops.toList.map edgesOf) []).length := by rw [h2]; simpa using hj
    exact ⟨_, List.getElem?_eq_getElem this⟩
  have hlt : ∀ {j o}, ops[j]? = some o → j < ops.size := fun hj => (Array.getElem?_eq_some_iff.1 hj).1
  have hb : ∀ {j o}, ops[j]? = some o → ∃ b, bs[j]? = some b := fun {j o} hj => by
    have : j < bs.length := by rw [h1]; simpa using hlt hj
    exact ⟨_, List.getElem?_eq_getElem this⟩
  constructor
  · intro j o ho e he
    obtain ⟨m, hm⟩ := hm j (hlt ho)
    obtain ⟨b, hb⟩ := hb ho
    have := (pairsOk_spec ops.toList bs _ 0 h3 j o b m (by simpa using ho) hb hm).2 e he
    omega
  · intro i j oi oj bi bj hij ho hj hbi hbj
    obtain ⟨m, hm⟩ := hm j (hlt hj)
    have hp := (pairsOk_spec ops.toList bs _ 0 h3 j oj bj m (by simpa using hj) hbj hm).1
    simp only [Nat.zero_add] at hp
    have := pairOk_spec _ _ 0 hp i oi bi (by rw [List.getElem?_take, if_pos hij]; simpa using ho) (by rw [List.getElem?_take, if_pos hij]; exact hbi)
    simp only [Nat.zero_add] at this
    obtain ⟨h0, this⟩ := this
    refine ⟨h0, ?_⟩
    rcases this with h4 | h4
    · refine .inl (befL_reach (E := fun j => (ops[j]?).elim [] edgesOf) (ops.toList.map edgesOf) [] (fun k e hk => ?_) (fun k m hk => by simp at hk) j m hm i h4)
      simp only [List.getElem?_map] at hk
      cases hok : ops[k]? with
      | none => simp [hok] at hk
      | some o => simp [hok] at hk; simp [hok, hk]
    · exact .inr h4

/-! ### Every order -/

def unl (L : Array Bool) : Nat → Nat
  | 0 => 0
  | k + 1 => unl L k + if L.getD k true then 0 else 1

theorem unl_set {L : Array Bool} {i : Nat} (hi : i < L.size) (hL : L.getD i true = false) : ∀ k, i < k → unl (L.setIfInBounds i true) k + 1 = unl L k
  | 0, h => by omega
  | k + 1, h => by
    simp only [unl]
    by_cases e : i = k
    · subst e
      have h1 : (L.setIfInBounds i true).getD i true = true := by simp [Array.getD_eq_getD_getElem?]
      rw [h1, hL]
      have : ∀ m, m ≤ i → unl (L.setIfInBounds i true) m = unl L m := by
        intro m
        induction m with
        | zero => intro _; rfl
        | succ m ih =>
          intro hm
          simp only [unl]
          rw [ih (by omega)]
          have : (L.setIfInBounds i true).getD m true = L.getD m true := by
            simp only [Array.getD_eq_getD_getElem?]
            rw [Array.getElem?_setIfInBounds_ne (by omega)]
          rw [this]
      rw [this i (Nat.le_refl _)]
      simp
    · have ih := unl_set hi hL k (by omega)
      have : (L.setIfInBounds i true).getD k true = L.getD k true := by
        simp only [Array.getD_eq_getD_getElem?]
        rw [Array.getElem?_setIfInBounds_ne e]
      rw [this]
      omega

theorem unl_zero {L : Array Bool} : ∀ k, unl L k = 0 → ∀ i, i < k → L.getD i true = true
  | k + 1, h, i, hi => by
    simp only [unl] at h
    by_cases e : i = k
    · subst e
      cases hL : L.getD i true with
      | true => rfl
      | false => rw [hL] at h; simp at h
    · exact unl_zero k (by omega) i (by omega)

theorem mem_ready' {ops : Array Oper} {L : Array Bool} {i : Nat} : i ∈ Region.ready .any ops L ↔ i < ops.size ∧ L.getD i true = false ∧ ∃ o, ops[i]? = some o ∧ ∀ e ∈ edgesOf o, L.getD e false = true := by
  unfold Region.ready
  simp only [List.mem_filter, List.mem_range, Bool.and_eq_true, Bool.not_eq_true']
  constructor
  · rintro ⟨h1, h2, h3⟩
    refine ⟨h1, h2, ?_⟩
    cases ho : ops[i]? with
    | none => rw [ho] at h3; simp at h3
    | some o =>
      rw [ho] at h3
      refine ⟨o, rfl, fun e he => ?_⟩
      simp only [Option.map_some, Option.getD_some, ← Array.all_toList, List.all_eq_true, Bool.or_eq_true, Bool.not_eq_true'] at h3
      simp only [edgesOf, List.mem_map, List.mem_filter] at he
      obtain ⟨x, ⟨hx, hb⟩, rfl⟩ := he
      exact (h3 x hx).resolve_left (by rw [hb]; simp)
  · rintro ⟨h1, h2, o, ho, h3⟩
    refine ⟨h1, h2, ?_⟩
    rw [ho]
    simp only [Option.map_some, Option.getD_some, ← Array.all_toList, List.all_eq_true, Bool.or_eq_true, Bool.not_eq_true']
    intro x hx
    cases hb : Region.binds .any x with
    | false => exact .inl rfl
    | true => exact .inr (h3 x.on (by simp only [edgesOf, List.mem_map, List.mem_filter]; exact ⟨x, ⟨hx, hb⟩, rfl⟩))

theorem SS.ext' {s s' : SS} (h1 : s.n = s'.n) (h2 : ∀ t, s.get t = s'.get t) (h3 : ∀ k, s.loc k = s'.loc k) (h4 : s.σ.obj = s'.σ.obj ∧ s.σ.nobj = s'.σ.nobj) (h5 : s.σ.own = s'.σ.own ∧ s.σ.nown = s'.σ.nown) : s = s' := by
  obtain ⟨n, g, l, no, ob, nw, ow⟩ := s
  obtain ⟨n', g', l', no', ob', nw', ow'⟩ := s'
  simp only at h1 h2 h3 h4 h5
  subst h1
  have h3 : l = l' := funext h3
  subst h3
  obtain ⟨rfl, rfl⟩ := h4
  obtain ⟨rfl, rfl⟩ := h5
  have : g = g' := funext h2
  subst this
  rfl

theorem clash_loc {a b : Bits} {k : Nat} (hw : a.wL.elem k = true) (h : b.rL.elem k = true ∨ b.wL.elem k = true) : a.clash b = true := by
  have : (a.wL.any fun k => b.rL.elem k || b.wL.elem k) = true := by
    rw [List.any_eq_true]
    refine ⟨k, by simpa using hw, ?_⟩
    rcases h with h | h <;> simp only [h, Bool.or_true, Bool.true_or]
  simp only [Bits.clash, this, Bool.true_or]
theorem any_sound {P : Program} {ops : Array Oper} {pk : Prop} {Q : Exit → Act → World → Prop} {recs : List Rec} {s0 : SS} (hF : FramedAll P ops pk Q 0 ops.toList recs s0) (hok : drawOk ops (recs.map (·.b)) = true) {ds : List Nat} (hsay : ∀ r ∈ recs, r.Says ds) (hds : ∀ r ∈ recs, ∀ k, r.b.nr.elem k = true → ds.elem k = true) (hs0 : ∀ k, ds.elem k = true → s0.NoRefX k)
    (γ0 : Gh) (w0 : World) (st0 : St) (hQ : (∀ r ∈ recs, r.b.stop = false) → ∀ γ' w' a' st', Conc γ' w' a' st' → EvoS γ0 w0 st0 γ' w' st' → st'.ss = foldR (fun _ => true) recs 0 s0 → Q .normal a' w') (hP : pk → ∀ a' ch w', a'.defers = [] → okCh ch → PanS γ0 w0 st0 w' → Q (.panic ch) a' w') :
    ∀ (fuel : Nat) (L : Array Bool) (γ : Gh) (w : World) (a : Act) (st : St), L.size = ops.size → unl L ops.size ≤ fuel → (∀ j o, ops[j]? = some o → L.getD j false = true → ∀ e ∈ edgesOf o, L.getD e false = true) →
      Conc γ w a st → EvoS γ0 w0 st0 γ w st → st.ss = foldR (fun i => L.getD i false) recs 0 s0 → (∀ j r, recs[j]? = some r → L.getD j false = true → r.b.stop = false) → wpAny P .any ops Q fuel L a w := by
  obtain ⟨hback, hpair⟩ := drawOk_spec hok
  have hlen := framedAll_length _ _ _ _ hF
  have hgd : ∀ (L : Array Bool) (i : Nat), L.size = ops.size → i < ops.size → L.getD i true = L.getD i false := fun L i hL hi => by
    have : i < L.size := by omega
    simp [Array.getD_eq_getD_getElem?, this]
  -- nothing is ready only if all has been carried out
  have hall : ∀ (L : Array Bool), L.size = ops.size → Region.ready .any ops L = [] → ∀ i, i < ops.size → L.getD i true = true := by
    intro L hL hr i
    induction i using Nat.strongRecOn with
    | _ i ih =>
      intro hi
      cases hLi : L.getD i true with
      | true => rfl
      | false =>
        have : i ∈ Region.ready .any ops L := mem_ready'.2 ⟨hi, hLi, ops[i], by simp [hi], fun e he => by
          have hlt := hback i ops[i] (by simp [hi]) e he
          rw [← hgd L e hL (by omega)]
          exact ih e hlt (by omega)⟩
        rw [hr] at this
        cases this
  have hend : ∀ (L : Array Bool) (γ : Gh) (w : World) (a : Act) (st : St), L.size = ops.size → (∀ i, i < ops.size → L.getD i true = true) → Conc γ w a st → EvoS γ0 w0 st0 γ w st → st.ss = foldR (fun i => L.getD i false) recs 0 s0 → (∀ j r, recs[j]? = some r → L.getD j false = true → r.b.stop = false) → Q .normal a w := by
    intro L γ w a st hL hA hC hE hs hst
    have hLj : ∀ j r, recs[j]? = some r → (L.getD (0 + j) false) = true := fun j r hj => by
      have : j < ops.size := by
        have : j < recs.length := by
          rcases Nat.lt_or_ge j recs.length with h | h
          · exact h
          · rw [List.getElem?_eq_none h] at hj; cases hj
        rw [← hlen] at this
        simpa using this
      rw [Nat.zero_add, ← hgd L j hL this]
      exact hA j this
    refine hQ (fun r hr => ?_) γ w a st hC hE ?_
    · obtain ⟨j, hj⟩ := List.getElem?_of_mem hr
      have := hLj j r hj
      rw [Nat.zero_add] at this
      exact hst j r hj this
    rw [hs]
    exact SS.ext' (by rw [foldR_n, foldR_n]) (fun t => foldR_tmp t recs 0 s0 s0 rfl (fun j r hj _ => hLj j r hj)) (fun k => foldR_loc k recs 0 s0 s0 rfl (fun j r hj _ => hLj j r hj)) (foldR_obj recs 0 s0 s0 ⟨rfl, rfl⟩ (fun j r hj _ => hLj j r hj))
      (foldR_own recs 0 s0 s0 ⟨rfl, rfl⟩ (fun j r hj _ => hLj j r hj))
  intro fuel
  induction fuel with
  | zero =>
    intro L γ w a st hL hu hcl hC hE hs hst
    have hA : ∀ i, i < ops.size → L.getD i true = true := unl_zero _ (by omega)
    refine ⟨?_, hend L γ w a st hL hA hC hE hs hst⟩
    cases hr : Region.ready .any ops L with
    | nil => rfl
    | cons x xs =>
      have : x ∈ Region.ready .any ops L := by rw [hr]; simp
      obtain ⟨h1, h2, _⟩ := mem_ready'.1 this
      rw [hA x h1] at h2
      cases h2
  | succ fuel ih =>
    intro L γ w a st hL hu hcl hC hE hs hst
    refine ⟨fun hr => hend L γ w a st hL (hall L hL hr) hC hE hs hst, fun i hi => ?_⟩
    obtain ⟨hi1, hi2, o, ho, hed⟩ := mem_ready'.1 hi
    obtain ⟨r, hr, hrd, hfr⟩ := framedAll_at _ _ _ _ hF i o (by simpa using ho)
    simp only [Nat.zero_add] at hfr
    -- what is ordered ahead of an operation that has been carried out, has been carried out
    have hclR : ∀ j k, Reach (fun j => (ops[j]?).elim [] edgesOf) j k → L.getD j false = true → L.getD k false = true := fun j k h => h.closed (S := fun x => L.getD x false = true) (fun j hj k hk => by
      cases hoj : ops[j]? with
      | none => simp [hoj] at hk
      | some oj => simp [hoj] at hk; exact hcl j oj hoj hj k hk)
    have hLi : L.getD i false = false := by rw [← hgd L i hL hi1]; exact hi2
    -- .. and what is ordered ahead of this one too
    have hpre : ∀ k, Reach (fun j => (ops[j]?).elim [] edgesOf) i k → L.getD k false = true := fun k h => by
      cases h with
      | one h => simp [ho] at h; exact hed k h
      | more h h2 => simp [ho] at h; exact hclR _ _ h2 (hed _ h)
    -- whoever clashes with this one has been carried out just if it stands ahead
    have key : ∀ j rj oj, recs[j]? = some rj → ops[j]? = some oj → j ≠ i → (oj.apart ops o = false ∨ o.apart ops oj = false ∨ rj.b.clash r.b = true ∨ r.b.clash rj.b = true) → L.getD j false = decide (j < i) := by
      intro j rj oj hj hoj hne hc
      have hbj : (recs.map (·.b))[j]? = some rj.b := by simp [hj]
      have hbi : (recs.map (·.b))[i]? = some r.b := by simp [hr]
      have hsym1 : ∀ a b : Bits, a.clash b = b.clash a := fun a b => by
        cases a; cases b
        simp only [Bits.clash]
        simp only [Bool.and_or_distrib_left]
        ac_rfl
      have hsym2 : ∀ x y : Oper, x.apart ops y = true → y.apart ops x = true := fun x y h => by
        obtain ⟨h1, h2, h3⟩ := Oper.apart_spec h
        unfold Oper.apart
        cases hx : x.dst with
        | none =>
          cases hy : y.dst with
          | none => rfl
          | some d => have := h3 d hy; simp [hx, this]
        | some d1 =>
          have a1 := h1 d1 hx
          cases hy : y.dst with
          | none => simp [a1]
          | some d =>
            have a2 := h3 d hy
            have a3 := h2 d1 hx
            rw [hy] at a3
            have a4 : d1 ≠ d := fun e => a3 (by rw [e])
            simp [a1, a2, hx, a4]
      rcases Nat.lt_or_gt_of_ne hne with hlt | hlt
      · have : decide (j < i) = true := by simpa using hlt
        rw [this]
        rcases (hpair j i oj o rj.b r.b hlt hoj ho hbj hbi).2 with h | ⟨h1, h2⟩
        · exact hpre j h
        · exfalso
          rcases hc with hc | hc | hc | hc
          · rw [h1] at hc; cases hc
          · rw [hsym2 _ _ h1] at hc; cases hc
          · rw [h2] at hc; cases hc
          · rw [hsym1, h2] at hc; cases hc
      · have : decide (j < i) = false := by simp; omega
        rw [this]
        rcases (hpair i j o oj r.b rj.b hlt ho hoj hbi hbj).2 with h | ⟨h1, h2⟩
        · cases hLj : L.getD j false with
          | false => rfl
          | true =>
            have := hclR j i h hLj
            rw [hLi] at this
            cases this
        · exfalso
          rcases hc with hc | hc | hc | hc
          · rw [hsym2 _ _ h1] at hc; cases hc
          · rw [h1] at hc; cases hc
          · rw [hsym1, h2] at hc; cases hc
          · rw [h2] at hc; cases hc
    have hops : ∀ (j : Nat) (rj : Rec), recs[j]? = some rj → ∃ oj : Oper, ops[j]? = some oj ∧ rj.dst = oj.dst := fun j rj hj => by
      have hlt : j < ops.size := by
        have : j < recs.length := by
          rcases Nat.lt_or_ge j recs.length with h | h
          · exact h
          · rw [List.getElem?_eq_none h] at hj; cases hj
        rw [← hlen] at this
        simpa using this
      obtain ⟨r', h1, h2, _⟩ := framedAll_at _ _ _ _ hF j ops[j] (by simp [hlt])
      rw [hj] at h1; cases h1
      exact ⟨ops[j], by simp [hlt], h2⟩
    have hself : L.getD i false = decide (i < i) := by rw [hLi]; simp
    have same : ∀ (c : Rec → Prop), (∀ (j : Nat) (rj : Rec) (oj : Oper), recs[j]? = some rj → ops[j]? = some oj → rj.dst = oj.dst → j ≠ i → c rj → oj.apart ops o = false ∨ o.apart ops oj = false ∨ rj.b.clash r.b = true ∨ r.b.clash rj.b = true) → ∀ (j : Nat) (rj : Rec), recs[j]? = some rj → c rj → L.getD (0 + j) false = decide (0 + j < i) := by
      intro c hc j rj hj hcj
      rw [Nat.zero_add]
      by_cases e : j = i
      · rw [e]; exact hself
      · obtain ⟨oj, hoj, hd⟩ := hops j rj hj
        exact key j rj oj hj hoj e (hc j rj oj hj hoj hd e hcj)
    have hag : Agree ops o r.b st.ss (foldR (fun j => decide (j < i)) recs 0 s0) := by
      rw [hs]
      refine ⟨by rw [foldR_n, foldR_n], fun t ht => foldR_tmp t recs 0 s0 s0 rfl (same (fun rj => rj.dst = some t) ?_), fun k hb => foldR_loc k recs 0 s0 s0 rfl (same (fun rj => rj.b.wL.elem k = true) ?_), fun k hk => ?_, fun hb => foldR_obj recs 0 s0 s0 ⟨rfl, rfl⟩ (same (fun rj => rj.b.wO = true) ?_), fun hb => foldR_own recs 0 s0 s0 ⟨rfl, rfl⟩ (same (fun rj => rj.b.wW = true) ?_)⟩
      · intro j rj oj hj hoj hd hne hdt
        refine .inl ?_
        have : oj.dst = some t := by rw [← hd]; exact hdt
        have hcont : (o.looksAt ops).contains t = true := by simpa using ht
        simp only [Oper.apart, this, hcont]
        rfl
      · intro j rj oj hj hoj hd hne hw
        exact .inr (.inr (.inl (clash_loc hw (.inl hb))))
      · have hrm : r ∈ recs := List.mem_of_getElem? hr
        refine foldR_noRefX (hds r hrm k hk) recs 0 s0 (hs0 k (hds r hrm k hk)) hsay fun j rj hj hl => ?_
        rw [Nat.zero_add] at hl
        have hne : j ≠ i := fun e => by rw [e, hLi] at hl; cases hl
        obtain ⟨oj, hoj, hd⟩ := hops j rj hj
        have hbj : (recs.map (·.b))[j]? = some rj.b := by simp [hj]
        have hbi : (recs.map (·.b))[i]? = some r.b := by simp [hr]
        have hmind : r.b.mind rj.b = false := by
          rcases Nat.lt_or_gt_of_ne hne with hlt | hlt
          · exact (hpair j i oj o rj.b r.b hlt hoj ho hbj hbi).1
          · rcases (hpair i j o oj r.b rj.b hlt ho hoj hbi hbj).2 with h | ⟨_, h2⟩
            · have := hclR j i h hl
              rw [hLi] at this
              cases this
            · simp only [Bits.clash, Bool.or_eq_false_iff] at h2
              exact h2.1.1.1.1.1.2
        cases hm : rj.b.mL.elem k with
        | false => rfl
        | true =>
          have : r.b.mind rj.b = true := by
            unfold Bits.mind
            rw [List.any_eq_true]
            exact ⟨k, by simpa using hk, hm⟩
          rw [this] at hmind; cases hmind
      · intro j rj oj hj hoj hd hne hw
        exact .inr (.inr (.inl (by simp [Bits.clash, hw, hb])))
      · intro j rj oj hj hoj hd hne hw
        exact .inr (.inr (.inl (by simp [Bits.clash, hw, hb])))
    refine hfr γ w a st hC hag _ (fun hstop γ' w' a' st' hC' hE' hs' => ?_) (fun hp a' ch w' h1 h2 h3 => hP hp a' ch w' h1 h2 (PanS.trans hE h3))
    have hLset : ∀ j, (L.setIfInBounds i true).getD j false = if j = i then true else L.getD j false := fun j => by
      by_cases e : j = i
      · subst e
        have : j < L.size := by omega
        simp [Array.getD_eq_getD_getElem?, this]
      · simp only [Array.getD_eq_getD_getElem?, if_neg e]
        rw [Array.getElem?_setIfInBounds_ne (fun e' => e e'.symm)]
    refine ih _ γ' w' a' st' (by simpa using hL) ?_ ?_ hC' (hE.trans hE') ?_ (fun j rj hj hl => by
      rw [hLset] at hl
      by_cases ej : j = i
      · subst ej
        rw [hr] at hj; cases hj
        exact hstop
      · rw [if_neg ej] at hl
        exact hst j rj hj hl)
    · have := unl_set (L := L) (i := i) (by omega) hi2 ops.size hi1
      omega
    · intro j oj hoj hj e he
      rw [hLset] at hj ⊢
      by_cases ej : j = i
      · subst ej
        rw [ho] at hoj; cases hoj
        have := hed e he
        split
        · rfl
        · exact this
      · rw [if_neg ej] at hj
        have := hcl j oj hoj hj e he
        split
        · rfl
        · exact this
    · rw [hs', hs]
      have hsucc := foldR_succ recs 0 i s0 r hr
      simp only [Nat.zero_add] at hsucc
      -- of a component that the record leaves alone
      have off : ∀ (c : Rec → Prop), ¬ c r → ∀ j rj, recs[j]? = some rj → c rj → L.getD (0 + j) false = (L.setIfInBounds i true).getD (0 + j) false := fun c hc j rj hj hcj => by
        rw [Nat.zero_add, hLset]
        have : j ≠ i := fun e => by rw [e, hr] at hj; cases hj; exact hc hcj
        rw [if_neg this]
      -- of one that it turns
      have on : ∀ (c : Rec → Prop), (∀ (j : Nat) (rj : Rec) (oj : Oper), recs[j]? = some rj → ops[j]? = some oj → rj.dst = oj.dst → j ≠ i → c rj → oj.apart ops o = false ∨ o.apart ops oj = false ∨ rj.b.clash r.b = true ∨ r.b.clash rj.b = true) →
          ∀ (j : Nat) (rj : Rec), recs[j]? = some rj → c rj → decide (0 + j < i + 1) = (L.setIfInBounds i true).getD (0 + j) false := fun c hc j rj hj hcj => by
        rw [Nat.zero_add, hLset]
        by_cases e : j = i
        · subst e; simp
        · rw [if_neg e]
          obtain ⟨oj, hoj, hd⟩ := hops j rj hj
          rw [key j rj oj hj hoj e (hc j rj oj hj hoj hd e hcj)]
          have : j < i + 1 ↔ j < i := by omega
          simp [this]
      refine SS.ext' ?_ (fun t => ?_) (fun q => ?_) ?_ ?_
      · rw [apply_n, foldR_n, foldR_n]
      · by_cases hd : r.dst = some t
        · have h1 := foldR_tmp (L := fun j => decide (j < i + 1)) (L' := fun j => (L.setIfInBounds i true).getD j false) t recs 0 s0 s0 rfl (on (fun rj => rj.dst = some t) (fun j rj oj hj hoj hdj hne hdt => by
            refine .inl ?_
            have e1 : oj.dst = some t := by rw [← hdj]; exact hdt
            have e2 : o.dst = some t := by rw [← hrd]; exact hd
            simp only [Oper.apart, e1, e2]
            simp))
          rw [← h1, hsucc]
          simp [Rec.apply, hd]
        · have h1 := foldR_tmp (L := fun j => L.getD j false) (L' := fun j => (L.setIfInBounds i true).getD j false) t recs 0 s0 s0 rfl (off (fun rj => rj.dst = some t) hd)
          rw [← h1]
          cases hdd : r.dst with
          | none => simp [Rec.apply, hdd]
          | some d =>
            have : d ≠ t := fun e => hd (by rw [hdd, e])
            simp [Rec.apply, hdd, this]
      · by_cases hw : r.b.wL.elem q = true
        · have h1 := foldR_loc (L := fun j => decide (j < i + 1)) (L' := fun j => (L.setIfInBounds i true).getD j false) q recs 0 s0 s0 rfl (on (fun rj => rj.b.wL.elem q = true) (fun j rj oj hj hoj hdj hne hwj => .inr (.inr (.inl (clash_loc hwj (.inr hw))))))
          rw [← h1, hsucc]
          simp only [Rec.apply]
          rw [if_pos hw, if_pos hw]
        · have h1 := foldR_loc (L := fun j => L.getD j false) (L' := fun j => (L.setIfInBounds i true).getD j false) q recs 0 s0 s0 rfl (off (fun rj => rj.b.wL.elem q = true) hw)
          rw [← h1]
          simp only [Rec.apply]
          rw [if_neg hw]
      · by_cases hw : r.b.wO = true
        · have h1 := foldR_obj (L := fun j => decide (j < i + 1)) (L' := fun j => (L.setIfInBounds i true).getD j false) recs 0 s0 s0 ⟨rfl, rfl⟩ (on (fun rj => rj.b.wO = true) (fun j rj oj hj hoj hdj hne hwj => .inr (.inr (.inl (by simp [Bits.clash, hw, hwj])))))
          rw [← h1.1, ← h1.2, hsucc]
          simp [Rec.apply, hw]
        · have h1 := foldR_obj (L := fun j => L.getD j false) (L' := fun j => (L.setIfInBounds i true).getD j false) recs 0 s0 s0 ⟨rfl, rfl⟩ (off (fun rj => rj.b.wO = true) hw)
          rw [← h1.1, ← h1.2]
          simp [Rec.apply, hw]
      · by_cases hw : r.b.wW = true
        · have h1 := foldR_own (L := fun j => decide (j < i + 1)) (L' := fun j => (L.setIfInBounds i true).getD j false) recs 0 s0 s0 ⟨rfl, rfl⟩ (on (fun rj => rj.b.wW = true) (fun j rj oj hj hoj hdj hne hwj => .inr (.inr (.inl (by simp [Bits.clash, hw, hwj])))))
          rw [← h1.1, ← h1.2, hsucc]
          simp [Rec.apply, hw]
        · have h1 := foldR_own (L := fun j => L.getD j false) (L' := fun j => (L.setIfInBounds i true).getD j false) recs 0 s0 s0 ⟨rfl, rfl⟩ (off (fun rj => rj.b.wW = true) hw)
          rw [← h1.1, ← h1.2]
          simp [Rec.apply, hw]

end
end Go.AL
end

section
namespace Go.AL
noncomputable section
set_option linter.unusedSimpArgs false
set_option linter.unusedVariables false

def refOid : AVal → Option Oid
  | .ptr o _ => some o
  | .arr o _ _ _ => some o
  | .map o => some o
  | _ => none

def through : Op → List Operand
  | .load _ x => [x]
  | .lookup _ x _ _ => [x]
  | .convert _ _ x => [x]
  | .call ⟨.builtin _, args, _⟩ => args.toList
  | _ => []

def locRef (x : AVal) : List Nat := match refOid x with | some (.loc k) => [k] | _ => []
def isOutRef (x : AVal) : Bool := match refOid x with | some (.out _) => true | _ => false

def refBits (xs : List AVal) : Bits := { rL := xs.flatMap locRef, rO := xs.any isOutRef }

def stepOp0 (P : Program) (cfg : Cfg) (o : Oper) (st : St) : Option (Bool × St) :=
  match pureOp P st.eval st.objAt o.op with
  | some (p, v) => some (decide (p ∧ (st.fin cfg o.dst v).1), (st.fin cfg o.dst v).2)
  | none => effOp0 P cfg o st

def dBits0 (P : Program) (cfg : Cfg) (o : Oper) (st : St) : Option Bits :=
  match pureOp P st.eval st.objAt o.op with
  | some _ => some (refBits ((through o.op).map st.eval))
  | none =>
    match o.op with
    | .buildSlice _ _ _ => match o.dst with | some d => if cfg.wr.elem d then none else some {} | none => none
    | .makeSlice _ _ _ => match o.dst with | some d => if cfg.wr.elem d then none else some {} | none => none
    | .convert _ _ x => some (refBits [st.eval x])
    | .alloc _ => match o.dst with | some d => if cfg.out.elem d then some { rO := true, wO := true } else some { wL := [d], nr := [d] } | none => none
    | .store _ x _ =>
      match st.eval x with
      | .ptr (.loc k) _ => some { rL := [k], wL := [k] }
      | .ptr (.out _) _ => some { rO := true, wO := true }
      | _ => none
    | .mapUpdate _ m _ _ =>
      match st.eval m with
      | .map (.loc k) => some { rL := [k], wL := [k] }
      | .map (.out _) => some { rO := true, wO := true }
      | _ => none
    | .call ⟨.builtin .delete, args, _⟩ =>
      match args.toList, o.dst with
      | [m, _], none =>
        match st.eval m with
        | .map (.loc k) => some { rL := [k], wL := [k] }
        | .map (.out _) => some { rO := true, wO := true }
        | _ => none
      | _, _ => none
    | .call ⟨.builtin .append, args, _⟩ => some { refBits (args.toList.map st.eval) with rW := true, wW := true }
    | _ => none

def dBits (P : Program) (cfg : Cfg) (o : Oper) (st : St) : Option Bits :=
  match frzOp P cfg st.eval st.objAt o with
  | some _ => some (refBits ((through o.op).map st.eval))
  | none =>
  match arrOp P st.eval st.objAt o.op with
  | some (_, _, .out _, _) => some { refBits ((through o.op).map st.eval) with rO := true, wO := true }
  | some (_, _, .loc k, _) => some { refBits ((through o.op).map st.eval) with rL := k :: (refBits ((through o.op).map st.eval)).rL, wL := [k] }
  | none => dBits0 P cfg o st

theorem loadA_congr {P : Program} {lk lk' : Oid → Option AObj} {T : TypeId} {x : AVal} (h : ∀ o, refOid x = some o → lk' o = lk o) : loadA P lk' T x = loadA P lk T x := by
  unfold loadA
  cases tVar P T with
  | none => rfl
  | some ng => cases x with
    | ptr o off => simp only []; rw [h o rfl]
    | _ => rfl

theorem convA_congr {P : Program} {lk lk' : Oid → Option AObj} {s d : TypeId} {x : AVal} (h : ∀ o, refOid x = some o → lk' o = lk o) : convA P lk' s d x = convA P lk s d x := by
  unfold convA
  cases x with
  | arr o off len cap => simp only []; rw [h o rfl]
  | _ => rfl

theorem lookupA_congr {P : Program} {lk lk' : Oid → Option AObj} {T : TypeId} {x ix : AVal} {ok : Bool} (h : ∀ o, refOid x = some o → lk' o = lk o) : lookupA P lk' T x ix ok = lookupA P lk T x ix ok := by
  cases x with
  | map o => simp only [lookupA, h o rfl]
  | _ => rfl
theorem lenA_congr {P : Program} {lk lk' : Oid → Option AObj} {T : TypeId} {x : AVal} (h : ∀ o, refOid x = some o → lk' o = lk o) : lenA P lk' T x = lenA P lk T x := by
  unfold lenA
  cases P.underlying T with
  | none => rfl
  | some d =>
    cases x with
    | map o => cases d <;> simp only []; rw [h o rfl]
    | _ => cases d <;> rfl

theorem builtinA_congr {P : Program} {lk lk' : Oid → Option AObj} {b : Builtin} {ts : List TypeId} {xs : List AVal} (h : ∀ x ∈ xs, ∀ o, refOid x = some o → lk' o = lk o) : builtinA P lk' b ts xs = builtinA P lk b ts xs := by
  unfold builtinA
  split
  · rw [lenA_congr (h _ (by simp))]
  · rfl
  · rfl
  · rfl
  · rfl

theorem srcA_congr {P : Program} {lk lk' : Oid → Option AObj} {n : Nat} {T : TypeId} {x : AVal} (h : ∀ o, refOid x = some o → lk' o = lk o) : srcA P lk' n T x = srcA P lk n T x := by
  unfold srcA
  cases x with
  | arr o off len cap => simp only []; rw [h o rfl]
  | _ => rfl

theorem List.map_congr' {α β : Type} {f g : α → β} : ∀ {l : List α}, (∀ x ∈ l, f x = g x) → l.map f = l.map g
  | [], _ => rfl
  | x :: l, h => by simp only [List.map_cons]; rw [h x (by simp), List.map_congr' (fun y hy => h y (by simp [hy]))]

theorem Option.map_congr' {α β : Type} {f g : α → β} {l : Option α} (h : ∀ x ∈ l.toArray.toList, f x = g x) : l.map f = l.map g := by
  cases l with
  | none => rfl
  | some x => simp [h x (by simp)]

theorem pureOp_congr {P : Program} {ρ ρ' : Operand → AVal} {lk lk' : Oid → Option AObj} {op : Op} (h : ∀ x ∈ op.operands.toList, ρ' x = ρ x) (hl : ∀ x ∈ through op, ∀ o, refOid (ρ x) = some o → lk' o = lk o) :
    pureOp P ρ' lk' op = pureOp P ρ lk op := by
  cases op with
  | move x => simp [Op.operands] at h; simp [pureOp, h]
  | assign x => simp [Op.operands] at h; simp [pureOp, h]
  | pick c a b => simp [Op.operands] at h; simp [pureOp, h]
  | nilCheck x => simp [Op.operands] at h; simp [pureOp, h]
  | binOp op T x y t => simp [Op.operands] at h; simp [pureOp, h]
  | unOp op T x => simp [Op.operands] at h; simp [pureOp, h]
  | convert s d x =>
    simp [Op.operands] at h
    simp only [pureOp, h]
    exact convA_congr (hl x (by simp [through]))
  | makeInterface T x => simp [Op.operands] at h; simp [pureOp, h]
  | makeFunc fn f c =>
    simp only [Op.operands, Array.toList_append, List.mem_append] at h
    simp only [pureOp]
    rw [List.map_congr' (fun x hx => h x (.inl hx)), List.map_congr' (fun x hx => h x (.inr hx))]
  | slice T x lo hi mx =>
    simp only [Op.operands, Array.toList_append, List.mem_append] at h
    simp only [pureOp]
    rw [h x (.inl (.inl (.inl (by simp)))), Option.map_congr' (fun y hy => h y (.inl (.inl (.inr hy)))), Option.map_congr' (fun y hy => h y (.inl (.inr hy))), Option.map_congr' (fun y hy => h y (.inr hy))]
  | fieldAddr S x i => simp [Op.operands] at h; simp [pureOp, h]
  | field S x i => simp [Op.operands] at h; simp [pureOp, h]
  | indexAddr T x i => simp [Op.operands] at h; simp [pureOp, h]
  | index T x i => simp [Op.operands] at h; simp [pureOp, h]
  | load T x =>
    simp [Op.operands] at h
    simp only [pureOp, h]
    exact loadA_congr (hl x (by simp [through]))
  | lookup T x i ok =>
    simp [Op.operands] at h
    simp only [pureOp, h]
    exact lookupA_congr (hl x (by simp [through]))
  | build T ps =>
    simp only [Op.operands] at h
    simp only [pureOp]
    rw [List.map_congr' (f := fun x : Nat × Operand => (x.1, ρ' x.2)) (g := fun x => (x.1, ρ x.2)) (fun x hx => by rw [h x.2 (by simpa using ⟨x.1, by simpa using hx⟩)])]
  | typeAssert x xT T ok => simp [Op.operands] at h; simp [pureOp, h]
  | extract t i => simp [Op.operands] at h; simp [pureOp, h]
  | call c =>
    obtain ⟨callee, args, ts⟩ := c
    cases callee with
    | builtin b =>
      simp only [Op.operands, Call.operands, Array.toList_append, List.mem_append] at h
      simp only [pureOp]
      have e : args.toList.map ρ' = args.toList.map ρ := List.map_congr' (fun x hx => h x (.inr hx))
      rw [e]
      refine builtinA_congr (fun y hy o ho => ?_)
      obtain ⟨x, hx, rfl⟩ := List.mem_map.1 hy
      exact hl x (by simpa [through] using hx) o ho
    | _ => rfl
  | _ => rfl

theorem looks_eval {ops : Array Oper} {o : Oper} {b : Bits} {st st2 : St} (h : Agree ops o b st2.ss st.ss) : ∀ x ∈ o.op.operands.toList, st2.eval x = st.eval x := by
  intro x hx
  cases x with
  | tmp t =>
    refine h.tmp t ?_
    unfold Oper.looksAt
    refine List.mem_append.2 (.inl ?_)
    rw [List.mem_filterMap]
    exact ⟨.tmp t, hx, rfl⟩
  | _ => rfl

theorem lk_of_refBits {ops : Array Oper} {o : Oper} {xs : List AVal} {b : Bits} (hb : ∀ k, (refBits xs).rL.elem k = true → b.rL.elem k = true) (hb2 : (refBits xs).rO = true → b.rO = true) {st st2 : St} (h : Agree ops o b st2.ss st.ss) : ∀ x ∈ xs, ∀ i, refOid x = some i → st2.objAt i = st.objAt i := by
  intro x hx i hi
  cases i with
  | loc k =>
    have : (refBits xs).rL.elem k = true := by
      rw [List.elem_eq_mem, decide_eq_true_eq]
      exact List.mem_flatMap.2 ⟨x, hx, by simp [locRef, hi]⟩
    exact h.loc k (hb k this)
  | out n =>
    have : (refBits xs).rO = true := by simp only [refBits, List.any_eq_true]; exact ⟨x, hx, by simp [isOutRef, hi]⟩
    have := (h.obj (hb2 this)).1
    show st2.σ.obj n = st.σ.obj n
    rw [show st2.σ.obj = st.σ.obj from this]

theorem fin_ss {cfg : Cfg} {o : Oper} {b : Bits} {v : AVal} {st st2 : St} (hn : st2.n = st.n) (hL : b.wL = []) (hO : b.wO = false) (hW : b.wW = false) :
    (st2.fin cfg o.dst v).1 = (st.fin cfg o.dst v).1 ∧ (st2.fin cfg o.dst v).2.ss = (Rec.mk' o b (st.fin cfg o.dst v).2).apply st2.ss := by
  cases hd : o.dst with
  | none => simp [St.fin, Rec.mk', Rec.apply, hd, St.ss, hL, hO, hW, List.elem]
  | some d =>
    refine ⟨by simp [St.fin, hn], ?_⟩
    simp only [St.fin, Rec.mk', Rec.apply, hd, St.ss, hL, hO, hW, St.put_n, St.put_loc, St.put_σ, List.elem]
    simp only [Bool.false_eq_true, if_false]
    congr 1
    funext t
    rw [St.get_put, St.get_put, if_pos rfl]

theorem put_ss {cfg : Cfg} {o : Oper} {b : Bits} {d : Nat} {v : AVal} {st st2 : St} (hd : o.dst = some d) (hn : st2.n = st.n) (hL : b.wL = []) (hO : b.wO = false) (hW : b.wW = false) :
    (st2.put cfg.keep d v).ss = (Rec.mk' o b (st.put cfg.keep d v)).apply st2.ss := by
  have := (fin_ss (cfg := cfg) (o := o) (b := b) (v := v) hn hL hO hW).2
  rw [hd] at this
  exact this

theorem lookup_setLoc (st : St) (k : Nat) (x : AObj) (q : Nat) : lookup (st.setLoc k x).loc q = if k = q then some x else lookup st.loc q := by
  simp only [St.setLoc, lookup_insertAt]
theorem setLoc_ss {cfg : Cfg} {o : Oper} {b : Bits} {v : AVal} {st st2 : St} {k : Nat} {x : AObj} (hL : b.wL = [k]) (hO : b.wO = false) (hW : b.wW = false) :
    ((st2.setObj (.loc k) x).fin cfg o.dst v).2.ss = (Rec.mk' o b ((st.setObj (.loc k) x).fin cfg o.dst v).2).apply st2.ss := by
  have key : ∀ q, lookup (st2.setLoc k x).loc q = if [k].elem q = true then lookup (st.setLoc k x).loc q else lookup st2.loc q := fun q => by
    rw [lookup_setLoc, lookup_setLoc]
    by_cases e : k = q
    · subst e; simp
    · have : ([k].elem q) = false := by simp only [List.elem_eq_mem, List.mem_singleton, decide_eq_false_iff_not]; exact fun h => e h.symm
      rw [this, if_neg e]; rfl
  cases hd : o.dst with
  | none =>
    simp only [St.fin, Rec.mk', Rec.apply, hd, St.ss, hL, hO, hW, St.setObj]
    simp only [Bool.false_eq_true, if_false]
    congr 1
    funext q
    exact key q
  | some d =>
    simp only [St.fin, Rec.mk', Rec.apply, hd, St.ss, hL, hO, hW, St.put_n, St.put_loc, St.put_σ, St.setObj]
    simp only [Bool.false_eq_true, if_false]
    congr 1
    · funext t
      rw [St.get_put, St.get_put, if_pos rfl]
      rfl
    · funext q
      exact key q
theorem step_framed0 {P : Program} {cfg : Cfg} {ops : Array Oper} {o : Oper} {st : St} {b : Bits} (hb : dBits0 P cfg o st = some b) (hnr : b.nr = []) {p : Bool} {st' : St} (hs : stepOp0 P cfg o st = some (p, st')) {st2 : St} (hA : Agree ops o b st2.ss st.ss) :
    ∃ st2', stepOp0 P cfg o st2 = some (p, st2') ∧ st2'.ss = (Rec.mk' o b st').apply st2.ss := by
  have hev := looks_eval hA
  have hn : st2.n = st.n := hA.n
  unfold dBits0 at hb
  unfold stepOp0 at hs ⊢
  split at hb
  · rename_i pv hp
    obtain ⟨q, v⟩ := pv
    simp only [Option.some.injEq] at hb
    rw [hp] at hs
    simp only [Option.some.injEq, Prod.mk.injEq] at hs
    obtain ⟨rfl, rfl⟩ := hs
    have hc : pureOp P st2.eval st2.objAt o.op = some (q, v) := by
      rw [← hp]
      refine pureOp_congr hev (fun x hx => ?_)
      exact lk_of_refBits (xs := (through o.op).map st.eval) (by rw [hb]; exact fun _ => id) (by rw [hb]; exact id) hA _ (List.mem_map_of_mem hx)
    rw [hc]
    have hf := fin_ss (cfg := cfg) (o := o) (b := b) (v := v) hn (by rw [← hb]; rfl) (by rw [← hb]; rfl) (by rw [← hb]; rfl)
    refine ⟨_, ?_, hf.2⟩
    simp only [hf.1]
  · rename_i hp
    rw [hp] at hs
    simp only [] at hs
    split at hb
    · rename_i T len ps ho
      split at hb
      · rename_i d hd
        split at hb
        · cases hb
        · rename_i hw
          cases hb
          have hc : pureOp P st2.eval st2.objAt o.op = none := by rw [ho]; rfl
          rw [hc]
          simp only []
          unfold effOp0 at hs ⊢
          rw [ho] at hs hev ⊢
          simp only [hd] at hs ⊢
          have e : ps.toList.map (fun x => (x.1, st2.eval x.2)) = ps.toList.map (fun x => (x.1, st.eval x.2)) := List.map_congr' (fun x hx => by rw [hev x.2 (by simp only [Op.operands]; simpa using ⟨x.1, by simpa using hx⟩)])
          rw [e]
          unfold buildSliceA at hs ⊢
          split at hs
          · rename_i e' n bs zs he
            split at hs
            · rename_i z d' hz hd'
              cases hd'
              split at hs
              · rename_i hc2
                simp only [if_pos hc2]
                try rw [if_neg hw] at hs
                try rw [if_neg hw]
                simp only [Option.some.injEq, Prod.mk.injEq] at hs
                obtain ⟨rfl, rfl⟩ := hs
                exact ⟨_, by rw [hn], put_ss hd hn rfl rfl rfl⟩
              · cases hs
            · cases hs
          · cases hs
      · cases hb
    · rename_i T lo co ho
      split at hb
      · rename_i d hd
        split at hb
        · cases hb
        · rename_i hw
          cases hb
          have hc : pureOp P st2.eval st2.objAt o.op = none := by rw [ho]; rfl
          rw [hc]
          simp only []
          unfold effOp0 at hs ⊢
          rw [ho] at hs hev ⊢
          simp only [hd] at hs ⊢
          have e1 : st2.eval lo = st.eval lo := hev lo (by simp [Op.operands])
          have e2 : st2.eval co = st.eval co := hev co (by simp [Op.operands])
          unfold makeSliceA at hs ⊢
          rw [e1, e2]
          split at hs
          · rename_i e' n bs zs he
            split at hs
            · rename_i z d' l c hz hd' hl hc'
              cases hd'
              split at hs
              · rename_i hc2
                rw [if_pos hc2]
                try rw [if_neg hw] at hs
                try rw [if_neg hw]
                simp only [Option.some.injEq, Prod.mk.injEq] at hs
                obtain ⟨rfl, rfl⟩ := hs
                exact ⟨_, by rw [hn], put_ss hd hn rfl rfl rfl⟩
              · cases hs
            · cases hs
          · cases hs
      · cases hb
    · rename_i src dst x ho
      simp only [Option.some.injEq] at hb
      have ex : st2.eval x = st.eval x := hev x (by rw [ho]; simp [Op.operands])
      have hc : pureOp P st2.eval st2.objAt o.op = none := by
        rw [← hp]
        refine pureOp_congr hev (fun y hy => ?_)
        rw [ho] at hy
        simp only [through, List.mem_singleton] at hy
        subst hy
        exact lk_of_refBits (xs := [st.eval y]) (by rw [hb]; exact fun _ => id) (by rw [hb]; exact id) hA _ (by simp)
      rw [hc]
      simp only []
      unfold effOp0 at hs ⊢
      rw [ho] at hs ⊢
      simp only [] at hs ⊢
      rw [ex]
      unfold bytesOfA at hs ⊢
      split at hs
      · rename_i s d hsx hd
        split at hs
        · rename_i hc2
          simp only [hsx, hd, if_pos hc2]
          simp only [Option.some.injEq, Prod.mk.injEq] at hs
          obtain ⟨rfl, rfl⟩ := hs
          exact ⟨_, by rw [hn], put_ss hd hn (by rw [← hb]; rfl) (by rw [← hb]; rfl) (by rw [← hb]; rfl)⟩
        · rename_i hc1
          split at hs
          · rename_i hc2
            simp only [hsx, hd, if_neg hc1, if_pos hc2]
            simp only [Option.some.injEq, Prod.mk.injEq] at hs
            obtain ⟨rfl, rfl⟩ := hs
            exact ⟨_, by rw [hn], put_ss hd hn (by rw [← hb]; rfl) (by rw [← hb]; rfl) (by rw [← hb]; rfl)⟩
          · cases hs
      · cases hs
    · rename_i T ho
      split at hb
      · rename_i d hd
        split at hb
        · rename_i hw
          cases hb
          have hO1 : st2.σ.obj = st.σ.obj := (hA.obj rfl).1
          have hO2 : st2.σ.nobj = st.σ.nobj := (hA.obj rfl).2
          have hc : pureOp P st2.eval st2.objAt o.op = none := by rw [ho]; rfl
          rw [hc]
          simp only []
          unfold effOp0 at hs ⊢
          rw [ho] at hs ⊢
          simp only [hd] at hs ⊢
          split at hs
          · rename_i cs d' hz hd'
            cases hd'
            unfold allocA at hs ⊢
            rw [if_pos hw] at hs ⊢
            simp only [Option.some.injEq, Prod.mk.injEq] at hs
            obtain ⟨rfl, rfl⟩ := hs
            refine ⟨_, by rw [hn], ?_⟩
            simp only [Rec.mk', Rec.apply, hd, St.ss, St.put_n, St.put_loc, St.put_σ, Sto.push, hO1, hO2, if_true, Bool.false_eq_true, if_false]
            congr 1
            · exact hn.symm
            funext t
            rw [St.get_put]
            by_cases e : d = t
            · subst e
              rw [if_pos rfl, if_pos rfl, St.get_put, if_pos rfl]
            · rw [if_neg e, if_neg e]
              rfl
          · cases hs
        · cases hb
          cases hnr
      · cases hb
    · rename_i T x y ho
      have ex : st2.eval x = st.eval x := hev x (by rw [ho]; simp [Op.operands])
      have ey : st2.eval y = st.eval y := hev y (by rw [ho]; simp [Op.operands])
      have hc : pureOp P st2.eval st2.objAt o.op = none := by rw [ho]; rfl
      rw [hc]
      simp only []
      unfold effOp0 at hs ⊢
      rw [ho] at hs ⊢
      simp only [] at hs ⊢
      cases hd : o.dst with
      | some d => rw [hd] at hs; cases hs
      | none =>
        rw [hd] at hs
        simp only [] at hs ⊢
        rw [ex, ey]
        unfold storeA at hs ⊢
        split at hb
        · rename_i k off hx
          cases hb
          have hL : ∀ q, [k].elem q = true → lookup st2.loc q = lookup st.loc q := hA.loc
          rw [hx] at hs ⊢
          split at hs
          · rename_i n g o' off' ht hx'
            cases hx'
            have e1 : st2.objAt (.loc k) = st.objAt (.loc k) := hL k (by simp)
            simp only [ht, e1]
            split at hs
            · rename_i cs hcs
              split at hs
              · rename_i hz
                simp only [if_pos hz]
                simp only [Option.some.injEq, Prod.mk.injEq] at hs
                obtain ⟨rfl, rfl⟩ := hs
                refine ⟨_, rfl, ?_⟩
                have := setLoc_ss (cfg := cfg) (o := o) (b := { rL := [k], wL := [k] }) (v := .undef) (st := st) (st2 := st2) (k := k) (x := .cells (setRange cs off (st.eval y).cells)) rfl rfl rfl
                rw [hd] at this
                exact this
              · cases hs
            · cases hs
          · cases hs
        · rename_i k off hx
          cases hb
          have hO := (hA.obj rfl).1
          have hO : st2.σ.obj = st.σ.obj := hO
          have hN : st2.σ.nobj = st.σ.nobj := (hA.obj rfl).2
          rw [hx] at hs ⊢
          split at hs
          · rename_i n g o' off' ht hx'
            cases hx'
            have e1 : st2.objAt (.out k) = st.objAt (.out k) := by simp only [St.objAt, hO]
            simp only [ht, e1]
            split at hs
            · rename_i cs hcs
              split at hs
              · rename_i hz
                simp only [if_pos hz]
                simp only [Option.some.injEq, Prod.mk.injEq] at hs
                obtain ⟨rfl, rfl⟩ := hs
                refine ⟨_, rfl, ?_⟩
                simp [Rec.mk', Rec.apply, hd, St.ss, St.setObj, Sto.set, hO, hN]
                rfl
              · cases hs
            · cases hs
          · cases hs
        · cases hb
    · rename_i T m k x ho
      have em : st2.eval m = st.eval m := hev m (by rw [ho]; simp [Op.operands])
      have ek : st2.eval k = st.eval k := hev k (by rw [ho]; simp [Op.operands])
      have ex : st2.eval x = st.eval x := hev x (by rw [ho]; simp [Op.operands])
      have hc : pureOp P st2.eval st2.objAt o.op = none := by rw [ho]; rfl
      rw [hc]
      simp only []
      unfold effOp0 at hs ⊢
      rw [ho] at hs ⊢
      simp only [] at hs ⊢
      cases hd : o.dst with
      | some d => rw [hd] at hs; cases hs
      | none =>
        rw [hd] at hs
        simp only [] at hs ⊢
        rw [em, ek, ex]
        unfold mapPutA at hs ⊢
        split at hb
        · rename_i j hx
          cases hb
          have hL : ∀ q, [j].elem q = true → lookup st2.loc q = lookup st.loc q := hA.loc
          rw [hx] at hs ⊢
          split at hs
          · rename_i kt et o' ht hx'
            cases hx'
            have e1 : st2.objAt (.loc j) = st.objAt (.loc j) := hL j (by simp)
            simp only [ht, e1]
            split at hs
            · rename_i es hes
              simp only [Option.some.injEq, Prod.mk.injEq] at hs
              obtain ⟨rfl, rfl⟩ := hs
              refine ⟨_, rfl, ?_⟩
              have := setLoc_ss (cfg := cfg) (o := o) (b := { rL := [j], wL := [j] }) (v := .undef) (st := st) (st2 := st2) (k := j) (x := .map (mapPut (st.eval k) (st.eval x) es)) rfl rfl rfl
              rw [hd] at this
              exact this
            · cases hs
          · cases hs
        · rename_i j hx
          cases hb
          have hO : st2.σ.obj = st.σ.obj := (hA.obj rfl).1
          have hN : st2.σ.nobj = st.σ.nobj := (hA.obj rfl).2
          rw [hx] at hs ⊢
          split at hs
          · rename_i kt et o' ht hx'
            cases hx'
            have e1 : st2.objAt (.out j) = st.objAt (.out j) := by simp only [St.objAt, hO]
            simp only [ht, e1]
            split at hs
            · rename_i es hes
              simp only [Option.some.injEq, Prod.mk.injEq] at hs
              obtain ⟨rfl, rfl⟩ := hs
              refine ⟨_, rfl, ?_⟩
              simp [Rec.mk', Rec.apply, hd, St.ss, St.setObj, Sto.set, hO, hN]
              rfl
            · cases hs
          · cases hs
        · cases hb
    · rename_i args ts ho
      split at hb
      · rename_i m k ha hd
        have em : st2.eval m = st.eval m := hev m (by rw [ho]; simp only [Op.operands, Call.operands, Array.toList_append, List.mem_append]; exact .inr (by rw [ha]; simp))
        have ek : st2.eval k = st.eval k := hev k (by rw [ho]; simp only [Op.operands, Call.operands, Array.toList_append, List.mem_append]; exact .inr (by rw [ha]; simp))
        have hc : pureOp P st2.eval st2.objAt o.op = none := by
          rw [ho]; simp only [pureOp, builtinA]
        rw [hc]
        simp only []
        unfold effOp0 at hs ⊢
        rw [ho] at hs ⊢
        simp only [] at hs ⊢
        split at hs
        · rename_i m' k' T T' ha' ht
          rw [ha] at ha'
          simp only [List.cons.injEq, and_true] at ha'
          obtain ⟨rfl, rfl⟩ := ha'
          rw [em, ek]
          unfold mapDelA at hs ⊢
          split at hb
          · rename_i j hx
            cases hb
            have hL : ∀ q, [j].elem q = true → lookup st2.loc q = lookup st.loc q := hA.loc
            rw [hx] at hs ⊢
            split at hs
            · rename_i q st1 hA1
              split at hA1
              · rename_i kt et o' ht' hx'
                cases hx'
                have e1 : st2.objAt (.loc j) = st.objAt (.loc j) := hL j (by simp)
                simp only [ht', e1]
                split at hA1
                · rename_i es hes
                  simp only [Option.some.injEq, Prod.mk.injEq] at hs hA1
                  obtain ⟨rfl, rfl⟩ := hA1
                  obtain ⟨rfl, rfl⟩ := hs
                  refine ⟨(st2.setObj (.loc j) (.map (mapDel (st.eval k) es))), by simp [hd, St.fin], ?_⟩
                  have := setLoc_ss (cfg := cfg) (o := o) (b := { rL := [j], wL := [j] }) (v := .undef) (st := st) (st2 := st2) (k := j) (x := .map (mapDel (st.eval k) es)) rfl rfl rfl
                  rw [hd] at this
                  simpa [hd, St.fin] using this
                · cases hA1
              · cases hA1
            · cases hs
          · rename_i j hx
            cases hb
            have hO : st2.σ.obj = st.σ.obj := (hA.obj rfl).1
            have hN : st2.σ.nobj = st.σ.nobj := (hA.obj rfl).2
            rw [hx] at hs ⊢
            split at hs
            · rename_i q st1 hA1
              split at hA1
              · rename_i kt et o' ht' hx'
                cases hx'
                have e1 : st2.objAt (.out j) = st.objAt (.out j) := by simp only [St.objAt, hO]
                simp only [ht', e1]
                split at hA1
                · rename_i es hes
                  simp only [Option.some.injEq, Prod.mk.injEq] at hs hA1
                  obtain ⟨rfl, rfl⟩ := hA1
                  obtain ⟨rfl, rfl⟩ := hs
                  refine ⟨(st2.setObj (.out j) (.map (mapDel (st.eval k) es))), by simp [hd, St.fin], ?_⟩
                  simp [Rec.mk', Rec.apply, hd, St.ss, St.fin, St.setObj, Sto.set, hO, hN]
                  rfl
                · cases hA1
              · cases hA1
            · cases hs
          · cases hb
        · cases hs
      · cases hb
    · rename_i args ts ho
      simp only [Option.some.injEq] at hb
      have hmap : args.toList.map st2.eval = args.toList.map st.eval := List.map_congr' (fun x hx => hev x (by rw [ho]; simp only [Op.operands, Call.operands, Array.toList_append, List.mem_append]; exact .inr hx))
      have hlk : ∀ x ∈ args.toList, ∀ i, refOid (st.eval x) = some i → st2.objAt i = st.objAt i := fun x hx => lk_of_refBits (xs := args.toList.map st.eval) (by rw [← hb]; exact fun _ => id) (by rw [← hb]; exact id) hA _ (List.mem_map_of_mem hx)
      have hc : pureOp P st2.eval st2.objAt o.op = none := by
        rw [← hp]
        refine pureOp_congr hev (fun y hy => ?_)
        rw [ho] at hy
        exact hlk y (by simpa [through] using hy)
      rw [hc]
      simp only []
      unfold effOp0 at hs ⊢
      rw [ho] at hs ⊢
      simp only [] at hs ⊢
      split at hs
      · rename_i s x T T' ha ht
        have es : st2.eval s = st.eval s := hev s (by rw [ho]; simp only [Op.operands, Call.operands, Array.toList_append, List.mem_append]; exact .inr (by rw [ha]; simp))
        have ex : st2.eval x = st.eval x := hev x (by rw [ho]; simp only [Op.operands, Call.operands, Array.toList_append, List.mem_append]; exact .inr (by rw [ha]; simp))
        have hO1 : st2.σ.own = st.σ.own := (hA.own (by rw [← hb])).1
        have hO2 : st2.σ.nown = st.σ.nown := (hA.own (by rw [← hb])).2
        rw [es, ex]
        split at hs
        · rename_i q v σ' hAp
          simp only [Option.some.injEq, Prod.mk.injEq] at hs
          obtain ⟨rfl, rfl⟩ := hs
          obtain ⟨σ2, hAp2, g1, g2, g3, g4⟩ : ∃ σ2, appendA P st2.objAt st2.σ T T' (st.eval s) (st.eval x) = some (q, v, σ2) ∧ σ2.own = σ'.own ∧ σ2.nown = σ'.nown ∧ σ2.obj = st2.σ.obj ∧ σ2.nobj = st2.σ.nobj := by
            unfold appendA at hAp ⊢
            split at hAp
            · rename_i e n bs zs es0 s0 tag he hse
              split at hAp
              · rename_i hc2
                rw [if_pos hc2]
                split at hAp
                · rename_i q' es' hsrc
                  have hsrc2 : srcA P st2.objAt n T' (st.eval x) = some (q', es') := by
                    rw [← hsrc]
                    exact srcA_congr (hlk x (by rw [ha]; simp))
                  simp only [hsrc2]
                  split at hAp
                  · simp only [Option.some.injEq, Prod.mk.injEq] at hAp
                    obtain ⟨rfl, rfl, rfl⟩ := hAp
                    exact ⟨st2.σ.setOwn _ _, by rw [hO1], by simp [Sto.setOwn, hO1], hO2, rfl, rfl⟩
                  · cases hAp
                  · simp only [Option.some.injEq, Prod.mk.injEq] at hAp
                    obtain ⟨rfl, rfl, rfl⟩ := hAp
                    exact ⟨st2.σ.pushOwn _, by rw [hO2], by simp [Sto.pushOwn, hO1, hO2], by simp [Sto.pushOwn, hO2], rfl, rfl⟩
                  · simp only [Option.some.injEq, Prod.mk.injEq] at hAp
                    obtain ⟨rfl, rfl, rfl⟩ := hAp
                    exact ⟨st2.σ.pushOwn _, by rw [hO2], by simp [Sto.pushOwn, hO1, hO2], by simp [Sto.pushOwn, hO2], rfl, rfl⟩
                · cases hAp
              · cases hAp
            · cases hAp
          simp only [hAp2]
          cases hd : o.dst with
          | none =>
            refine ⟨{ st2 with σ := σ2 }, by simp [St.fin], ?_⟩
            simp only [St.fin, Rec.mk', Rec.apply, hd, St.ss, ← hb]
            simp only [refBits, if_true, Bool.false_eq_true, if_false]
            obtain ⟨a1, a2, a3, a4⟩ := σ2
            simp only at g1 g2 g3 g4
            subst g1; subst g2; subst g3; subst g4
            rfl
          | some d =>
            refine ⟨({ st2 with σ := σ2 } : St).put cfg.keep d v, by simp [St.fin, hn], ?_⟩
            simp only [St.fin, Rec.mk', Rec.apply, hd, St.ss, ← hb, St.put_n, St.put_loc, St.put_σ]
            simp only [refBits, if_true, Bool.false_eq_true, if_false]
            congr 1
            · funext t
              rw [St.get_put, St.get_put, if_pos rfl]
              rfl
            · obtain ⟨a1, a2, a3, a4⟩ := σ2
              simp only at g1 g2 g3 g4
              subst g1; subst g2; subst g3; subst g4
              rfl
        · cases hs
      · cases hs
    · cases hb

theorem srcC_congr {P : Program} {lk lk' : Oid → Option AObj} {n : Nat} {T : TypeId} {x : AVal} (h : ∀ o, refOid x = some o → lk' o = lk o) : srcC P lk' n T x = srcC P lk n T x := by
  unfold srcC
  cases x with
  | arr o off len cap => simp only []; rw [h o rfl]
  | _ => rfl

theorem arrOp_congr {P : Program} {ρ ρ' : Operand → AVal} {lk lk' : Oid → Option AObj} {op : Op} (h : ∀ x ∈ op.operands.toList, ρ' x = ρ x) (hl : ∀ x ∈ through op, ∀ o, refOid (ρ x) = some o → lk' o = lk o) :
    arrOp P ρ' lk' op = arrOp P ρ lk op := by
  cases op with
  | call c =>
    obtain ⟨ce, args, ts⟩ := c
    cases ce with
    | builtin b =>
      have h2 : ∀ x ∈ args.toList, ρ' x = ρ x := fun x hx => h x (by simp only [Op.operands, Call.operands, Array.toList_append, List.mem_append]; exact .inr hx)
      have hl2 : ∀ x ∈ args.toList, ∀ o, refOid (ρ x) = some o → lk' o = lk o := fun x hx => hl x (by simpa [through] using hx)
      cases b with
      | copy =>
        simp only [arrOp]
        cases ha : args.toList with
        | nil => rfl
        | cons d r =>
          cases r with
          | nil => rfl
          | cons y r =>
            cases r with
            | cons _ _ => rfl
            | nil =>
              rw [ha] at h2 hl2
              cases ht : ts.toList with
              | nil => rfl
              | cons T r =>
                cases r with
                | nil => rfl
                | cons T' r =>
                  cases r with
                  | cons _ _ => rfl
                  | nil =>
                    simp only [h2 d (by simp), h2 y (by simp)]
                    cases hd : ρ d with
                    | arr o off len cap =>
                      cases tElem P T with
                      | none => rfl
                      | some te =>
                        obtain ⟨e, n, bs, zs⟩ := te
                        simp only []
                        rw [hl2 d (by simp) o (by rw [hd]; rfl), srcC_congr (lk' := lk') (lk := lk) (hl2 y (by simp))]
                    | _ => rfl
      | append =>
        simp only [arrOp]
        cases ha : args.toList with
        | nil => rfl
        | cons d r =>
          cases r with
          | nil => rfl
          | cons y r =>
            cases r with
            | cons _ _ => rfl
            | nil =>
              rw [ha] at h2 hl2
              cases ht : ts.toList with
              | nil => rfl
              | cons T r =>
                cases r with
                | nil => rfl
                | cons T' r =>
                  cases r with
                  | cons _ _ => rfl
                  | nil =>
                    simp only [h2 d (by simp), h2 y (by simp)]
                    cases hd : ρ d with
                    | arr o off len cap =>
                      cases tElem P T with
                      | none => rfl
                      | some te =>
                        obtain ⟨e, n, bs, zs⟩ := te
                        simp only []
                        rw [hl2 d (by simp) o (by rw [hd]; rfl), srcC_congr (lk' := lk') (lk := lk) (hl2 y (by simp))]
                    | _ => rfl
      | clear =>
        simp only [arrOp]
        cases ha : args.toList with
        | nil => rfl
        | cons d r =>
          cases r with
          | cons _ _ => rfl
          | nil =>
            rw [ha] at h2 hl2
            cases ht : ts.toList with
            | nil => rfl
            | cons T r =>
              cases r with
              | cons _ _ => rfl
              | nil =>
                simp only [h2 d (by simp)]
                cases hd : ρ d with
                | arr o off len cap =>
                  cases tElem P T with
                  | none => rfl
                  | some te =>
                    obtain ⟨e, n, bs, zs⟩ := te
                    simp only []
                    rw [hl2 d (by simp) o (by rw [hd]; rfl)]
                | _ => rfl
      | _ => rfl
    | _ => rfl
  | _ => rfl

theorem arrOp_alone {P : Program} {cfg : Cfg} {o : Oper} {st : St} {x : Bool × AVal × Oid × List AVal} (h : arrOp P st.eval st.objAt o.op = some x) : pureOp P st.eval st.objAt o.op = none ∧ effOp0 P cfg o st = none := by
  unfold arrOp at h
  split at h
  · rename_i args ts ho
    refine ⟨by rw [ho]; simp [pureOp, builtinA], by unfold effOp0; rw [ho]⟩
  · rename_i args ts ho
    refine ⟨by rw [ho]; simp [pureOp, builtinA], ?_⟩
    split at h
    · rename_i d s T T' ha ht
      split at h
      · rename_i o1 off len cap e n bs zs hd he
        unfold effOp0
        rw [ho]
        simp only [ha, ht]
        have : appendA P st.objAt st.σ T T' (st.eval d) (st.eval s) = none := by
          unfold appendA
          rw [he, hd]
        rw [this]
      · cases h
    · cases h
  · rename_i args ts ho
    refine ⟨by rw [ho]; simp [pureOp, builtinA], by unfold effOp0; rw [ho]⟩
  · cases h

theorem frzOp_congr {P : Program} {cfg : Cfg} {ρ ρ' : Operand → AVal} {lk lk' : Oid → Option AObj} {o : Oper} (h : ∀ x ∈ o.op.operands.toList, ρ' x = ρ x) : frzOp P cfg ρ' lk' o = frzOp P cfg ρ lk o := by
  have key : ∀ T T' s x, frzA P lk' T T' s x = frzA P lk T T' s x := fun T T' s x => by
    unfold frzA
    split <;> rfl
  unfold frzOp
  cases ho : o.op with
  | call c =>
    obtain ⟨cal, args, ts⟩ := c
    cases cal with
    | builtin b =>
      cases b with
      | append =>
        cases o.dst with
        | none => rfl
        | some d =>
          simp only []
          split
          · split
            · rename_i s x T T' ha ht
              have es : ρ' s = ρ s := h s (by rw [ho]; simp only [Op.operands, Call.operands, Array.toList_append, List.mem_append]; exact .inr (by rw [ha]; simp))
              have ex : ρ' x = ρ x := h x (by rw [ho]; simp only [Op.operands, Call.operands, Array.toList_append, List.mem_append]; exact .inr (by rw [ha]; simp))
              rw [es, ex]
              exact key _ _ _ _
            · rfl
          · rfl
      | _ => rfl
    | _ => rfl
  | _ => rfl
theorem frzOp_pure {P : Program} {cfg : Cfg} {ρ : Operand → AVal} {lk : Oid → Option AObj} {o : Oper} {x : Bool × AVal} (h : frzOp P cfg ρ lk o = some x) (ρ' : Operand → AVal) (lk' : Oid → Option AObj) : pureOp P ρ' lk' o.op = none := by
  unfold frzOp at h
  split at h
  · rename_i args ts d ho hd
    rw [ho]; rfl
  · cases h

theorem step_framed {P : Program} {cfg : Cfg} {ops : Array Oper} {o : Oper} {st : St} {b : Bits} (hb : dBits P cfg o st = some b) (hnr : b.nr = []) {p : Bool} {st' : St} (hs : stepOp P cfg o st = some (p, st')) {st2 : St} (hA : Agree ops o b st2.ss st.ss) :
    ∃ st2', stepOp P cfg o st2 = some (p, st2') ∧ st2'.ss = (Rec.mk' o b st').apply st2.ss := by
  cases hf : frzOp P cfg st.eval st.objAt o with
  | some x =>
    obtain ⟨q, v⟩ := x
    have hf2 : frzOp P cfg st2.eval st2.objAt o = some (q, v) := by rw [← hf]; exact frzOp_congr (looks_eval hA)
    have hn : st2.n = st.n := hA.n
    have hb1 : refBits ((through o.op).map st.eval) = b := by
      unfold dBits at hb
      rw [hf] at hb
      exact Option.some.inj hb
    unfold stepOp at hs ⊢
    rw [frzOp_pure hf] at hs ⊢
    simp only [effOp, hf, hf2, Option.some.injEq, Prod.mk.injEq] at hs ⊢
    obtain ⟨rfl, rfl⟩ := hs
    have hfs := fin_ss (cfg := cfg) (o := o) (b := b) (v := v) hn (by rw [← hb1]; rfl) (by rw [← hb1]; rfl) (by rw [← hb1]; rfl)
    exact ⟨_, ⟨by rw [hfs.1], rfl⟩, hfs.2⟩
  | none =>
  have hf2 : frzOp P cfg st2.eval st2.objAt o = none := by rw [← hf]; exact frzOp_congr (looks_eval hA)
  have up : ∀ (s : St) (x : Bool × St), frzOp P cfg s.eval s.objAt o = none → stepOp0 P cfg o s = some x → stepOp P cfg o s = some x := by
    intro s x hfs hx
    unfold stepOp0 at hx
    unfold stepOp
    split at hx
    · rename_i q v hp
      rw [hp]; exact hx
    · rename_i hp
      rw [hp]
      simp only [effOp, hfs, hx]
  cases ha : arrOp P st.eval st.objAt o.op with
  | none =>
    have hb0 : dBits0 P cfg o st = some b := by
      unfold dBits at hb
      rw [hf] at hb
      simp only [ha] at hb
      exact hb
    have hs0 : stepOp0 P cfg o st = some (p, st') := by
      unfold stepOp at hs
      unfold stepOp0
      split at hs
      · rename_i q v hp
        rw [hp]; exact hs
      · rename_i hp
        rw [hp]
        simp only [effOp, hf] at hs
        split at hs
        · rename_i x hx; simp only [hx]; exact hs
        · rw [ha] at hs; cases hs
    obtain ⟨st2', h1, h2⟩ := step_framed0 hb0 hnr hs0 hA
    exact ⟨st2', up _ _ hf2 h1, h2⟩
  | some x =>
    obtain ⟨q, v, oid, cs⟩ := x
    have hev := looks_eval hA
    have hn : st2.n = st.n := hA.n
    obtain ⟨a1, a2⟩ := arrOp_alone (cfg := cfg) ha
    have hs1 : (decide (q ∧ ((st.setObj oid (.cells cs)).fin cfg o.dst v).1), ((st.setObj oid (.cells cs)).fin cfg o.dst v).2) = (p, st') := by
      unfold stepOp at hs
      rw [a1] at hs
      simp only [effOp, hf, a2, ha] at hs
      exact Option.some.inj hs
    have hbr : ∀ k, (refBits ((through o.op).map st.eval)).rL.elem k = true → b.rL.elem k = true := fun k h => by
      unfold dBits at hb
      rw [hf] at hb
      simp only [ha] at hb
      cases oid <;> (simp only [Option.some.injEq] at hb; subst hb; first | exact h | (rw [List.elem_eq_mem, decide_eq_true_eq] at h ⊢; exact List.mem_cons_of_mem _ h))
    have hbr2 : (refBits ((through o.op).map st.eval)).rO = true → b.rO = true := fun h => by
      unfold dBits at hb
      rw [hf] at hb
      simp only [ha] at hb
      cases oid <;> (simp only [Option.some.injEq] at hb; subst hb; first | rfl | exact h)
    have ha2 : arrOp P st2.eval st2.objAt o.op = some (q, v, oid, cs) := by
      rw [← ha]
      refine arrOp_congr hev (fun x hx => ?_)
      exact lk_of_refBits (xs := (through o.op).map st.eval) hbr hbr2 hA _ (List.mem_map_of_mem hx)
    obtain ⟨a3, a4⟩ := arrOp_alone (cfg := cfg) ha2
    refine ⟨((st2.setObj oid (.cells cs)).fin cfg o.dst v).2, ?_, ?_⟩
    · unfold stepOp
      rw [a3]
      simp only [effOp, hf2, a4, ha2]
      have e1 : ((st2.setObj oid (.cells cs)).fin cfg o.dst v).1 = ((st.setObj oid (.cells cs)).fin cfg o.dst v).1 := by
        cases o.dst with
        | none => rfl
        | some d => simp [St.fin, hn]
      rw [e1, ← (Prod.mk.inj hs1).1]
    · have hst' := (Prod.mk.inj hs1).2
      subst hst'
      unfold dBits at hb
      rw [hf] at hb
      simp only [ha] at hb
      cases oid with
      | loc k =>
        simp only [Option.some.injEq] at hb
        subst hb
        exact setLoc_ss rfl rfl rfl
      | out k =>
        simp only [Option.some.injEq] at hb
        subst hb
        have hO : st2.σ.obj = st.σ.obj := (hA.obj rfl).1
        have hN : st2.σ.nobj = st.σ.nobj := (hA.obj rfl).2
        cases hd : o.dst with
        | none => simp [Rec.mk', Rec.apply, hd, St.ss, St.fin, St.setObj, Sto.set, hO, hN, refBits]; rfl
        | some d =>
          simp only [Rec.mk', Rec.apply, hd, St.ss, St.fin, St.put_n, St.put_loc, St.put_σ, St.setObj, Sto.set, hO, hN, refBits]
          simp only [if_true, Bool.false_eq_true, if_false]
          congr 1
          funext t
          rw [St.get_put, St.get_put, if_pos rfl]
          rfl

end
end Go.AL
end

section
namespace Go.AL
noncomputable section
set_option linter.unusedSimpArgs false
set_option linter.unusedVariables false

def ansD (cfg : Cfg) (dst : Option Nat) (next : Bits → St → Prop) (st : St) : Ans → Prop
  | .pure c v => gb c (next {} (st.fin cfg dst v).2)
  | .own c v ow nw => gb c (next { rW := true, wW := true } ((st.setσ { st.σ with own := ow, nown := nw }).fin cfg dst v).2)
  | .full c v σ' => gb c (next { rO := true, rW := true, wO := true, wW := true } ((st.setσ σ').fin cfg dst v).2)
  | .nm x f => ∀ y, y = x → ansD cfg dst next st (f y)
  | .br b x y => brV b true (ansD cfg dst next st x) (ansD cfg dst next st y)
  | .pan c b bad x => gb c (brV b true (cfg.pan ∧ next { rO := true, rW := true, wO := true, wW := true, stop := true } (st.fin cfg dst bad).2) (ansD cfg dst next st x))
def dcallV (P : Program) (cfg : Cfg) (dst : Option Nat) (f : AVal) (args : List AVal) (next : Bits → St → Prop) (st : St) : Prop :=
  match calleeA f args with
  | some (g, xs) => gb (fok st dst && (isGo P g && noLocL xs)) (
    match cfg.orc g xs st.σ with
    | some a => ansD cfg dst next st a
    | none => False)
  | none => False

theorem fok_set {st : St} {dst : Option Nat} (h : fok st dst = true) (σ' : Sto) (cfg : Cfg) (v : AVal) : ((st.setσ σ').fin cfg dst v).1 := fok_fin (st := st.setσ σ') (by cases dst with | none => rfl | some d => exact h) cfg v

theorem dcallV_any {P : Program} {cfg : Cfg} (ho : OrcOk P cfg) {dst : Option Nat} {f : AVal} {args : List AVal} {next : Bits → St → Prop} {st : St} (h : dcallV P cfg dst f args next st) :
    ∃ g xs, calleeA f args = some (g, xs) ∧ isGo P g = true ∧ noLocL xs = true ∧
    ((∃ v, PCall P g xs v ∧ (st.fin cfg dst v).1 ∧ next {} (st.fin cfg dst v).2) ∨
      (∃ v ow nw, WCall P g xs v st.σ.own st.σ.nown ow nw ∧ ((st.setσ { st.σ with own := ow, nown := nw }).fin cfg dst v).1 ∧ next { rW := true, wW := true } ((st.setσ { st.σ with own := ow, nown := nw }).fin cfg dst v).2) ∨
      (∃ v σ', FCall P g xs st.σ v σ' ∧ ((st.setσ σ').fin cfg dst v).1 ∧ next { rO := true, rW := true, wO := true, wW := true } ((st.setσ σ').fin cfg dst v).2) ∨
      (∃ v, (cfg.pan ∧ XPan P g xs st.σ) ∧ (st.fin cfg dst v).1 ∧ next { rO := true, rW := true, wO := true, wW := true, stop := true } (st.fin cfg dst v).2)) := by
  unfold dcallV at h
  split at h
  · rename_i g xs hc
    obtain ⟨hb, h⟩ := gb_iff.1 h
    simp only [Bool.and_eq_true] at hb
    obtain ⟨k2, hg, hl⟩ := hb
    refine ⟨g, xs, hc, hg, hl, ?_⟩
    have hok := ho.call g xs st.σ
    split at h
    · rename_i a e
      rw [e] at hok
      clear e
      induction a with
      | pure c v =>
        obtain ⟨h1, h3⟩ := gb_iff.1 h
        exact .inl ⟨_, hok h1, fok_fin k2 cfg _, h3⟩
      | own c v ow nw =>
        obtain ⟨h1, h3⟩ := gb_iff.1 h
        exact .inr (.inl ⟨_, _, _, hok h1, fok_set k2 _ cfg _, h3⟩)
      | full c v σ' =>
        obtain ⟨h1, h3⟩ := gb_iff.1 h
        exact .inr (.inr (.inl ⟨_, _, hok h1, fok_set k2 _ cfg _, h3⟩))
      | nm x f ih => exact ih x hok (h x rfl)
      | br b x y ihx ihy =>
        cases b with
        | true => exact ihx (hok.1 rfl) ((brV_iff.1 h).1 rfl)
        | false => exact ihy (hok.2 rfl) ((brV_iff.1 h).2 rfl)
      | pan c b bad x ih =>
        obtain ⟨hc, h⟩ := gb_iff.1 h
        cases b with
        | true =>
          have h := (brV_iff.1 h).1 rfl
          exact .inr (.inr (.inr ⟨bad, ⟨h.1, (hok hc).1 rfl⟩, fok_fin k2 cfg _, h.2⟩))
        | false => exact ih ((hok hc).2 rfl) ((brV_iff.1 h).2 rfl)
    · exact h.elim
  · exact h.elim

def dopV (P : Program) (cfg : Cfg) (o : Oper) (next : Bits → St → Prop) (st : St) : Prop :=
  match o.op with
  | .call ⟨.value f, args, _⟩ => dcallV P cfg o.dst (st.eval f) (args.toList.map st.eval) next st
  | _ =>
    match dBits P cfg o st with
    | some b =>
      match pureOp P st.eval st.objAt o.op with
      | some (p, v) => gb (fok st o.dst && p) (nameV cfg o.dst v fun v => next b (st.fin cfg o.dst v).2)
      | none => match effOp P cfg o st with | some (p, st') => gb p (next b st') | none => False
    | none => False

def locAlloc (cfg : Cfg) (o : Oper) : Option Nat :=
  match o.op, o.dst with
  | .alloc _, some d => if cfg.out.elem d then none else some d
  | _, _ => none
def locAllocs (cfg : Cfg) (ops : Array Oper) : List Nat := ops.toList.filterMap (locAlloc cfg)
def says1 (o : Oper) (st' : St) (b : Bits) (k : Nat) : Bool :=
  (match o.dst with | some t => t == k || (st'.get t).noRef k | none => true) && b.wL.all fun j => j == k || (match lookup st'.loc j with | some x => x.noRef k | none => true)
def Bits.note (ds : List Nat) (o : Oper) (st' : St) (b : Bits) : Bits := { b with mL := ds.filter fun k => !says1 o st' b k }
def drawPre (cfg : Cfg) (ops : Array Oper) (st : St) : Bool := (locAllocs cfg ops).all fun d => (st.put cfg.keep d .undef).noRef d

def stopK (bs : List Bits) (X : Prop) : Prop := match bs.any (·.stop) with | true => True | false => X
theorem stopK_elim {bs : List Bits} {X : Prop} (h : stopK bs X) (hs : ∀ b ∈ bs, b.stop = false) : X := by
  unfold stopK at h
  have : bs.any (·.stop) = false := by
    rw [List.any_eq_false]
    intro b hb
    rw [hs b hb]
    exact Bool.false_ne_true
  rw [this] at h
  exact h
def drawV (P : Program) (cfg : Cfg) (ops : Array Oper) : List Oper → List Bits → (St → Prop) → St → Prop
  | [], bs, K, st => gb (drawOk ops bs.reverse) (stopK bs (K st))
  | o :: rest, bs, K, st =>
    match o.guard with
    | none => dopV P cfg o (fun b st' => drawV P cfg ops rest (b.note (locAllocs cfg ops) o st' :: bs) K st') st
    | some (j, want) =>
      match (ops[j]?).bind (·.dst) with
      | none => skipV cfg o (fun st' => drawV P cfg ops rest (({} : Bits).note (locAllocs cfg ops) o st' :: bs) K st') st
      | some g =>
        match st.get g with
        | .bool b => brV b want (dopV P cfg o (fun b st' => drawV P cfg ops rest (b.note (locAllocs cfg ops) o st' :: bs) K st') (st.put cfg.keep g (.bool want))) (skipV cfg o (fun st' => drawV P cfg ops rest (({} : Bits).note (locAllocs cfg ops) o st' :: bs) K st') (st.put cfg.keep g (.bool (!want))))
        | .tuple _ => skipV cfg o (fun st' => drawV P cfg ops rest (({} : Bits).note (locAllocs cfg ops) o st' :: bs) K st') st
        | _ => False

theorem ss_put_same (keep : List Nat) (st : St) (g : Nat) {v : AVal} (h : st.get g = v) : (st.put keep g v).ss = st.ss := by
  unfold St.ss
  rw [St.put_n, St.put_loc, St.put_σ]
  congr 1
  funext t
  exact get_put_same keep st g h t

theorem call_framed {P : Program} {cfg : Cfg} {o : Oper} {f : Operand} {args : Array Operand} {ts : Array TypeId} (ho : o.op = .call ⟨.value f, args, ts⟩) {g : FuncId} {xs : List AVal} {st2 : St}
    (hc : calleeA (st2.eval f) (args.toList.map st2.eval) = some (g, xs)) (hg : isGo P g = true) (hl : noLocL xs = true) {v : AVal} {σ' : Sto} (hA : ACall P g xs st2.σ fun r τ => r = v ∧ τ = σ') (hd : ((st2.setσ σ').fin cfg o.dst v).1)
    {γ : Gh} {w : World} {a : Act} (hC : Conc γ w a st2) {next : Act → World → Prop} {Q : Exit → Act → World → Prop} (hn : ∀ γ' w' a', Conc γ' w' a' ((st2.setσ σ').fin cfg o.dst v).2 → EvoS γ w st2 γ' w' ((st2.setσ σ').fin cfg o.dst v).2 → next a' w') : o.wp P a w next Q := by
  obtain ⟨vs, hrun, hr⟩ := execOp_call hC ho hc hg hl
  have hcall := hA γ w vs (hC.inv.sub (Sto.O_sub st2)) hr
  unfold Oper.wp
  rw [hrun]
  refine hcall.mono fun e w' ⟨u, r, γ', σ2, he, hrep, hi, hev, hrv, hσ⟩ => ?_
  subst he; subst hrv; subst hσ
  obtain ⟨γ2, c1, c2, c3⟩ := hC.afterCall hi hev
  exact hn _ _ _ (c1.fin cfg hd (c3 _ u hrep)) (EvoS.put c2 (fin_objAt _ _ _ _) (fin_σ _ _ _ _))

theorem callee_agree {ops : Array Oper} {o : Oper} {b : Bits} {f : Operand} {args : Array Operand} {ts : Array TypeId} (ho : o.op = .call ⟨.value f, args, ts⟩) {st st2 : St} (h : Agree ops o b st2.ss st.ss) :
    st2.eval f = st.eval f ∧ args.toList.map st2.eval = args.toList.map st.eval := by
  have hev := looks_eval h
  rw [ho] at hev
  simp only [Op.operands, Call.operands, Array.toList_append, List.mem_append] at hev
  exact ⟨hev f (.inl (by simp)), List.map_congr' (fun x hx => hev x (.inr hx))⟩

theorem wpOp_run {P : Program} {ops : Array Oper} {Q : Exit → Act → World → Prop} {i : Nat} {o : Oper} (hi : ops[i]? = some o) {a : Act} {w : World} {next : Act → World → Prop} (hw : Region.wanted o (yielded ops a.tmps) = true) (h : o.wp P a w next Q) : wpOp P ops Q i next a w := by
  unfold wpOp
  rw [hi]
  simp only []
  rw [if_pos hw]
  exact .inl h

theorem wpOp_skip {P : Program} {ops : Array Oper} {Q : Exit → Act → World → Prop} {i : Nat} {o : Oper} (hi : ops[i]? = some o) {a : Act} {w : World} {next : Act → World → Prop} (hw : ¬ Region.wanted o (yielded ops a.tmps) = true) (h : next (a.put o.dst undef) w) : wpOp P ops Q i next a w := by
  unfold wpOp
  rw [hi]
  simp only []
  rw [if_neg hw]
  exact h

theorem dBits_nr {P : Program} {cfg : Cfg} {o : Oper} {st : St} {b : Bits} (hla : locAlloc cfg o = none) (hb : dBits P cfg o st = some b) : b.nr = [] := by
  unfold dBits at hb
  split at hb
  · cases hb; rfl
  · split at hb
    · cases hb; rfl
    · cases hb; rfl
    · unfold dBits0 at hb
      split at hb
      · cases hb; rfl
      · split at hb
        · split at hb
          · split at hb
            · cases hb
            · cases hb; rfl
          · cases hb
        · split at hb
          · split at hb
            · cases hb
            · cases hb; rfl
          · cases hb
        · cases hb; rfl
        · rename_i T ho
          split at hb
          · rename_i d hd
            split at hb
            · cases hb; rfl
            · rename_i hc
              simp only [locAlloc, ho, hd, hc] at hla
              cases hla
          · cases hb
        · split at hb <;> cases hb <;> rfl
        · split at hb <;> cases hb <;> rfl
        · split at hb
          · split at hb <;> cases hb <;> rfl
          · cases hb
        · cases hb; rfl
        · cases hb
theorem alloc_step {P : Program} {cfg : Cfg} {o : Oper} {st st' : St} {b : Bits} {d : Nat} {p : Bool} (hla : locAlloc cfg o = some d) (hb : dBits P cfg o st = some b) (hs : stepOp P cfg o st = some (p, st')) (hp : p = true) :
    ∃ T cs, o.op = .alloc T ∧ o.dst = some d ∧ zeroA P T = some cs ∧ b = { wL := [d], nr := [d] } ∧ (st.put cfg.keep d .undef).noRef d = true ∧ noRefL d cs = true ∧ d < st.n ∧
      st' = ((st.put cfg.keep d .undef).setLoc d (.cells cs)).put cfg.keep d (.ptr (.loc d) 0) := by
  unfold locAlloc at hla
  split at hla
  · rename_i T d' ho hd
    split at hla
    · cases hla
    · rename_i hc
      cases hla
      have hpu : pureOp P st.eval st.objAt o.op = none := by rw [ho]; rfl
      have hfr : frzOp P cfg st.eval st.objAt o = none := by unfold frzOp; rw [ho]
      have har : arrOp P st.eval st.objAt o.op = none := by rw [ho]; rfl
      unfold dBits at hb
      rw [hfr] at hb
      simp only [har] at hb
      unfold dBits0 at hb
      rw [hpu, ho] at hb
      simp only [hd, hc] at hb
      unfold stepOp at hs
      rw [hpu] at hs
      simp only [effOp, hfr] at hs
      unfold effOp0 at hs
      simp only [ho, hd] at hs
      cases hz : zeroA P T with
      | none => rw [hz] at hs; simp only [har] at hs; cases hs
      | some cs =>
        rw [hz] at hs
        simp only [allocA, hc] at hs
        simp only [Bool.false_eq_true, if_false, Option.some.injEq, Prod.mk.injEq] at hs hb
        obtain ⟨h1, h2⟩ := hs
        rw [← h1] at hp
        obtain ⟨q1, q2, q3⟩ := of_decide_eq_true hp
        exact ⟨T, cs, ho, hd, hz, hb.symm, q1, q2, q3, h2.symm⟩
  · cases hla
theorem allocLoc_ss {cfg : Cfg} {o : Oper} {d : Nat} {x : AObj} {v : AVal} {st st2 : St} (hd : o.dst = some d) (hn : st2.n = st.n) :
    (((st2.put cfg.keep d .undef).setLoc d x).put cfg.keep d v).ss = (Rec.mk' o { wL := [d], nr := [d] } (((st.put cfg.keep d .undef).setLoc d x).put cfg.keep d v)).apply st2.ss := by
  simp only [Rec.mk', Rec.apply, hd, St.ss, St.put_n, St.put_loc, St.put_σ]
  simp only [Bool.false_eq_true, if_false]
  congr 1
  · show (st2.put cfg.keep d .undef).n = st2.n
    rw [St.put_n]
  · funext t
    rw [St.get_put, St.get_put, if_pos rfl]
    split
    · rfl
    · rename_i e
      show (st2.put cfg.keep d .undef).get t = st2.get t
      rw [St.get_put, if_neg e]
  · funext q
    rw [lookup_setLoc, lookup_setLoc]
    by_cases e : d = q
    · subst e; simp
    · have : ([d].elem q) = false := by simp only [List.elem_eq_mem, List.mem_singleton, decide_eq_false_iff_not]; exact fun h => e h.symm
      rw [this, if_neg e, St.put_loc]; rfl
  · show (st2.put cfg.keep d .undef).σ = st2.σ
    rw [St.put_σ]
theorem dBits_stop {P : Program} {cfg : Cfg} {o : Oper} {st : St} {b : Bits} (hb : dBits P cfg o st = some b) : b.stop = false := by
  unfold dBits dBits0 at hb
  repeat' (first | (cases hb; rfl) | (cases hb; done) | split at hb)
theorem dopV_sound {P : Program} {cfg : Cfg} (ho' : OrcOk P cfg) {ops : Array Oper} {Q : Exit → Act → World → Prop} {i : Nat} {o : Oper} (hi : ops[i]? = some o) {next : Bits → St → Prop} {st : St} (h : dopV P cfg o next st)
    (hw : ∀ (γ : Gh) (w : World) (a : Act) (st2 : St), Conc γ w a st2 → (∀ t, t ∈ o.looksAt ops → st2.get t = st.get t) → Region.wanted o (yielded ops a.tmps) = true) :
    ∃ r st', r.dst = o.dst ∧ Framed P ops cfg.pan Q i o r st.ss ∧ st'.ss = r.apply st.ss ∧ (∀ k, r.b.nr.elem k = true → locAlloc cfg o = some k) ∧ next r.b st' := by
  unfold dopV at h
  split at h
  · rename_i f args ts ho
    obtain ⟨g, xs, hc, hg, hl, h⟩ := dcallV_any ho' h
    · have hself : ∀ (v : AVal) (σ' : Sto) (b : Bits), (b.wO = true → True) → True := fun _ _ _ _ => trivial
      rcases h with ⟨v, hP, hd, hn⟩ | ⟨v, ow, nw, hP, hd, hn⟩ | ⟨v, σ', hP, hd, hn⟩ | ⟨v, hP, hd, hn⟩
      · refine ⟨Rec.mk' o {} (st.fin cfg o.dst v).2, _, rfl, ?_, (fin_ss rfl rfl rfl rfl).2, (fun k h => by cases h), hn⟩
        intro γ w a st2 hC hA nx hnx hpq
        obtain ⟨e1, e2⟩ := callee_agree ho hA
        have hfin := fin_ss (cfg := cfg) (o := o) (b := {}) (v := v) (st := st) (st2 := st2) hA.n rfl rfl rfl
        refine wpOp_run hi (hw γ w a st2 hC hA.tmp) (call_framed (cfg := cfg) ho (by rw [e1, e2]; exact hc) hg hl (hP st2.σ) ?_ hC fun γ' w' a' c1 c2 => hnx rfl _ _ _ _ c1 c2 hfin.2)
        show (st2.fin cfg o.dst v).1
        rw [hfin.1]; exact hd
      · have hap : ∀ st2 : St, st2.n = st.n → st2.σ.own = st.σ.own → st2.σ.nown = st.σ.nown → ((st2.setσ { st2.σ with own := ow, nown := nw }).fin cfg o.dst v).1 ∧
            ((st2.setσ { st2.σ with own := ow, nown := nw }).fin cfg o.dst v).2.ss = (Rec.mk' o { rW := true, wW := true } ((st.setσ { st.σ with own := ow, nown := nw }).fin cfg o.dst v).2).apply st2.ss := fun st2 h1 _ _ => by
          cases hdd : o.dst with
          | none =>
            refine ⟨rfl, ?_⟩
            simp only [St.fin, St.setσ, Rec.mk', Rec.apply, hdd, St.ss, List.elem]
            simp only [if_true, Bool.false_eq_true, if_false]
            rfl
          | some d =>
            rw [hdd] at hd
            refine ⟨?_, ?_⟩
            · have : d < st.n := of_decide_eq_true hd
              exact decide_eq_true (by show d < st2.n; rw [h1]; exact this)
            · simp only [St.fin, Rec.mk', Rec.apply, hdd, St.ss, St.put_n, St.put_loc, St.put_σ, St.setσ, List.elem]
              simp only [if_true, Bool.false_eq_true, if_false]
              congr 1
              funext t
              rw [St.get_put, St.get_put, if_pos rfl]
              rfl
        refine ⟨Rec.mk' o { rW := true, wW := true } ((st.setσ { st.σ with own := ow, nown := nw }).fin cfg o.dst v).2, _, rfl, ?_, (hap st rfl rfl rfl).2, (fun k h => by cases h), hn⟩
        intro γ w a st2 hC hA nx hnx hpq
        obtain ⟨e1, e2⟩ := callee_agree ho hA
        have hO := hA.own rfl
        obtain ⟨f1, f2⟩ := hap st2 hA.n hO.1 hO.2
        exact wpOp_run hi (hw γ w a st2 hC hA.tmp) (call_framed (cfg := cfg) ho (by rw [e1, e2]; exact hc) hg hl (hP st2.σ hO.1 hO.2) f1 hC fun γ' w' a' c1 c2 => hnx rfl _ _ _ _ c1 c2 f2)
      · have hap : ∀ st2 : St, st2.n = st.n → ((st2.setσ σ').fin cfg o.dst v).1 ∧
            ((st2.setσ σ').fin cfg o.dst v).2.ss = (Rec.mk' o { rO := true, rW := true, wO := true, wW := true } ((st.setσ σ').fin cfg o.dst v).2).apply st2.ss := fun st2 h1 => by
          cases hdd : o.dst with
          | none =>
            refine ⟨rfl, ?_⟩
            simp only [St.fin, St.setσ, Rec.mk', Rec.apply, hdd, St.ss, List.elem]
            simp only [if_true, Bool.false_eq_true, if_false]
            rfl
          | some d =>
            rw [hdd] at hd
            refine ⟨?_, ?_⟩
            · have : d < st.n := of_decide_eq_true hd
              exact decide_eq_true (by show d < st2.n; rw [h1]; exact this)
            · simp only [St.fin, Rec.mk', Rec.apply, hdd, St.ss, St.put_n, St.put_loc, St.put_σ, St.setσ, List.elem]
              simp only [if_true, Bool.false_eq_true, if_false]
              congr 1
              funext t
              rw [St.get_put, St.get_put, if_pos rfl]
              rfl
        refine ⟨Rec.mk' o { rO := true, rW := true, wO := true, wW := true } ((st.setσ σ').fin cfg o.dst v).2, _, rfl, ?_, (hap st rfl).2, (fun k h => by cases h), hn⟩
        intro γ w a st2 hC hA nx hnx hpq
        obtain ⟨e1, e2⟩ := callee_agree ho hA
        have hO := hA.own rfl
        have hB := hA.obj rfl
        have hσ : st2.σ = st.σ := by
          have h1 : st2.σ.obj = st.σ.obj := hB.1
          have h2 : st2.σ.nobj = st.σ.nobj := hB.2
          have h3 : st2.σ.own = st.σ.own := hO.1
          have h4 : st2.σ.nown = st.σ.nown := hO.2
          revert h1 h2 h3 h4
          generalize st2.σ = s2
          generalize st.σ = s1
          intro h1 h2 h3 h4
          cases s1; cases s2
          simp only at h1 h2 h3 h4
          subst h1; subst h2; subst h3; subst h4
          rfl
        obtain ⟨f1, f2⟩ := hap st2 hA.n
        exact wpOp_run hi (hw γ w a st2 hC hA.tmp) (call_framed (cfg := cfg) ho (by rw [e1, e2]; exact hc) hg hl (by rw [hσ]; exact hP) f1 hC fun γ' w' a' c1 c2 => hnx rfl _ _ _ _ c1 c2 f2)
      · have hap : ∀ st2 : St, st2.n = st.n → ((st2.setσ st.σ).fin cfg o.dst v).1 ∧
            ((st2.setσ st.σ).fin cfg o.dst v).2.ss = (Rec.mk' o { rO := true, rW := true, wO := true, wW := true, stop := true } (st.fin cfg o.dst v).2).apply st2.ss := fun st2 h1 => by
          cases hdd : o.dst with
          | none =>
            refine ⟨rfl, ?_⟩
            simp only [St.fin, St.setσ, Rec.mk', Rec.apply, hdd, St.ss, List.elem]
            simp only [if_true, Bool.false_eq_true, if_false]
            rfl
          | some d =>
            rw [hdd] at hd
            refine ⟨?_, ?_⟩
            · have : d < st.n := of_decide_eq_true hd
              exact decide_eq_true (by show d < st2.n; rw [h1]; exact this)
            · simp only [St.fin, Rec.mk', Rec.apply, hdd, St.ss, St.put_n, St.put_loc, St.put_σ, St.setσ, List.elem]
              simp only [if_true, Bool.false_eq_true, if_false]
              congr 1
              funext t
              rw [St.get_put, St.get_put, if_pos rfl]
              rfl
        refine ⟨Rec.mk' o { rO := true, rW := true, wO := true, wW := true, stop := true } (st.fin cfg o.dst v).2, _, rfl, ?_, (hap st rfl).2, (fun k h => by cases h), hn⟩
        intro γ w a st2 hC hA nx hnx hpq
        obtain ⟨e1, e2⟩ := callee_agree ho hA
        have hO := hA.own rfl
        have hB := hA.obj rfl
        have hσ : st2.σ = st.σ := by
          have h1 : st2.σ.obj = st.σ.obj := hB.1
          have h2 : st2.σ.nobj = st.σ.nobj := hB.2
          have h3 : st2.σ.own = st.σ.own := hO.1
          have h4 : st2.σ.nown = st.σ.nown := hO.2
          revert h1 h2 h3 h4
          generalize st2.σ = s2
          generalize st.σ = s1
          intro h1 h2 h3 h4
          cases s1; cases s2
          simp only at h1 h2 h3 h4
          subst h1; subst h2; subst h3; subst h4
          rfl
        obtain ⟨vs, hrun, hr⟩ := execOp_call hC ho (by rw [e1, e2]; exact hc) hg hl
        refine wpOp_run hi (hw γ w a st2 hC hA.tmp) ?_
        unfold Oper.wp
        rw [hrun]
        have hX := hP.2
        rw [← hσ] at hX
        refine (hX γ w vs (hC.inv.sub (Sto.O_sub st2)) hr).mono fun e w' ⟨ch, he, hch, hq⟩ => ?_
        subst he
        exact hpq hP.1 _ _ _ hC.defers hch (hq.sub (Sto.O_sub st2))
  · split at h
    · rename_i b hb
      obtain ⟨p, st', hs, hp, hn⟩ := step_of (K := next b) h
      cases hla : locAlloc cfg o with
      | some d =>
        obtain ⟨T, cs, e1, e2, hz, e4, hpre, hrf, hdn, e5⟩ := alloc_step hla hb hs hp
        subst e4; subst e5
        refine ⟨Rec.mk' o { wL := [d], nr := [d] } _, _, rfl, ?_, allocLoc_ss (cfg := cfg) e2 rfl, fun k hk => ?_, hn⟩
        · intro γ w a st2 hC hA nx hnx hpq
          have hnr := hA.nr d (show [d].elem d = true by simp)
          have hN : (st2.put cfg.keep d .undef).NoRef d := by
            refine ⟨fun t => ?_, fun j v hv hj => hnr.2 j v (by rw [← hv, St.put_loc]; rfl) hj⟩
            rw [St.get_put]
            split
            · rfl
            · rename_i e; exact hnr.1 t (fun e' => e e'.symm)
          obtain ⟨inf, z, g1, g2, g3, g4⟩ := zeroA_sound hz
          have hn2 : st2.n = st.n := hA.n
          exact wpOp_run hi (hw γ w a st2 hC hA.tmp) ((allocLoc_does hC e1 e2 ⟨inf, z, g1, g2, g3 γ w, g4⟩ hrf (by rw [hn2]; exact hdn) hN).wp fun γ' w' a' c1 c2 => hnx rfl _ _ _ _ c1 c2 (allocLoc_ss (cfg := cfg) e2 hn2))
        · have hk : [d].elem k = true := hk
          have : k = d := by simpa using hk
          rw [this]
      | none =>
      have hb0 := dBits_nr hla hb
      have hself : st'.ss = (Rec.mk' o b st').apply st.ss := by
        obtain ⟨st2', h1, h2⟩ := step_framed (ops := ops) hb hb0 hs (st2 := st) ⟨rfl, fun _ _ => rfl, fun _ _ => rfl, (fun k hk => by rw [hb0] at hk; cases hk), fun _ => ⟨rfl, rfl⟩, fun _ => ⟨rfl, rfl⟩⟩
        rw [hs] at h1
        cases h1
        exact h2
      refine ⟨Rec.mk' o b st', st', rfl, ?_, hself, (fun k hk => by have hk : b.nr.elem k = true := hk; rw [hb0] at hk; cases hk), hn⟩
      intro γ w a st2 hC hA nx hnx hpq
      obtain ⟨st2', h1, h2⟩ := step_framed (ops := ops) hb hb0 hs hA
      exact wpOp_run hi (hw γ w a st2 hC hA.tmp) ((stepOp_sound hC h1 hp).wp fun γ' w' a' c1 c2 => hnx (dBits_stop hb) _ _ _ _ c1 c2 h2)
    · exact h.elim

theorem looks_guard {ops : Array Oper} {o : Oper} {j : Nat} {want : Bool} (hg : o.guard = some (j, want)) {g : Nat} (hj : (ops[j]?).bind (·.dst) = some g) : g ∈ o.looksAt ops := by
  unfold Oper.looksAt
  rw [hg]
  simp only []
  refine List.mem_append.2 (.inr ?_)
  rw [hj]
  simp

theorem skip_framed {P : Program} {cfg : Cfg} {ops : Array Oper} {Q : Exit → Act → World → Prop} {i : Nat} {o : Oper} (hi : ops[i]? = some o) {K : St → Prop} {st : St} (h : skipV cfg o K st)
    (hw : ∀ (γ : Gh) (w : World) (a : Act) (st2 : St), Conc γ w a st2 → (∀ t, t ∈ o.looksAt ops → st2.get t = st.get t) → ¬ Region.wanted o (yielded ops a.tmps) = true) :
    ∃ r st', r.dst = o.dst ∧ Framed P ops cfg.pan Q i o r st.ss ∧ st'.ss = r.apply st.ss ∧ r.b = {} ∧ K st' := by
  refine ⟨Rec.mk' o {} (st.fin cfg o.dst (.tuple [])).2, _, rfl, ?_, (fin_ss rfl rfl rfl rfl).2, rfl, (skipV_iff h).2⟩
  intro γ w a st2 hC hA nx hnx _
  have hfin := fin_ss (cfg := cfg) (o := o) (b := {}) (v := .tuple []) (st := st) (st2 := st2) hA.n rfl rfl rfl
  refine wpOp_skip hi (hw γ w a st2 hC hA.tmp) (hnx rfl γ w _ _ (hC.fin cfg (by rw [hfin.1]; exact (skipV_iff h).1) (.tuple (.nil _))) (EvoS.put (st' := st2) (Evo.refl _ _ _ _) (fin_objAt _ _ _ _) (fin_σ _ _ _ _)) hfin.2)

theorem drawV_sound {P : Program} {cfg : Cfg} (ho : OrcOk P cfg) {ops : Array Oper} {Q : Exit → Act → World → Prop} : ∀ (l : List Oper) (i : Nat) (bs : List Bits) (K : St → Prop) (st : St), (∀ j, l[j]? = ops[i + j]?) → drawV P cfg ops l bs K st →
    ∃ recs st', FramedAll P ops cfg.pan Q i l recs st.ss ∧ drawOk ops (bs.reverse ++ recs.map (·.b)) = true ∧ st'.ss = foldR (fun _ => true) recs i st.ss ∧ (∀ r ∈ recs, r.Says (locAllocs cfg ops) ∧ ∀ k, r.b.nr.elem k = true → (locAllocs cfg ops).elem k = true) ∧ ((∀ b ∈ bs, b.stop = false) → (∀ r ∈ recs, r.b.stop = false) → K st')
  | [], i, bs, K, st, _, h => ⟨[], st, trivial, by simpa using (gb_iff.1 h).1, rfl, (fun r hr => by cases hr), fun h1 _ => stopK_elim (gb_iff.1 h).2 h1⟩
  | o :: l, i, bs, K, st, hl, h => by
    have h0 : ops[i]? = some o := by have := hl 0; simpa using this.symm
    have hl' : ∀ j, l[j]? = ops[i + 1 + j]? := fun j => by have := hl (j + 1); simpa [Nat.add_assoc, Nat.add_comm 1 j] using this
    have hmem : o ∈ ops.toList := by rw [Array.mem_toList_iff]; exact Array.mem_of_getElem? h0
    have fin : ∀ (r : Rec) (st1 : St), r.dst = o.dst → Framed P ops cfg.pan Q i o r st.ss → st1.ss = r.apply st.ss → (∀ k, r.b.nr.elem k = true → locAlloc cfg o = some k) → drawV P cfg ops l (r.b.note (locAllocs cfg ops) o st1 :: bs) K st1 →
        ∃ recs st', FramedAll P ops cfg.pan Q i (o :: l) recs st.ss ∧ drawOk ops (bs.reverse ++ recs.map (·.b)) = true ∧ st'.ss = foldR (fun _ => true) recs i st.ss ∧ (∀ r ∈ recs, r.Says (locAllocs cfg ops) ∧ ∀ k, r.b.nr.elem k = true → (locAllocs cfg ops).elem k = true) ∧ ((∀ b ∈ bs, b.stop = false) → (∀ r ∈ recs, r.b.stop = false) → K st') := fun r st1 hr hf hs hnr hd => by
      obtain ⟨recs, st', g1, g2, g3, g5, g4⟩ := drawV_sound ho l (i + 1) (r.b.note (locAllocs cfg ops) o st1 :: bs) K st1 hl' hd
      rw [hs] at g1 g3
      refine ⟨{ r with b := r.b.note (locAllocs cfg ops) o st1 } :: recs, st', ⟨hr, ?_, g1⟩, by simpa using g2, g3, fun r' hr' => ?_, fun hbs hrs => g4 (fun b hb => by
        rcases List.mem_cons.1 hb with rfl | hb
        · exact hrs { r with b := r.b.note (locAllocs cfg ops) o st1 } (List.mem_cons_self ..)
        · exact hbs b hb) (fun r' hr' => hrs r' (List.mem_cons_of_mem _ hr'))⟩
      · intro γ w a st2 hC hA nx hnx hpq
        exact hf γ w a st2 hC ⟨hA.n, hA.tmp, hA.loc, hA.nr, hA.obj, hA.own⟩ nx hnx hpq
      · rcases List.mem_cons.1 hr' with rfl | hr'
        · refine ⟨fun k hk hm => ?_, fun k hk => ?_⟩
          · have hsay : says1 o st1 r.b k = true := by
              cases hc : says1 o st1 r.b k with
              | true => rfl
              | false =>
                have hm : (List.filter (fun k => !says1 o st1 r.b k) (locAllocs cfg ops)).elem k = false := hm
                simp only [List.elem_eq_mem, List.mem_filter, decide_eq_false_iff_not, not_and] at hm
                exact absurd (by rw [hc]; rfl) (hm (by simpa using hk))
            simp only [says1, Bool.and_eq_true, List.all_eq_true] at hsay
            obtain ⟨c1, c2⟩ := hsay
            have hs1 := hs
            simp only [St.ss, Rec.apply, SS.mk.injEq] at hs1
            refine ⟨fun t ht hne => ?_, fun j v hw hv hne => ?_⟩
            · have ht : r.dst = some t := ht
              have hv : st1.get t = r.v := by
                have := congrFun hs1.2.1 t
                rw [ht] at this
                simpa using this
              have ho' : o.dst = some t := by rw [← hr]; exact ht
              rw [ho'] at c1
              simp only [Bool.or_eq_true, beq_iff_eq] at c1
              rw [hv] at c1
              exact c1.resolve_left hne
            · have hw : r.b.wL.elem j = true := hw
              have hl1 : lookup st1.loc j = r.loc j := by
                have := congrFun hs1.2.2.1 j
                rw [if_pos hw] at this
                exact this
              have := c2 j (by simpa using hw)
              have hv : r.loc j = some v := hv
              rw [hl1, hv] at this
              simp only [Bool.or_eq_true, beq_iff_eq] at this
              exact this.resolve_left hne
          · have := hnr k hk
            simp only [locAllocs, List.elem_eq_mem, decide_eq_true_eq, List.mem_filterMap]
            exact ⟨o, hmem, this⟩
        · exact g5 r' hr'
    unfold drawV at h
    split at h
    · rename_i hg
      obtain ⟨r, st1, h1, h2, h3, h6, h4⟩ := dopV_sound (Q := Q) ho h0 h (fun γ w a st2 _ _ => by simp [Region.wanted, hg])
      exact fin r st1 h1 h2 h3 h6 h4
    · rename_i j want hg
      split at h
      · rename_i hj
        obtain ⟨r, st1, h1, h2, h3, h4, h5⟩ := skip_framed (P := P) (Q := Q) h0 h (fun γ w a st2 _ _ => by simp [Region.wanted, hg, yielded, hj])
        exact fin r st1 h1 h2 h3 (by rw [h4]; exact fun k hk => by cases hk) (by rw [h4]; exact h5)
      · rename_i g hj
        have hgl := looks_guard hg hj
        split at h
        · rename_i b hb
          by_cases hbw : b = want
          · have hss := ss_put_same cfg.keep st g (v := .bool want) (by rw [hb, hbw])
            obtain ⟨r, st1, h1, h2, h3, h6, h4⟩ := dopV_sound (Q := Q) ho h0 ((brV_iff.1 h).1 hbw) (fun γ w a st2 hC hA => by
              have hy := (yielded_of hC hj).1 want (by rw [hA g hgl, St.get_put, if_pos rfl])
              simp [Region.wanted, hg, hy])
            rw [hss] at h2 h3
            exact fin r st1 h1 h2 h3 h6 h4
          · have hbn : b = !want := by cases b <;> cases want <;> simp at hbw ⊢
            have hss := ss_put_same cfg.keep st g (v := .bool (!want)) (by rw [hb, hbn])
            obtain ⟨r, st1, h1, h2, h3, h4, h5⟩ := skip_framed (P := P) (Q := Q) h0 ((brV_iff.1 h).2 hbn) (fun γ w a st2 hC hA => by
              have hy := (yielded_of hC hj).1 (!want) (by rw [hA g hgl, St.get_put, if_pos rfl])
              simp [Region.wanted, hg, hy])
            rw [hss] at h2 h3
            exact fin r st1 h1 h2 h3 (by rw [h4]; exact fun k hk => by cases hk) (by rw [h4]; exact h5)
        · rename_i vs hb
          obtain ⟨r, st1, h1, h2, h3, h4, h5⟩ := skip_framed (P := P) (Q := Q) h0 h (fun γ w a st2 hC hA => by
            have hy := (yielded_of hC hj).2 vs (by rw [hA g hgl, hb])
            simp [Region.wanted, hg, hy])
          exact fin r st1 h1 h2 h3 (by rw [h4]; exact fun k hk => by cases hk) (by rw [h4]; exact h5)
        · exact h.elim

/-! ### Code -/

def St.endR (st : St) : St := { st with tm := [] }

theorem Conc.endR {γ : Gh} {w : World} {a : Act} {st : St} (h : Conc γ w a st) : Conc γ w a st.endR where
  size := h.size
  fr t := by
    have := h.fr t
    unfold St.get at this ⊢
    simp only [St.endR, lookup]
    cases hl : lookup st.fr t with
    | some v => rw [hl] at this; exact this
    | none => exact .undef _ _
  defers := h.defers
  inv := h.inv

def thenK (next : St → Prop) (K : Exit → St → Prop) : Exit → St → Prop
  | .normal, s => next s
  | e, s => K e s

def blockK (id : Nat) (K : Exit → St → Prop) : Exit → St → Prop
  | .exit i, s => if i = id then K .normal s else K (.exit i) s
  | e, s => K e s

def AVal.rest (w : Nat) : AVal → AVal
  | .slice es s t => match t with | .nil => .slice es w .ro | _ => .slice es s .ro
  | v => v
def St.growO (st : St) (i : Oid) (j w : Nat) : St :=
  match st.objAt i with
  | some (.cells cs) =>
    match cs[j]? with
    | some (.slice es s t) =>
      match t with
      | .nil => St.setObj { st with σ := st.σ.pushOwn es.length } i (.cells (cs.set j (.slice es w (.own st.σ.nown))))
      | .full => St.setObj { st with σ := st.σ.pushOwn es.length } i (.cells (cs.set j (.slice es s (.own st.σ.nown))))
      | _ => st
    | _ => st
  | _ => st
def growCode (x : Nat × Nat) : Oid × Nat × Nat :=
  match Nat.ble 10000 x.2 with
  | true => (.loc x.1, (x.2 - 12000) / 100, (x.2 - 12000) % 100)
  | false => (.out x.1, (x.2 - 2000) / 100, (x.2 - 2000) % 100)
def St.grow1 (ts : List Nat) (st : St) (x : Nat × Nat) : St :=
  match Nat.ble 2000 x.2 with
  | true => st.growO (growCode x).1 (growCode x).2.1 (growCode x).2.2
  | false =>
  match ts.elem x.1 with
  | false => st
  | true =>
    match Nat.ble 1000 x.2 with
    | true => { st with fr := insertAt x.1 ((st.get x.1).rest (x.2 - 1000)) st.fr }
    | false =>
    match st.get x.1 with
    | .slice es s t =>
      match t with
      | .nil => { st with fr := insertAt x.1 (.slice es x.2 (.own st.σ.nown)) st.fr, σ := st.σ.pushOwn es.length }
      | .full => { st with fr := insertAt x.1 (.slice es s (.own st.σ.nown)) st.fr, σ := st.σ.pushOwn es.length }
      | _ => st
    | _ => st
def St.growAll (ts : List Nat) : List (Nat × Nat) → St → St
  | [], st => st
  | x :: g, st => St.growAll ts g (st.grow1 ts x)
def St.norm0 (ts ls : List Nat) (st : St) : St :=
  { st with fr := ts.map (fun t => (t, st.get t)), tm := [], loc := ls.filterMap fun k => match lookup st.loc k with | some x => some (k, x) | none => none }
def St.norm (g : List (Nat × Nat)) (ts ls : List Nat) (st : St) : St := (St.growAll ts g st).norm0 ts ls

theorem lookup_mapId {β : Type} (f : Nat → β) : ∀ (ts : List Nat) (t : Nat), lookup (ts.map fun t => (t, f t)) t = if t ∈ ts then some (f t) else none
  | [], t => by simp [lookup]
  | x :: r, t => by
    simp only [List.map_cons, lookup]
    by_cases h : x = t
    · subst h; simp
    · rw [if_neg h, lookup_mapId f r t]
      have : ¬ t = x := fun e => h e.symm
      simp [this]

theorem lookup_keep (l : List (Nat × AObj)) : ∀ (ls : List Nat) (k : Nat) (x : AObj), lookup (ls.filterMap fun k => match lookup l k with | some x => some (k, x) | none => none) k = some x → lookup l k = some x
  | [], k, x, h => by simp [lookup] at h
  | j :: r, k, x, h => by
    simp only [List.filterMap_cons] at h
    cases hj : lookup l j with
    | none => rw [hj] at h; exact lookup_keep l r k x h
    | some y =>
      rw [hj] at h
      simp only [lookup] at h
      split at h
      · rename_i e; subst e; cases h; exact hj
      · exact lookup_keep l r k x h

theorem norm_sub (ts ls : List Nat) (st : St) : ∀ i x, (st.norm0 ts ls).objAt i = some x → st.objAt i = some x := by
  intro i x h
  cases i with
  | loc k => exact lookup_keep _ _ _ _ h
  | out n => exact h

theorem Conc.norm0 {γ : Gh} {w : World} {a : Act} {st : St} (h : Conc γ w a st) (ts ls : List Nat) : Conc γ w a (st.norm0 ts ls) where
  size := h.size
  fr t := by
    have := h.fr t
    unfold St.get
    simp only [St.norm0, lookup_mapId, lookup]
    by_cases ht : t ∈ ts
    · rw [if_pos ht]; exact this
    · rw [if_neg ht]; exact .undef _ _
  defers := h.defers
  inv := h.inv.sub (norm_sub ts ls st)

theorem EvoS.norm0 {γ : Gh} {w : World} {st : St} (ts ls : List Nat) : EvoS γ w st γ w (st.norm0 ts ls) :=
  ⟨rfl, rfl, rfl, Nat.le_refl _, fun _ _ _ => rfl, Ext.refl _ _ _, fun _ _ h => .inl h, fun _ h => .inl (Mut.sub (norm_sub ts ls st) h)⟩

theorem get_fr (st : St) (d : Nat) (v : AVal) (σ : Sto) (t : Nat) : St.get { st with fr := insertAt d v st.fr, σ := σ } t = if d = t then v else st.get t := by
  simp only [St.get, lookup_insertAt]
  by_cases e : d = t <;> simp [e]

theorem Conc.growTo {γ : Gh} {w : World} {a : Act} {st : St} (h : Conc γ w a st) {d s s' : Nat} {es : List AVal} {t : Tag} (hg : st.get d = .slice es s t) (ht : (t.isNil = true) ∨ (t.isNil = false ∧ (∀ p, t ≠ .own p) ∧ t ≠ .ro ∧ s' = s)) :
    ∃ γ', Conc γ' w a { st with fr := insertAt d (.slice es s' (.own st.σ.nown)) st.fr, σ := st.σ.pushOwn es.length } ∧ EvoS γ w st γ' w { st with fr := insertAt d (.slice es s' (.own st.σ.nown)) st.fr, σ := st.σ.pushOwn es.length } := by
  obtain ⟨c1, c2, c3⟩ := h.ownFull es.length
  have key : Rep { γ with own := fun q => if q = st.σ.nown then .full es.length else γ.own q } w true (.slice es s' (.own st.σ.nown)) (a.tmps.getD d undef) := by
    have hr := h.fr d
    rw [hg] at hr
    generalize a.tmps.getD d undef = u at hr ⊢
    cases hr with
    | @sliceRow _ _ _ _ b off cap vs h1 h2 h3 h4 h5 h6 h7 =>
      rcases ht with ht | ⟨_, hno, hro, rfl⟩
      · cases t <;> simp [Tag.isNil] at ht
        exact h7.elim
      · refine .sliceRow (RepL.mono c3.weak h1) h2 (c3.cellsAt h3) h4 h5 h6 ?_
        cases t with
        | nil => exact h7.elim
        | ro => exact absurd rfl hro
        | full =>
          have : AL.tagRow { γ with own := fun q => if q = st.σ.nown then .full es.length else γ.own q } (.own st.σ.nown) es.length b off cap s' := by
            simp only [AL.tagRow, if_true, Own.isRow]
            exact ⟨Nat.le_refl _, fun _ => h7⟩
          exact this
        | own p => exact absurd rfl (hno p)
    | sliceNil h1 h2 =>
      refine .sliceNil (by simp [AL.tagNil, Own.isNil]) ?_
      exact .inr rfl
  refine ⟨_, ⟨c1.size, fun t' => ?_, c1.defers, ?_⟩, c2.put ?_ rfl⟩
  · rw [get_fr]
    split
    · rename_i e; subst e; exact key
    · exact c1.fr t'
  · have := c1.inv
    rwa [show St.objAt { st with σ := st.σ.pushOwn es.length } = St.objAt { st with fr := insertAt d (.slice es s' (.own st.σ.nown)) st.fr, σ := st.σ.pushOwn es.length } by funext i; cases i <;> rfl] at this
  · funext i; cases i <;> rfl

theorem rest_rep {γ : Gh} {w : World} {l : Bool} {a : AVal} {v : Value} (n : Nat) (h : Rep γ w l a v) : Rep γ w l (a.rest n) v := by
  cases a with
  | slice es s t =>
    have hro : Rep γ w l (.slice es s .ro) v := by
      cases h with
      | sliceRow hr hs hc h1 hn hm ht => exact .sliceRow hr hs hc h1 hn hm trivial
      | sliceNil ht ho => exact .sliceNil trivial (.inr rfl)
    cases t with
    | nil =>
      show Rep γ w l (.slice es n .ro) v
      cases h with
      | sliceRow hr hs hc h1 hn hm ht => exact ht.elim
      | sliceNil ht ho => exact .sliceNil trivial (.inr rfl)
    | _ => exact hro
  | _ => exact h
theorem Conc.growOb {γ : Gh} {w : World} {a : Act} {st : St} (h : Conc γ w a st) {i : Oid} {j s s' : Nat} {cs es : List AVal} {t : Tag} (hk : st.objAt i = some (.cells cs)) (hj : cs[j]? = some (.slice es s t)) (ht : (t.isNil = true) ∨ (t.isNil = false ∧ (∀ p, t ≠ .own p) ∧ t ≠ .ro ∧ s' = s)) :
    ∃ γ', Conc γ' w a (St.setObj { st with σ := st.σ.pushOwn es.length } i (.cells (cs.set j (.slice es s' (.own st.σ.nown))))) ∧ EvoS γ w st γ' w (St.setObj { st with σ := st.σ.pushOwn es.length } i (.cells (cs.set j (.slice es s' (.own st.σ.nown))))) := by
  obtain ⟨c1, c2, c3⟩ := h.ownFull es.length
  have hy : St.objAt { st with σ := st.σ.pushOwn es.length } i = some (.cells cs) := by
    rw [← hk]; cases i <;> rfl
  obtain ⟨b, hb, hok⟩ := c1.inv.objc (i := i) hy (by simp)
  obtain ⟨k1, k2⟩ := c1.setBlock (i := i) (x := .cells (cs.set j (.slice es s' (.own st.σ.nown)))) hy hb (w' := w) (fun _ _ => rfl) rfl rfl rfl rfl (fun e hn => by
    obtain ⟨vs, T, g1, g2, g3, g4⟩ := hok
    refine ⟨vs, T, g1, ?_, g3, g4⟩
    obtain ⟨u, hu, hr⟩ := g2.get hj
    have hx : Rep { γ with own := fun q => if q = st.σ.nown then .full es.length else γ.own q } w (!i.isOut) (.slice es s' (.own st.σ.nown)) u := by
      cases hr with
      | @sliceRow _ _ _ _ b off cap vs h1 h2 h3 h4 h5 h6 h7 =>
        rcases ht with ht | ⟨_, hno, hro, rfl⟩
        · cases t <;> simp [Tag.isNil] at ht
          exact h7.elim
        · refine .sliceRow h1 h2 h3 h4 h5 h6 ?_
          cases t with
          | nil => exact h7.elim
          | ro => exact absurd rfl hro
          | full =>
            have : AL.tagRow { γ with own := fun q => if q = st.σ.nown then .full es.length else γ.own q } (.own st.σ.nown) es.length b off cap s' := by
              simp only [AL.tagRow, if_true, Own.isRow]
              exact ⟨Nat.le_refl _, fun _ => h7⟩
            exact this
          | own p => exact absurd rfl (hno p)
      | sliceNil h1 h2 => exact .sliceNil (by simp [AL.tagNil, Own.isNil]) (.inr rfl)
    have := RepL.set hx g2 (i := j)
    rwa [show vs.set j u = vs from by
      apply List.ext_getElem?
      intro i
      rw [List.getElem?_set]
      split
      · rename_i e; subst e
        split
        · exact hu.symm
        · rename_i h0; rw [List.getElem?_eq_none (by omega)]
      · rfl] at this)
  exact ⟨_, k1, c2.trans k2⟩
theorem Conc.growO {γ : Gh} {w : World} {a : Act} {st : St} (h : Conc γ w a st) (i : Oid) (j s' : Nat) : ∃ γ', Conc γ' w a (st.growO i j s') ∧ EvoS γ w st γ' w (st.growO i j s') := by
  have triv : ∃ γ', Conc γ' w a st ∧ EvoS γ w st γ' w st := ⟨γ, h, Evo.refl _ _ _ _⟩
  unfold St.growO
  split
  · rename_i cs hk
    split
    · rename_i es s t hj
      split
      · exact h.growOb hk hj (.inl rfl)
      · exact h.growOb hk hj (.inr ⟨rfl, (fun p e => by cases e), (fun e => by cases e), rfl⟩)
      · exact triv
    · exact triv
  · exact triv
theorem Conc.grow1 {γ : Gh} {w : World} {a : Act} {st : St} (h : Conc γ w a st) (ts : List Nat) (x : Nat × Nat) : ∃ γ', Conc γ' w a (st.grow1 ts x) ∧ EvoS γ w st γ' w (st.grow1 ts x) := by
  have triv : ∃ γ', Conc γ' w a st ∧ EvoS γ w st γ' w st := ⟨γ, h, Evo.refl _ _ _ _⟩
  unfold St.grow1
  split
  · exact h.growO _ _ _
  split
  · exact triv
  · split
    · exact ⟨γ, ⟨h.size, fun t => by
        have e := get_fr st x.1 ((st.get x.1).rest (x.2 - 1000)) st.σ t
        rw [e]
        split
        · rename_i e1
          subst e1
          exact rest_rep _ (h.fr _)
        · exact h.fr t, h.defers, h.inv⟩, Evo.refl _ _ _ _⟩
    · split
      · rename_i es s t hg
        split
        · exact h.growTo hg (.inl rfl)
        · exact h.growTo hg (.inr ⟨rfl, (fun p e => by cases e), (fun e => by cases e), rfl⟩)
        · exact triv
      · exact triv

theorem Conc.growAll {w : World} {a : Act} (ts : List Nat) : ∀ (g : List (Nat × Nat)) {γ : Gh} {st : St}, Conc γ w a st → ∃ γ', Conc γ' w a (St.growAll ts g st) ∧ EvoS γ w st γ' w (St.growAll ts g st)
  | [], γ, st, h => ⟨γ, h, Evo.refl _ _ _ _⟩
  | x :: g, γ, st, h => by
    obtain ⟨γ1, c1, e1⟩ := h.grow1 ts x
    obtain ⟨γ2, c2, e2⟩ := c1.growAll ts g
    exact ⟨γ2, c2, e1.trans e2⟩

theorem Conc.norm {γ : Gh} {w : World} {a : Act} {st : St} (h : Conc γ w a st) (g : List (Nat × Nat)) (ts ls : List Nat) : ∃ γ', Conc γ' w a (st.norm g ts ls) ∧ EvoS γ w st γ' w (st.norm g ts ls) := by
  obtain ⟨γ1, c1, e1⟩ := h.growAll ts g
  exact ⟨γ1, c1.norm0 ts ls, e1.trans (EvoS.norm0 ts ls)⟩

def _root_.Go.Code.key : Code → Option Nat
  | .region id _ _ => some id
  | .seq a b => match a.key with | some k => some k | none => b.key
  | .cond _ a _ => a.key
  | .block _ c => c.key
  | .loop c => c.key
  | _ => none

def cutAt (l : List (Nat × List Nat × List Nat)) (k : Option Nat) (p : Nat) : Option (List Nat × List Nat) :=
  match k with
  | some k => lookup l (2 * k + p)
  | none => none

def cutV (X : St → Prop) (s : St) : Prop := X s

def loopV (nm : St → St) (X : (Exit → St → Prop) → St → Prop) (K : Exit → St → Prop) (st : St) : Prop :=
  ∃ I : Nat → St → Prop, (∃ m, I m st) ∧ ∀ m s, I m s → X (thenK (fun s' => ∃ m', m' < m ∧ I m' (nm s')) K) s

theorem loopV_intro {nm : St → St} {X : (Exit → St → Prop) → St → Prop} {K : Exit → St → Prop} {α : Type} (S : α → St) (C : α → Prop) (μ : α → Nat)
    (h : ∀ x, C x → ∀ L : St → Prop, (∀ y, C y → μ y < μ x → L (S y)) → X (thenK (fun s => L (nm s)) K) (S x)) (x : α) (hx : C x) : loopV nm X K (S x) := by
  refine ⟨fun m s => ∃ y, s = S y ∧ C y ∧ m = μ y, ⟨_, x, rfl, hx, rfl⟩, ?_⟩
  rintro m s ⟨y, rfl, hy, rfl⟩
  exact h y hy (fun s' => ∃ m', m' < μ y ∧ ∃ z, s' = S z ∧ C z ∧ m' = μ z) (fun z hz hlt => ⟨_, hlt, z, rfl, hz, rfl⟩)

def gdst (ops : Array Oper) (j : Nat) : Option Nat := (ops[j]?).bind (·.dst)

def codeAt : Code → List Nat → Code
  | c, [] => c
  | .seq a b, i :: r => match i with | 0 => codeAt a r | _ => codeAt b r
  | .cond _ a b, i :: r => match i with | 0 => codeAt a r | _ => codeAt b r
  | .block _ c, _ :: r => codeAt c r
  | .loop c, _ :: r => codeAt c r
  | _, _ => .skip

def vc (P : Program) (cfg : Cfg) : Code → (Exit → St → Prop) → St → Prop
  | .skip, K, st => K .normal st
  | .label _, K, st => K .normal st
  | .region _ ops draw, K, st =>
    match draw with
    | false => opsV P cfg ops ops.toList (fun s => K .normal s.endR) st
    | true => gb (drawPre cfg ops st) (drawV P cfg ops ops.toList [] (fun s => K .normal s.endR) st)
  | .seq a b, K, st =>
    match cutAt cfg.cut b.key 0 with
    | none => vc P cfg a (thenK (vc P cfg b K) K) st
    | some x => vc P cfg a (thenK (fun s => cutV (vc P cfg b K) (s.norm cfg.grow x.1 x.2)) K) st
  | .cond c x y, K, st =>
    match st.eval c with
    | .bool t => brV t true (vc P cfg x K st) (vc P cfg y K st)
    | _ => False
  | .block id c, K, st => vc P cfg c (blockK id K) st
  | .loop c, K, st =>
    match cutAt cfg.cut c.key 1 with
    | none => loopV (fun s => s) (vc P cfg c) K st
    | some x => loopV (fun s => s.norm cfg.grow x.1 x.2) (vc P cfg c) K (st.norm cfg.grow x.1 x.2)
  | .exit id, K, st => K (.exit id) st
  | .ret, K, st => K .ret st
  | _, _, _ => False

def postK (pk : Prop) (γ : Gh) (w : World) (st : St) (K : Exit → St → Prop) : Exit → Act → World → Prop :=
  fun e a' w' => (∃ γ' st', Conc γ' w' a' st' ∧ EvoS γ w st γ' w' st' ∧ K e st') ∨ (∃ ch, e = .panic ch ∧ pk ∧ a'.defers = [] ∧ okCh ch ∧ PanS γ w st w')
theorem postK_panOK (cfg : Cfg) (γ : Gh) (w : World) (st : St) (K : Exit → St → Prop) : PanOK cfg γ w st (postK cfg.pan γ w st K) := fun hp a' ch w' h1 h2 h3 => .inr ⟨ch, rfl, hp, h1, h2, h3⟩

theorem loop_sound {P : Program} {c : Code} {Q : Exit → Act → World → Prop} (J : Nat → Act → World → Prop) (hJ : ∀ m a w, J m a w → c.wp P (Exit.then (fun a' w' => ∃ m', m' < m ∧ J m' a' w') Q) a w) {m : Nat} {a : Act} {w : World} (h : J m a w) : (Code.loop c).wp P Q a w := by
  intro b k cs
  have key : ∀ n a w, J n a w → ∃ e a' w', Q e a' w' ∧ Arrives P (lone (b.at a (.code c :: .inLoop c :: k)) cs w) b k cs e a' w' := by
    intro n
    induction n using Nat.strongRecOn with
    | _ n ih =>
      intro a w hI
      obtain ⟨e, a₁, w₁, hq, harr⟩ := hJ n a w hI b (.inLoop c :: k) cs
      cases e with
      | normal =>
        obtain ⟨m', hlt, hI₁⟩ := hq
        obtain ⟨e₂, a₂, w₂, hq₂, harr₂⟩ := ih m' hlt a₁ w₁ hI₁
        exact ⟨e₂, a₂, w₂, hq₂, .of_steps (Steps.trans harr (.one step_inLoop)) harr₂⟩
      | exit id => exact ⟨_, a₁, w₁, hq, .pass (x := .inLoop c) rfl (fun _ _ => .inl (by simp)) harr⟩
      | goto l => exact ⟨_, a₁, w₁, hq, .pass (x := .inLoop c) rfl (fun _ _ => .inl (by simp)) harr⟩
      | ret => exact ⟨_, a₁, w₁, hq, .pass (x := .inLoop c) rfl (fun _ _ => .inl (by simp)) harr⟩
      | panic ch => exact ⟨_, a₁, w₁, hq, .pass (x := .inLoop c) rfl (fun _ _ => .inl (by simp)) harr⟩
      | outgrown => exact ⟨_, a₁, w₁, hq, .pass (x := .inLoop c) rfl (fun _ _ => .inl (by simp)) harr⟩
  obtain ⟨e, a', w', hq, harr⟩ := key m a w h
  exact ⟨e, a', w', hq, .of_steps (.one step_loop) harr⟩

theorem vc_sound {P : Program} (hm : P.follows .mixedOrders = true) {cfg : Cfg} (ho : OrcOk P cfg) : ∀ (c : Code) (K : Exit → St → Prop) (st : St), vc P cfg c K st → ∀ (γ : Gh) (w : World) (a : Act), Conc γ w a st → c.wp P (postK cfg.pan γ w st K) a w
  | .skip, K, st, h, γ, w, a, hC => wp_skip (.inl ⟨γ, st, hC, Evo.refl _ _ _ _, h⟩)
  | .label l, K, st, h, γ, w, a, hC => wp_label (.inl ⟨γ, st, hC, Evo.refl _ _ _ _, h⟩)
  | .region id ops draw, K, st, h, γ, w, a, hC => by
    cases draw with
    | false =>
      refine wp_region ?_
      have := opsV_sound ho (P := P) (cfg := cfg) (ops := ops) (Q := postK cfg.pan γ w st K) ops.toList 0 (fun s => K .normal s.endR) st (by simp) h hC (fun γ' w' a' st' c1 c2 c3 => .inl ⟨γ', st'.endR, c1.endR, c2, c3⟩) (postK_panOK cfg γ w st K)
      rw [List.range_eq_range']
      simpa using this
    | true =>
      refine wp_region_any hm ?_
      obtain ⟨hpre, h⟩ := gb_iff.1 h
      obtain ⟨recs, st', g1, g2, g3, g5, g4⟩ := drawV_sound ho (Q := postK cfg.pan γ w st K) ops.toList 0 [] (fun s => K .normal s.endR) st (by simp) h
      have hs0 : ∀ k, (locAllocs cfg ops).elem k = true → st.ss.NoRefX k := fun k hk => by
        have := (List.all_eq_true.1 hpre) k (by simpa using hk)
        obtain ⟨n1, n2⟩ := St.noRef_sem this
        refine ⟨fun t ht => ?_, fun j v hv hj => n2 j v (by rw [St.put_loc]; exact hv) hj⟩
        have := n1 t
        rwa [St.get_put, if_neg (fun e => ht e.symm)] at this
      have hC' : Conc γ { w with drawn := w.drawn + 1 } a st := hC.ofHeap rfl
      have hE' : EvoS γ w st γ { w with drawn := w.drawn + 1 } st := EvoS.ofHeap rfl rfl rfl rfl
      refine any_sound (s0 := st.ss) (recs := recs) g1 (by simpa using g2) (ds := locAllocs cfg ops) (fun r hr => (g5 r hr).1) (fun r hr => (g5 r hr).2) hs0 γ w st (fun hns γ' w' a' st2 c1 c2 c3 => ?_) (postK_panOK cfg γ w st K) ops.size (Array.replicate ops.size false) γ _ a st (by simp) ?_ (fun j o hj hL => ?_) hC' hE' ?_ (fun j r hj hL => ?_)
      · have hss : st'.ss = st2.ss := g3.trans c3.symm
        refine .inl ⟨γ', st'.endR, (c1.ofSS hss).endR, ?_, g4 (fun b hb => by cases hb) hns⟩
        have e1 := objAt_ofSS hss
        have e2 : st'.σ = st2.σ := by simp only [St.ss, SS.mk.injEq] at hss; exact hss.2.2.2
        exact EvoS.put (st2 := st'.endR) c2 e1 e2
      · have : ∀ k, unl (Array.replicate ops.size false) k ≤ k := by
          intro k
          induction k with
          | zero => exact Nat.le_refl _
          | succ k ih => simp only [unl]; split <;> omega
        exact this _
      · have : j < ops.size := (Array.getElem?_eq_some_iff.1 hj).1
        simp [Array.getD_eq_getD_getElem?, this] at hL
      · have : ∀ i, (Array.replicate ops.size false).getD i false = false := fun i => by
          simp only [Array.getD_eq_getD_getElem?]
          cases h : (Array.replicate ops.size false)[i]? with
          | none => rfl
          | some b =>
            rw [Array.getElem?_replicate] at h
            split at h
            · cases h; rfl
            · cases h
        rw [foldR_none _ _ _ (fun j _ => this j)]
      · exfalso
        have : ∀ i, (Array.replicate ops.size false).getD i false = false := fun i => by
          simp only [Array.getD_eq_getD_getElem?]
          cases h : (Array.replicate ops.size false)[i]? with
          | none => rfl
          | some b =>
            rw [Array.getElem?_replicate] at h
            split at h
            · cases h; rfl
            · cases h
        rw [this] at hL
        cases hL
  | .seq x y, K, st, h, γ, w, a, hC => by
    unfold vc at h
    split at h
    · refine wp_seq (wp_mono (vc_sound hm ho x _ st h γ w a hC) fun e a' w' hh => ?_)
      rcases hh with ⟨γ', st', c1, c2, c3⟩ | ⟨ch, rfl, hk⟩
      · cases e with
        | normal =>
          exact wp_mono (vc_sound hm ho y K st' c3 γ' w' a' c1) fun e a2 w2 hh => by
            rcases hh with ⟨γ2, st2, d1, d2, d3⟩ | ⟨ch, rfl, p1, p2, p3, p4⟩
            · exact .inl ⟨γ2, st2, d1, c2.trans d2, d3⟩
            · exact .inr ⟨ch, rfl, p1, p2, p3, PanS.trans c2 p4⟩
        | _ => exact .inl ⟨γ', st', c1, c2, c3⟩
      · exact .inr ⟨ch, rfl, hk⟩
    · rename_i nx _
      refine wp_seq (wp_mono (vc_sound hm ho x _ st h γ w a hC) fun e a' w' hh => ?_)
      rcases hh with ⟨γ', st', c1, c2, c3⟩ | ⟨ch, rfl, hk⟩
      · cases e with
        | normal =>
          obtain ⟨γ1, k1, k2⟩ := c1.norm cfg.grow nx.1 nx.2
          exact wp_mono (vc_sound hm ho y K (st'.norm cfg.grow nx.1 nx.2) c3 γ1 w' a' k1) fun e a2 w2 hh => by
            rcases hh with ⟨γ2, st2, d1, d2, d3⟩ | ⟨ch, rfl, p1, p2, p3, p4⟩
            · exact .inl ⟨γ2, st2, d1, (c2.trans k2).trans d2, d3⟩
            · exact .inr ⟨ch, rfl, p1, p2, p3, PanS.trans (c2.trans k2) p4⟩
        | _ => exact .inl ⟨γ', st', c1, c2, c3⟩
      · exact .inr ⟨ch, rfl, hk⟩
  | .cond c x y, K, st, h, γ, w, a, hC => by
    unfold vc at h
    split at h
    · rename_i t ht
      have hc := hC.eval c
      rw [ht] at hc
      have hcv : a.eval c = .bool t := by generalize a.eval c = u at hc; cases hc; rfl
      cases t with
      | true => exact wp_cond_true hcv (vc_sound hm ho x K st ((brV_iff.1 h).1 rfl) γ w a hC)
      | false => exact wp_cond_false hcv (vc_sound hm ho y K st ((brV_iff.1 h).2 rfl) γ w a hC)
    · exact h.elim
  | .block id c, K, st, h, γ, w, a, hC => by
    refine wp_block (wp_mono (vc_sound hm ho c _ st h γ w a hC) fun e a' w' hh => ?_)
    rcases hh with ⟨γ', st', c1, c2, c3⟩ | ⟨ch, rfl, hk⟩
    · cases e with
      | exit i =>
        simp only [blockK] at c3
        simp only [Exit.inBlock]
        by_cases hi : i = id
        · rw [if_pos hi] at c3 ⊢; exact .inl ⟨γ', st', c1, c2, c3⟩
        · rw [if_neg hi] at c3 ⊢; exact .inl ⟨γ', st', c1, c2, c3⟩
      | _ => exact .inl ⟨γ', st', c1, c2, c3⟩
    · exact .inr ⟨ch, rfl, hk⟩
  | .loop c, K, st, h, γ, w, a, hC => by
    have key : ∀ (nm : St → St) (st0 : St), (∀ γ w a s, Conc γ w a s → ∃ γ', Conc γ' w a (nm s) ∧ EvoS γ w s γ' w (nm s)) → (∃ γ', Conc γ' w a st0 ∧ EvoS γ w st γ' w st0) → loopV nm (vc P cfg c) K st0 → (Code.loop c).wp P (postK cfg.pan γ w st K) a w := by
      intro nm st0 n1 ⟨γ0, h0, h0'⟩ h
      obtain ⟨I, ⟨m, hI⟩, hr⟩ := h
      refine loop_sound (fun m a' w' => ∃ γ' st', Conc γ' w' a' st' ∧ EvoS γ w st γ' w' st' ∧ I m st') (fun m a' w' ⟨γ', st', c1, c2, c3⟩ => ?_) (m := m) ⟨γ0, st0, h0, h0', hI⟩
      refine wp_mono (vc_sound hm ho c _ st' (hr m st' c3) γ' w' a' c1) fun e a2 w2 hh => ?_
      rcases hh with ⟨γ2, st2, d1, d2, d3⟩ | ⟨ch, rfl, p1, p2, p3, p4⟩
      · cases e with
        | normal =>
          obtain ⟨m', h1, h2⟩ := d3
          obtain ⟨γ3, k1, k2⟩ := n1 _ _ _ _ d1
          exact ⟨m', h1, γ3, nm st2, k1, (c2.trans d2).trans k2, h2⟩
        | _ => exact .inl ⟨γ2, st2, d1, c2.trans d2, d3⟩
      · exact .inr ⟨ch, rfl, p1, p2, p3, PanS.trans c2 p4⟩
    unfold vc at h
    split at h
    · exact key _ st (fun γ _ _ _ h => ⟨γ, h, Evo.refl _ _ _ _⟩) ⟨γ, hC, Evo.refl _ _ _ _⟩ h
    · exact key _ _ (fun _ _ _ _ h => h.norm _ _ _) (hC.norm _ _ _) h
  | .exit id, K, st, h, γ, w, a, hC => wp_exit (.inl ⟨γ, st, hC, Evo.refl _ _ _ _, h⟩)
  | .ret, K, st, h, γ, w, a, hC => wp_ret (.inl ⟨γ, st, hC, Evo.refl _ _ _ _, h⟩)
  | .rangeFunc .., K, st, h, γ, w, a, hC => h.elim
  | .scope _, K, st, h, γ, w, a, hC => h.elim
  | .goto _, K, st, h, γ, w, a, hC => h.elim
  | .refuse _, K, st, h, γ, w, a, hC => h.elim

end
end Go.AL
end

section
namespace Go.AL
noncomputable section
set_option linter.unusedSimpArgs false
set_option linter.unusedVariables false

def resA (P : Program) (st : St) : List ResultVar → Option (Bool × List AVal)
  | [] => some (true, [])
  | .tmp t :: r =>
    match resA P st r with
    | some (p, vs) => some (p, st.get t :: vs)
    | none => none
  | .cell a T :: r =>
    match st.get a with
    | .ptr o off =>
      match loadA P st.objAt T (.ptr o off), resA P st r with
      | some (q, v), some (p, vs) => some (decide (q ∧ p), v :: vs)
      | _, _ => none
    | _ => none

def oneOr : List AVal → AVal
  | [v] => v
  | vs => .tuple vs

def retV (P : Program) (rs : List ResultVar) (Q : AVal → Sto → Prop) (st : St) : Prop :=
  match resA P st rs with
  | some (p, vs) => gb (p && noLocL vs) (Q (oneOr vs) st.σ)
  | none => False

def endK (P : Program) (rs : List ResultVar) (Q : AVal → Sto → Prop) : Exit → St → Prop
  | .normal, st => retV P rs Q st
  | .ret, st => retV P rs Q st
  | _, _ => False

theorem resA_sound {P : Program} {γ : Gh} {w : World} {a : Act} {st : St} (hC : Conc γ w a st) : ∀ {rs : List ResultVar} {p : Bool} {vs : List AVal}, resA P st rs = some (p, vs) → p →
    ∃ us, (rs.mapM (m := Sem) fun | .tmp t => pure (a.tmps.getD t undef) | .cell b T => do loadVar T (← asAddr (a.tmps.getD b undef))).run P w = .ok us w ∧ RepL γ w true vs us
  | [], p, vs, h, hp => by
    simp only [resA, Option.some.injEq, Prod.mk.injEq] at h
    obtain ⟨_, rfl⟩ := h
    exact ⟨[], rfl, .nil _⟩
  | .tmp t :: rs, p, vs, h, hp => by
    simp only [resA] at h
    split at h
    · rename_i q us hq
      simp only [Option.some.injEq, Prod.mk.injEq] at h
      obtain ⟨rfl, rfl⟩ := h
      first | replace hp := of_decide_eq_true hp | skip
      obtain ⟨us', h1, h2⟩ := resA_sound hC hq hp
      refine ⟨a.tmps.getD t undef :: us', ?_, .cons (hC.fr t) h2⟩
      simp only [List.mapM_cons, Sem.run_bind, Sem.run_pure, Result.andThen_ok]
      rw [h1]
      rfl
    · cases h
  | .cell b T :: rs, p, vs, h, hp => by
    simp only [resA] at h
    split at h
    · rename_i o off hb
      split at h
      · rename_i q v p' vs' hl hr
        simp only [Option.some.injEq, Prod.mk.injEq] at h
        obtain ⟨rfl, rfl⟩ := h
        first | replace hp := of_decide_eq_true hp | skip
        obtain ⟨us', h1, h2⟩ := resA_sound hC hr hp.2
        have hfr := hC.fr b
        rw [hb] at hfr
        obtain ⟨u, g1, g2⟩ := loadA_sound hC.ok hfr hl hp.1
        refine ⟨u :: us', ?_, .cons g2 h2⟩
        have hload : (do loadVar T (← asAddr (a.tmps.getD b undef)) : Sem Value).run P w = .ok u w := by
          generalize a.tmps.getD b undef = x at hfr g1 ⊢
          cases hfr
          simpa [Instr.loadAt, Instr.sureAddr, asAddr] using g1
        simp only [List.mapM_cons, Sem.run_bind] at hload ⊢
        rw [hload]
        simp only [Result.andThen_ok]
        rw [h1]
        rfl
      · cases h
    · cases h

theorem Rep.oneOr {γ : Gh} {w : World} {l : Bool} {vs : List AVal} {us : List Value} (h : RepL γ w l vs us) : Rep γ w l (oneOr vs) (if h : us.toArray.size = 1 then us.toArray[0] else .tuple us.toArray) := by
  cases h with
  | nil => simpa [AL.oneOr] using Rep.tuple (.nil l)
  | cons h t =>
    cases t with
    | nil => simpa [AL.oneOr] using h
    | cons h2 t2 =>
      have := Rep.tuple (.cons h (.cons h2 t2))
      simpa [AL.oneOr] using this

def argFr : Nat → List AVal → List (Nat × AVal)
  | _, [] => []
  | i, a :: as => (i, a) :: argFr (i + 1) as

theorem lookup_argFr : ∀ (i : Nat) (as : List AVal) (t : Nat), lookup (argFr i as) t = if i ≤ t then as[t - i]? else none
  | i, [], t => by simp [argFr, lookup]
  | i, a :: as, t => by
    simp only [argFr, lookup]
    by_cases h : i = t
    · subst h; simp
    · rw [if_neg h, lookup_argFr (i + 1) as t]
      by_cases h2 : i + 1 ≤ t
      · rw [if_pos h2, if_pos (by omega)]
        have : t - i = (t - (i + 1)) + 1 := by omega
        rw [this, List.getElem?_cons_succ]
      · rw [if_neg h2, if_neg (by omega)]

def St.start (n : Nat) (args : List AVal) (σ : Sto) : St := { n := n, fr := argFr 0 args, tm := [], loc := [], σ := σ }

theorem results_eq (fn : Func) (tmps : Array Value) : results fn tmps = (do
    let vs ← fn.results.mapM (m := Sem) fun | .tmp t => pure (tmps.getD t undef) | .cell b T => do loadVar T (← asAddr (tmps.getD b undef))
    pure (if h : vs.size = 1 then vs[0] else .tuple vs)) := rfl

def XCall (P : Program) (f : FuncId) (args : List AVal) (σ : Sto) (pk : Prop) (Q : AVal → Sto → Prop) : Prop :=
  ∀ (γ : Gh) (w : World) (vs : List Value), Inv γ w σ.O σ.own σ.nobj σ.nown → RepL γ w false args vs → Calls P f vs.toArray w fun e w' =>
    (∃ v r γ' σ', e = .returned v ∧ Rep γ' w' false r v ∧ Inv γ' w' σ'.O σ'.own σ'.nobj σ'.nown ∧ Evo γ w σ.O σ.own γ' w' σ'.O σ'.own ∧ Q r σ') ∨ (∃ ch, e = .panicked ch ∧ pk ∧ okCh ch ∧ Pan γ w σ.O σ.own w')
theorem XCall.acall {P : Program} {f : FuncId} {args : List AVal} {σ : Sto} {pk : Prop} {Q : AVal → Sto → Prop} (h : XCall P f args σ pk Q) (hp : ¬ pk) : ACall P f args σ Q :=
  fun γ w vs hi hr => (h γ w vs hi hr).mono fun e w' hh => by
    rcases hh with hh | ⟨ch, _, hk, _⟩
    · exact hh
    · exact (hp hk).elim
theorem XCall.xpan {P : Program} {f : FuncId} {args : List AVal} {σ : Sto} {pk : Prop} {Q : AVal → Sto → Prop} (h : XCall P f args σ pk Q) (hq : ∀ r τ, ¬ Q r τ) : XPan P f args σ :=
  fun γ w vs hi hr => (h γ w vs hi hr).mono fun e w' hh => by
    rcases hh with ⟨v, r, γ', σ', _, _, _, _, hk⟩ | ⟨ch, h1, _, h2, h3⟩
    · exact (hq _ _ hk).elim
    · exact ⟨ch, h1, h2, h3⟩
theorem XCall.intro {P : Program} (hm : P.follows .mixedOrders = true) {f : FuncId} {fn : Func} {c : Code} (hf : P.funcs[f]? = some fn) (hb : fn.body = some c) (cfg : Cfg) (ho : OrcOk P cfg) {args : List AVal} {σ : Sto} {Q : AVal → Sto → Prop} (hn : args.length ≤ fn.ntmps)
    (h : vc P cfg c (endK P fn.results.toList Q) (St.start fn.ntmps args σ)) : XCall P f args σ cfg.pan Q := by
  intro γ w vs hi hr
  have hlen := hr.length
  refine calls_of_wp hf hb ?_
  have hO : (St.start fn.ntmps args σ).objAt = σ.O := by funext i; cases i <;> rfl
  have hC : Conc γ w { tmps := vs.toArray ++ Array.replicate (fn.ntmps - vs.toArray.size) undef, defers := [] } (St.start fn.ntmps args σ) := by
    refine ⟨by simp [St.start]; omega, fun t => ?_, rfl, by rw [hO]; exact hi⟩
    unfold St.get
    simp only [St.start, lookup_argFr, Nat.zero_le, if_true, Nat.sub_zero, lookup]
    cases ha : args[t]? with
    | none => exact .undef _ _
    | some x =>
      obtain ⟨v, hv, hrep⟩ := hr.get ha
      have hlt : t < vs.length := by
        rcases Nat.lt_or_ge t vs.length with h | h
        · exact h
        · rw [List.getElem?_eq_none h] at hv; cases hv
      have : (vs.toArray ++ Array.replicate (fn.ntmps - vs.toArray.size) undef).getD t undef = v := by
        simp only [Array.getD_eq_getD_getElem?]
        rw [Array.getElem?_append_left (by simpa using hlt)]
        simp [hv]
      rw [this]
      exact hrep.weaken true
  refine wp_mono (vc_sound hm ho c _ _ h γ w _ hC) fun e a' w' hh => ?_
  rcases hh with ⟨γ', st', c1, c2, c3⟩ | ⟨ch, rfl, p1, p2, p3, p4⟩
  rotate_left
  · refine ⟨p2, .inr ⟨ch, rfl, p1, p3, ?_⟩⟩
    have p4' : Pan γ w (St.start fn.ntmps args σ).objAt σ.own w' := p4
    rw [hO] at p4'
    exact p4'
  have fin : retV P fn.results.toList Q st' → (a'.defers = [] ∧ ∃ v, (results fn a'.tmps).run P w' = .ok v w' ∧ ((∃ v' r γ' σ', Ending.returned v = .returned v' ∧ Rep γ' w' false r v' ∧ Inv γ' w' σ'.O σ'.own σ'.nobj σ'.nown ∧ Evo γ w σ.O σ.own γ' w' σ'.O σ'.own ∧ Q r σ') ∨ (∃ ch, Ending.returned v = .panicked ch ∧ cfg.pan ∧ okCh ch ∧ Pan γ w σ.O σ.own w'))) := by
    intro hret
    unfold retV at hret
    split at hret
    · rename_i p rs hrs
      obtain ⟨hb, hQ⟩ := gb_iff.1 hret
      simp only [Bool.and_eq_true] at hb
      obtain ⟨hp, hl⟩ := hb
      obtain ⟨us, g1, g2⟩ := resA_sound c1 hrs hp
      refine ⟨c1.defers, _, ?_, .inl ⟨_, oneOr rs, γ', st'.σ, rfl, Rep.oneOr (RepL.noLoc g2 hl), c1.inv.sub (Sto.O_sub st'), ?_, hQ⟩⟩
      · rw [results_eq]
        rw [Array.mapM_eq_mapM_toList]
        simp only [Sem.run_bind, Sem.run_map, g1, Result.andThen_ok, Sem.run_pure]
      · have c2' : Evo γ w (St.start fn.ntmps args σ).objAt σ.own γ' w' st'.objAt st'.σ.own := c2
        rw [hO] at c2'
        exact ⟨c2'.os, c2'.tape, c2'.output, c2'.size, c2'.old, c2'.ext, c2'.new, fun b hm => c2'.mutd b (Mut.sub (Sto.O_sub st') hm)⟩
    · exact hret.elim
  cases e with
  | normal => exact fin c3
  | ret => exact fin c3
  | exit id => exact c3.elim
  | goto l => exact c3.elim
  | panic ch => exact c3.elim
  | outgrown => exact c3.elim
theorem ACall.intro {P : Program} (hm : P.follows .mixedOrders = true) {f : FuncId} {fn : Func} {c : Code} (hf : P.funcs[f]? = some fn) (hb : fn.body = some c) (cfg : Cfg) (ho : OrcOk P cfg) {args : List AVal} {σ : Sto} {Q : AVal → Sto → Prop} (hn : args.length ≤ fn.ntmps)
    (h : vc P cfg c (endK P fn.results.toList Q) (St.start fn.ntmps args σ)) (hp : ¬ cfg.pan := by exact id) : ACall P f args σ Q :=
  (XCall.intro hm hf hb cfg ho hn h).acall hp

/-! ### What is told of calls, entry by entry -/

abbrev Ent := FuncId × (List AVal → Sto → Option Ans)

def ofList : List Ent → FuncId → List AVal → Sto → Option Ans
  | [], _, _, _ => none
  | e :: r, g, xs, σ => match Nat.beq e.1 g with
    | true => e.2 xs σ
    | false => ofList r g xs σ

def AnsOk (P : Program) (g : FuncId) (xs : List AVal) (σ : Sto) : Option Ans → Prop
  | some a => ansOk P g xs σ a
  | none => True

def EntOk (P : Program) (e : Ent) : Prop := ∀ xs σ, AnsOk P e.1 xs σ (e.2 xs σ)

def EntsOk (P : Program) : List Ent → Prop
  | [] => True
  | e :: r => EntOk P e ∧ EntsOk P r

theorem OrcOk.ofX {P : Program} {cfg : Cfg} (l : List Ent) (hc : cfg.orc = ofList l) (h : EntsOk P l) (hx : ∀ g, cfg.ext g = true → OvOk P g) : OrcOk P cfg := by
  refine ⟨?_, hx⟩
  intro g xs σ
  rw [hc]
  clear hc
  induction l with
  | nil => trivial
  | cons e r ih =>
    simp only [ofList]
    cases hb : Nat.beq e.1 g with
    | true =>
      have : e.1 = g := Nat.eq_of_beq_eq_true hb
      subst this
      have := h.1 xs σ
      simp only []
      generalize e.2 xs σ = a at this ⊢
      unfold AnsOk at this
      split at this <;> first | exact this | trivial
    | false => exact ih h.2

theorem OrcOk.of {P : Program} {cfg : Cfg} (l : List Ent) (hc : cfg.orc = ofList l) (h : EntsOk P l) (hx : cfg.ext = fun _ => false := by rfl) : OrcOk P cfg := .ofX l hc h fun g hg => by rw [hx] at hg; cases hg

/-! ### At the top -/


def Sto.empty : Sto := { nobj := 0, obj := fun _ => none, nown := 0, own := fun _ => none }

def Gh.top (w : World) : Gh := { imm := fun b _ => b < w.heap.size, obj := fun _ => none, own := fun _ => .free }

theorem top_none (i : Oid) (x : AObj) (h : Sto.empty.O i = some x) : False := by cases i <;> cases h

theorem Inv.top (w : World) (hA : Known w) : Inv (Gh.top w) w Sto.empty.O Sto.empty.own Sto.empty.nobj Sto.empty.nown :=
  ⟨fun _ _ h => h, fun i x h => (top_none i x h).elim, fun i j x y b h => (top_none i x h).elim, fun p n h => (by cases h), fun p q n m b h => (by cases h), fun i x p n b h => (top_none i x h).elim, fun _ _ => rfl, fun _ _ => rfl, hA, fun x hx => World.block_lt_of_cell? w ⟨x.1, x.2.1, none⟩ (hA.1 x hx), fun x hx => let ⟨_, h, _⟩ := hA.2.1 x hx; World.block_lt_of_cell? w ⟨x.1, x.2.1, none⟩ h, fun x hx _ _ => (hA.2.2 x hx).1⟩

theorem ACall.top {P : Program} {f : FuncId} {args : List AVal} {Q : AVal → Sto → Prop} (h : ACall P f args Sto.empty Q) {w : World} (hA : Known w) {vs : List Value} (hr : RepL (Gh.top w) w false args vs) :
    Calls P f vs.toArray w fun e w' => ∃ v r γ' σ', e = .returned v ∧ Rep γ' w' false r v ∧ Q r σ' ∧ Go.RowKit.Below w.heap.size w w' := by
  refine (h (Gh.top w) w vs (Inv.top w hA) hr).mono fun e w' ⟨v, r, γ', σ', h1, h2, h3, h4, h5⟩ => ⟨v, r, γ', σ', h1, h2, h5, ⟨h4.os, h4.tape, h4.output, h4.size, fun k hk => h4.old k hk ?_⟩⟩
  rintro (⟨i, x, hx, _⟩ | ⟨p, n, hp, _⟩)
  · cases i <;> cases hx
  · cases hp


theorem brV_by {b : Bool} {A B : Prop} (h1 : b = true → A) (h2 : b = false → B) : brV b true A B := by cases b; exact h2 rfl; exact h1 rfl
theorem brV_by' {b : Bool} {A B : Prop} (h1 : b = false → A) (h2 : b = true → B) : brV b false A B := by cases b; exact h1 rfl; exact h2 rfl
theorem gb_by {b : Bool} {X : Prop} (h1 : b = true) (h2 : X) : gb b X := gb_iff.2 ⟨h1, h2⟩

@[simp ↓ high] theorem brV_tt (A B : Prop) : brV true true A B = A := by simp [brV]
@[simp ↓ high] theorem brV_ft (A B : Prop) : brV false true A B = B := by simp [brV]
@[simp ↓ high] theorem brV_tf (A B : Prop) : brV true false A B = B := by simp [brV]
@[simp ↓ high] theorem brV_ff (A B : Prop) : brV false false A B = A := by simp [brV]
@[simp ↓ low] theorem brV_t (b : Bool) (A B : Prop) : brV b true A B = ((b = true → A) ∧ (b = false → B)) := by cases b <;> simp [brV]
@[simp ↓ low] theorem brV_f (b : Bool) (A B : Prop) : brV b false A B = ((b = false → A) ∧ (b = true → B)) := by cases b <;> simp [brV]

@[simp ↓ high] theorem gb_t (X : Prop) : gb true X = X := rfl
@[simp ↓ high] theorem gb_f (X : Prop) : gb false X = False := rfl
@[simp ↓ low] theorem gb_d (p : Prop) [Decidable p] (X : Prop) : gb (decide p) X = (p ∧ X) := by by_cases h : p <;> simp [gb, h]

end
end Go.AL
end

section
set_option linter.unusedSimpArgs false
set_option linter.unusedVariables false
set_option linter.unusedSectionVars false
namespace Go.AL
open Go.ChangeShapes Go.WideShapes Go.RowKit

/-! ### Types of plain data -/

inductive Ty where
  | bool | int (k : IntKind) | str | slice (e : Ty) (w b : Nat) | agg (cs : List Ty)

def Ty.cells : Ty → List Ty
  | .agg cs => cs
  | y => [y]

def tyFs (P : Program) (r : TypeId → Option Ty) : Nat → List Field → Option (List Ty)
  | _, [] => some []
  | i, f :: fs =>
    if f.offset ≠ i then none else
    match r f.type with
    | some y => if P.cellsOf f.type = y.cells.length then (match tyFs P r (i + y.cells.length) fs with | some ys => some (y.cells ++ ys) | none => none) else none
    | none => none

def tyOf (P : Program) : Nat → TypeId → Option Ty
  | 0, _ => none
  | n + 1, t => match P.underlying t with
    | some .bool => some .bool
    | some (.int k) => some (.int k)
    | some .string => some .str
    | some (.slice e) => match tyOf P n e with
      | some y => if P.cellsOf e = y.cells.length ∧ 0 < P.cellsOf e then some (.slice y (P.cellsOf e) (P.bytesOf e)) else none
      | none => none
    | some (.struct fs) => match tyFs P (tyOf P n) 0 fs.toList with
      | some ys => if ys.length = P.cellsOf t then some (.agg ys) else none
      | none => none
    | some (.array m e) => match tyOf P n e with
      | some y => if P.cellsOf e = y.cells.length ∧ P.cellsOf t = m * y.cells.length then some (.agg (List.replicate m y.cells).flatten) else none
      | none => none
    | _ => none

def tysOf (P : Program) : List TypeId → Option (List Ty)
  | [] => some []
  | t :: ts => match tyOf P 9 t, tysOf P ts with
    | some y, some ys => some (y :: ys)
    | _, _ => none

mutual
def Fits : Ty → AVal → Prop
  | .bool, a => ∃ b, a = .bool b
  | .int k, a => ∃ n, a = .int k n ∧ k.min ≤ n ∧ n ≤ k.max
  | .str, a => ∃ s, a = .str s ∧ s.length ≤ 140737488351232
  | .slice y w b, a => ∃ es, a = .slice es w .ro ∧ es.length * b ≤ 140737488351232 ∧ ∀ x ∈ es, Fits y x
  | .agg ys, a => ∃ cs, a = .agg cs ∧ FitsL ys cs
def FitsL : List Ty → List AVal → Prop
  | [], as => as = []
  | y :: ys, as => ∃ a r, as = a :: r ∧ Fits y a ∧ FitsL ys r
end

theorem FitsL.length : ∀ {ys : List Ty} {as : List AVal}, FitsL ys as → as.length = ys.length
  | [], _, h => by simp only [FitsL] at h; subst h; rfl
  | y :: ys, _, h => by
    simp only [FitsL] at h
    obtain ⟨a, r, rfl, _, h2⟩ := h
    simp [FitsL.length h2]

theorem FitsL.append : ∀ {ys zs : List Ty} {as bs : List AVal}, FitsL ys as → FitsL zs bs → FitsL (ys ++ zs) (as ++ bs)
  | [], _, _, _, h, k => by simp only [FitsL] at h; subst h; exact k
  | y :: ys, zs, _, bs, h, k => by
    simp only [FitsL] at h
    obtain ⟨a, r, rfl, h1, h2⟩ := h
    simp only [List.cons_append, FitsL]
    exact ⟨a, r ++ bs, rfl, h1, FitsL.append h2 k⟩

def elemOf : Ty → List AVal → AVal
  | .agg _, as => .agg as
  | _, as => as.getD 0 .undef

theorem elemOf_spec {y : Ty} {as : List AVal} (h : FitsL y.cells as) : Fits y (elemOf y as) ∧ ((∀ a ∈ as, ∀ cs, a ≠ .agg cs) → (elemOf y as).cells = as) := by
  cases y with
  | agg ys => exact ⟨⟨as, rfl, h⟩, fun _ => rfl⟩
  | _ =>
    simp only [Ty.cells, FitsL] at h
    obtain ⟨a, r, rfl, h1, rfl⟩ := h
    refine ⟨h1, fun hn => ?_⟩
    have hn := hn a (by simp)
    simp only [elemOf, List.getD_cons_zero]
    cases a <;> first | rfl | exact absurd rfl (hn _)

theorem one_noAgg {γ : Gh} {w : World} {l : Bool} : ∀ {as : List AVal} {vs : List Value}, RepL γ w l as vs → (∀ v ∈ vs, v.oneCell' = true) → ∀ a ∈ as, ∀ cs, a ≠ .agg cs
  | _, _, .nil _, _, _, ha, _ => by cases ha
  | _, _, .cons h t, h1, a, ha, cs => by
    rcases List.mem_cons.1 ha with rfl | ha
    · rintro rfl
      rename_i v0 _ _
      have := h1 v0 (by simp)
      cases h
      cases this
    · exact one_noAgg t (fun v hv => h1 v (by simp [hv])) a ha cs

theorem choose_list {α : Type} [Inhabited α] (n : Nat) {p : Nat → α → Prop} (h : ∀ i, i < n → ∃ x, p i x) : ∃ l : List α, l.length = n ∧ ∀ i x, l[i]? = some x → p i x := by
  induction n with
  | zero => exact ⟨[], rfl, fun i x hx => by simp at hx⟩
  | succ n ih =>
    obtain ⟨l, h1, h2⟩ := ih (fun i hi => h i (by omega))
    obtain ⟨x, hx⟩ := h n (by omega)
    refine ⟨l ++ [x], by simp [h1], fun i y hy => ?_⟩
    by_cases hi : i < l.length
    · exact h2 i y (by rwa [List.getElem?_append_left hi] at hy)
    · rw [List.getElem?_append_right (by omega)] at hy
      have e : i - l.length = 0 := by
        rcases Nat.eq_zero_or_pos (i - l.length) with e | e
        · exact e
        · rw [List.getElem?_eq_none (by simp; omega)] at hy; cases hy
      rw [e] at hy
      simp at hy
      subst hy
      rwa [show i = n by omega]

section
variable {H : Type} {enc : TypeId × Value → H} {P : Program} {W : World}

def Opens (P : Program) (W : World) (ys : List Ty) (cs : List Value) : Prop :=
  ∃ as, FitsL ys as ∧ RepL (Gh.top W) W false as cs ∧ ∀ v ∈ cs, v.oneCell' = true

theorem Opens.append {ys zs : List Ty} {cs ds : List Value} (h : Opens P W ys cs) (k : Opens P W zs ds) : Opens P W (ys ++ zs) (cs ++ ds) := by
  obtain ⟨as, h1, h2, h3⟩ := h
  obtain ⟨bs, k1, k2, k3⟩ := k
  exact ⟨as ++ bs, h1.append k1, RepL.append k2 h2, fun v hv => (List.mem_append.1 hv).elim (h3 v) (k3 v)⟩

theorem Opens.length {ys : List Ty} {cs : List Value} (h : Opens P W ys cs) : cs.length = ys.length := by
  obtain ⟨as, h1, h2, _⟩ := h
  rw [← h2.length, h1.length]

theorem Opens.nil : Opens P W [] [] := ⟨[], rfl, .nil _, fun _ h => by cases h⟩

theorem open_fields {r : TypeId → Option Ty} {cs : List Value} : ∀ {fs : List Field} {i : Nat} {ys : List Ty}, tyFs P r i fs = some ys →
    (∀ f ∈ fs, ∀ y, r f.type = some y → Opens P W y.cells ((cs.drop f.offset).take (P.cellsOf f.type))) → Opens P W ys ((cs.drop i).take ys.length)
  | [], i, ys, h, _ => by
    simp only [tyFs, Option.some.injEq] at h
    subst h
    simpa using Opens.nil
  | f :: fs, i, ys, h, hf => by
    simp only [tyFs] at h
    split at h
    · cases h
    · rename_i ho
      have ho : f.offset = i := Classical.byContradiction ho
      split at h
      · rename_i y hy
        split at h
        · rename_i hc
          split at h
          · rename_i ys' hys
            simp only [Option.some.injEq] at h
            subst h
            have h1 := hf f (by simp) y hy
            rw [ho, hc] at h1
            have h2 := open_fields hys (fun g hg => hf g (by simp [hg]))
            have := h1.append h2
            rw [List.length_append, List.take_add]
            rwa [← List.drop_drop] at this
          · cases h
        · cases h
      · cases h

theorem open_row {y : Ty} {n : Nat} {cs : List Value} : ∀ (m i : Nat), n = y.cells.length → (∀ j, j < i + m → Opens P W y.cells ((cs.drop (j * n)).take n)) → Opens P W (List.replicate m y.cells).flatten ((cs.drop (i * n)).take (m * n))
  | 0, i, hn, h => by simpa using Opens.nil
  | m + 1, i, hn, h => by
    have h1 := h i (by omega)
    have h2 := open_row m (i + 1) hn (fun j hj => h j (by omega))
    have := h1.append h2
    rw [List.replicate_succ, List.flatten_cons, Nat.succ_mul, Nat.add_comm (m * n) n, List.take_add]
    rwa [Nat.succ_mul, ← List.drop_drop] at this

theorem addr_spot {a : Addr} {k : Nat} {v : Value} (h : W.cell? (a.add k) = some v) : a.add k = ⟨a.block, a.off + k, none⟩ ∧ (k = 0 → a.spot = none) := by
  have hspot : (a.add k).spot = none := by
    cases hsp : (a.add k).spot with
    | none => rfl
    | some s =>
      simp only [World.cell?] at h
      split at h
      · simp [hsp] at h
      · cases h
  unfold Addr.add at hspot ⊢
  split
  · rename_i h0
    subst h0
    rw [if_pos rfl] at hspot
    cases a
    simp_all
  · rename_i h0
    exact ⟨rfl, fun e => absurd e h0⟩

theorem weightsAll_mem {e : TypeId} {d : DataW H} : ∀ {ds : List (DataW H)}, d ∈ ds → ∀ m ∈ d.weights P e, m ∈ DataW.weightsAll P e ds
  | x :: r, hd, m, hm => by
    simp only [DataW.weightsAll, List.mem_append]
    rcases List.mem_cons.1 hd with rfl | hd
    · exact .inl hm
    · exact .inr (weightsAll_mem hd m hm)

theorem reach_eq : reachBytes = 140737488351232 := by decide

theorem open_cells : ∀ (n : Nat) {t : TypeId} {y : Ty}, tyOf P n t = some y → ∀ {fuel : Nat} {cs : List Value} {x : DataW H × List MemPlace}, DataW.trod enc P W 0 (fun _ => true) true fuel t cs = some x →
    (∀ m ∈ x.1.weights P t, m ≤ reachBytes) → Opens P W y.cells cs := by
  intro n
  induction n with
  | zero => intro t y h; cases h
  | succ n ih =>
    intro t y h fuel cs x hx hw
    simp only [tyOf] at h
    split at h
    · rename_i hu
      cases h
      obtain ⟨b, rfl, rfl⟩ := DataW.trod_bool hu hx
      exact ⟨[.bool b], ⟨_, _, rfl, ⟨b, rfl⟩, rfl⟩, .cons (.bool _ _) (.nil _), by simp [Value.oneCell']⟩
    · rename_i k hu
      cases h
      obtain ⟨m, rfl, rfl, hwf⟩ := DataW.trod_int hu hx
      have hwf : k.min ≤ m ∧ m ≤ k.max := by simpa [Lit.wf] using hwf
      exact ⟨[.int k m], ⟨_, _, rfl, ⟨m, rfl, hwf⟩, rfl⟩, .cons (.int _ _ _) (.nil _), by simp [Value.oneCell']⟩
    · rename_i hu
      cases h
      obtain ⟨s, rfl, rfl, hwf⟩ := DataW.trod_string hu hx
      have hs : s.data.toList.length ≤ 140737488351232 := by
        have := hw s.data.toList.length (by simp [DataW.weights])
        rwa [reach_eq] at this
      refine ⟨[.str s.data.toList], ⟨_, _, rfl, ⟨_, rfl, hs⟩, rfl⟩, .cons ?_ (.nil _), by simp [Value.oneCell']⟩
      have : (Value.string s) = .string ⟨s.data.toList.toArray⟩ := by simp
      rw [this]
      exact .str _ _
    · rename_i e hu
      split at h
      · rename_i y' hy
        split at h
        · rename_i hc
          cases h
          obtain ⟨hc, hpos⟩ := hc
          rcases DataW.trod_slice hu hx with ⟨rfl, rfl⟩ | ⟨a, len, cap, elems, rest, m, rfl, rfl, rfl, _, hlc, hmx, hlen, hel, hsp, _⟩
          · exact ⟨[.slice [] (P.cellsOf e) .ro], ⟨_, _, rfl, ⟨[], rfl, by simp, by simp⟩, rfl⟩, .cons (.sliceNil trivial (.inl rfl)) (.nil _), by simp [Value.oneCell']⟩
          · obtain ⟨hrl, hrest⟩ := hsp rfl
            have hwt : ∀ (i : Nat) (z : DataW H × List MemPlace), elems[i]? = some z → ∀ q ∈ z.1.weights P e, q ≤ reachBytes := fun i z hz q hq => hw q (by
              simp only [DataW.weights, hu, List.mem_cons, List.mem_append]
              exact .inr (.inl (weightsAll_mem (List.mem_map.2 ⟨z, List.mem_of_getElem? hz, rfl⟩) q hq)))
            have hbytes : len * P.bytesOf e ≤ 140737488351232 := by
              have := hw ((elems.map (·.1)).length * P.bytesOf e + (rest.map (·.1)).length * P.bytesOf e) (by simp [DataW.weights, hu, Nat.add_mul])
              rw [reach_eq] at this
              simp only [List.length_map, hlen] at this
              omega
            have each : ∀ i, i < len → ∃ z : List AVal × List Value, FitsL y'.cells z.1 ∧ RepL (Gh.top W) W false z.1 z.2 ∧ (∀ v ∈ z.2, v.oneCell' = true) ∧ z.2.length = P.cellsOf e ∧ ∀ j, j < P.cellsOf e → W.cell? ((a.add (i * P.cellsOf e)).add j) = z.2[j]? := by
              intro i hi
              have := hel i hi
              have hi' : i < elems.length := by omega
              rw [List.getElem?_eq_getElem hi', Option.bind_eq_some_iff] at this
              obtain ⟨cs', h1, h2⟩ := this
              obtain ⟨_, h3, h4⟩ := World.cells?_some h1
              obtain ⟨as, g1, g2, g3⟩ := ih hy h2 (hwt i _ (List.getElem?_eq_getElem hi'))
              exact ⟨(as, cs'), g1, g2, g3, h3, h4⟩
            obtain ⟨l, hl, hp⟩ := choose_list len each
            by_cases hcap : cap = 0
            · have hl0 : len = 0 := by omega
              subst hcap; subst hl0
              exact ⟨[.slice [] (P.cellsOf e) .ro], ⟨_, _, rfl, ⟨[], rfl, by simp, by simp⟩, rfl⟩, .cons (.sliceNil trivial (.inr rfl)) (.nil _), by simp [Value.oneCell']⟩
            · have hspot : a.spot = none := by
                have key : ∀ v, W.cell? ((a.add 0).add 0) = some v → a.spot = none := fun v hv => by
                  have e0 : (a.add 0) = a := by unfold Addr.add; rw [if_pos rfl]
                  rw [e0] at hv
                  exact (addr_spot hv).2 rfl
                by_cases hl0 : 0 < len
                · obtain ⟨z, hz⟩ : ∃ z, l[0]? = some z := ⟨l[0], by simp [hl, hl0]⟩
                  obtain ⟨_, _, _, q4, q5⟩ := hp 0 z hz
                  have := q5 0 hpos
                  rw [Nat.zero_mul, List.getElem?_eq_getElem (by omega)] at this
                  exact key _ this
                · have := hrest 0 (by omega)
                  rw [show len + 0 = 0 by omega, Nat.zero_mul, List.getElem?_eq_getElem (by omega), Option.bind_eq_some_iff] at this
                  obtain ⟨cs', h1, _⟩ := this
                  obtain ⟨_, h3, h4⟩ := World.cells?_some h1
                  have := h4 0 hpos
                  rw [List.getElem?_eq_getElem (by omega)] at this
                  exact key _ this
              obtain ⟨b, off, sp⟩ := a
              simp only at hspot
              subst hspot
              have hcell : ∀ i z, l[i]? = some z → ∀ j v, z.2[j]? = some v → W.cell? ⟨b, off + i * P.cellsOf e + j, none⟩ = some v := by
                intro i z hz j v hv
                obtain ⟨_, _, _, q4, q5⟩ := hp i z hz
                have hj : j < P.cellsOf e := by
                  rcases Nat.lt_or_ge j z.2.length with h | h
                  · omega
                  · rw [List.getElem?_eq_none h] at hv; cases hv
                have := q5 j hj
                rw [hv, addr_add, addr_add] at this
                exact this
              have hflat : flat (l.map fun z => elemOf y' z.1) = l.flatMap (·.1) := by
                have : ∀ z ∈ l, (elemOf y' z.1).cells = z.1 := fun z hz => by
                  obtain ⟨i, hi⟩ := List.getElem?_of_mem hz
                  obtain ⟨q1, q2, q3, _⟩ := hp i z hi
                  exact (elemOf_spec q1).2 (one_noAgg q2 q3)
                clear hcell hp hl each
                induction l with
                | nil => rfl
                | cons z l ih2 =>
                  simp only [flat, List.map_cons, List.flatMap_cons] at ih2 ⊢
                  rw [this z (by simp), ih2 (fun z' hz' => this z' (by simp [hz']))]
              have hrep : RepL (Gh.top W) W false (l.flatMap (·.1)) (l.flatMap (·.2)) ∧ ∀ v ∈ l.flatMap (·.2), v.oneCell' = true := by
                have : ∀ z ∈ l, RepL (Gh.top W) W false z.1 z.2 ∧ ∀ v ∈ z.2, v.oneCell' = true := fun z hz => by
                  obtain ⟨i, hi⟩ := List.getElem?_of_mem hz
                  obtain ⟨_, q2, q3, _⟩ := hp i z hi
                  exact ⟨q2, q3⟩
                clear hcell hp hl each hflat
                induction l with
                | nil => exact ⟨.nil _, fun v hv => by simp at hv⟩
                | cons z l ih2 =>
                  obtain ⟨g1, g2⟩ := ih2 (fun z' hz' => this z' (by simp [hz']))
                  obtain ⟨g3, g4⟩ := this z (by simp)
                  simp only [List.flatMap_cons]
                  exact ⟨RepL.append g1 g3, fun v hv => (List.mem_append.1 hv).elim (g4 v) (g2 v)⟩
              have hcells : AL.cellsAt (Gh.top W) W b off (l.flatMap (·.2)) := by
                have gen : ∀ (l' : List (List AVal × List Value)) (i0 : Nat), (∀ i z, l'[i]? = some z → z.2.length = P.cellsOf e ∧ ∀ j v, z.2[j]? = some v → W.cell? ⟨b, off + (i0 + i) * P.cellsOf e + j, none⟩ = some v) → AL.cellsAt (Gh.top W) W b (off + i0 * P.cellsOf e) (l'.flatMap (·.2)) := by
                  intro l'
                  induction l' with
                  | nil => intro i0 _ j v hj; simp at hj
                  | cons z l' ih2 =>
                    intro i0 hz
                    simp only [List.flatMap_cons]
                    obtain ⟨z1, z2⟩ := hz 0 z rfl
                    refine cellsAt.append (fun j v hj => ?_) ?_
                    · have := z2 j v hj
                      rw [Nat.add_zero] at this
                      exact ⟨World.block_lt_of_cell? W _ this, this⟩
                    · rw [z1]
                      have := ih2 (i0 + 1) (fun i z' hz' => by
                        have := hz (i + 1) z' (by simpa using hz')
                        rwa [show i0 + 1 + i = i0 + (i + 1) by omega])
                      rwa [show off + i0 * P.cellsOf e + P.cellsOf e = off + (i0 + 1) * P.cellsOf e by rw [Nat.succ_mul]; omega]
                have := gen l 0 (fun i z hz => ⟨(hp i z hz).2.2.2.1, fun j v hj => by
                  have := hcell i z hz j v hj
                  rwa [Nat.zero_add]⟩)
                simpa using this
              have hln : (l.map fun z => elemOf y' z.1).length = len := by simp [hl]
              have hs : ∀ x ∈ l.map fun z => elemOf y' z.1, x.cells.length = P.cellsOf e := fun x hx => by
                obtain ⟨z, hz, rfl⟩ := List.mem_map.1 hx
                obtain ⟨i, hi⟩ := List.getElem?_of_mem hz
                obtain ⟨q1, q2, q3, q4, _⟩ := hp i z hi
                rw [(elemOf_spec q1).2 (one_noAgg q2 q3), q2.length, q4]
              have key : Rep (Gh.top W) W false (.slice (l.map fun z => elemOf y' z.1) (P.cellsOf e) .ro) (.slice (some ⟨b, off, none⟩) (l.map fun z => elemOf y' z.1).length cap) :=
                .sliceRow (by rw [hflat]; exact hrep.1) hs hcells hrep.2 (by omega) hmx trivial
              rw [hln] at key
              refine ⟨[.slice (l.map fun z => elemOf y' z.1) (P.cellsOf e) .ro], ⟨_, _, rfl, ⟨_, rfl, by rw [hln]; exact hbytes, fun x hx => ?_⟩, rfl⟩, .cons key (.nil _), by simp [Value.oneCell']⟩
              obtain ⟨z, hz, rfl⟩ := List.mem_map.1 hx
              obtain ⟨i, hi⟩ := List.getElem?_of_mem hz
              exact (elemOf_spec (hp i z hi).1).1
        · cases h
      · cases h
    · rename_i fs hu
      split at h
      · rename_i ys hys
        split at h
        · rename_i hc
          cases h
          obtain ⟨xs, m, rfl, rfl, hl, hxl, hxs⟩ := DataW.trod_struct hu hx
          have := open_fields (P := P) (W := W) (cs := cs) hys (fun f hf y hy => by
            obtain ⟨i, hi⟩ := List.getElem?_of_mem hf
            have hi' : fs[i]? = some f := by simpa using hi
            have hlt : i < xs.length := by
              rw [hxl]
              exact (Array.getElem?_eq_some_iff.1 hi').1
            have h1 := hxs i f hi'
            rw [List.getElem?_eq_getElem hlt] at h1
            refine ih hy h1 (fun q hq => hw q ?_)
            simp only [DataW.weights, hu]
            exact DataW.weights_mem_each (j := i) (t := f.type) (d := xs[i].1) (by simp [hi]) (by simp [hlt]) q hq)
          have e : cs.take ys.length = cs := List.take_of_length_le (by omega)
          simpa [Ty.cells, e] using this
        · cases h
      · cases h
    · rename_i m e hu
      split at h
      · rename_i y' hy
        split at h
        · rename_i hc
          cases h
          obtain ⟨xs, q, rfl, rfl, hl, hxl, hxs⟩ := DataW.trod_array hu hx
          have := open_row (P := P) (W := W) (y := y') (n := P.cellsOf e) (cs := cs) m 0 hc.1 (fun j hj => by
            have hlt : j < xs.length := by omega
            have h1 := hxs j (by omega)
            rw [List.getElem?_eq_getElem hlt] at h1
            refine ih hy h1 (fun q hq => hw q ?_)
            simp only [DataW.weights, hu]
            exact weightsAll_mem (List.mem_map.2 ⟨xs[j], List.getElem_mem hlt, rfl⟩) q hq)
          have e2 : cs.take (m * P.cellsOf e) = cs := List.take_of_length_le (by rw [hl, hc.2, hc.1]; exact Nat.le_refl _)
          simpa [Ty.cells, e2] using this
        · cases h
      · cases h
    · cases h

theorem open_value {n : Nat} {t : TypeId} {y : Ty} (ht : tyOf P n t = some y) {r : Go.Reach} {b0 : Nat} {v : Value} {d : DataW H} {ps : List MemPlace} (hval : Value.okWide P W r b0 t v) (h : DataW.Trod enc P W 0 (fun _ => true) true t v d ps)
    (hw : ∀ m ∈ d.weights P t, m ≤ reachBytes) : ∃ a, Fits y a ∧ Rep (Gh.top W) W false a v := by
  obtain ⟨fuel, h⟩ := h
  obtain ⟨as, h1, h2, h3⟩ := open_cells n ht h hw
  have plain : (∀ cs, v ≠ .agg cs) → y.cells = [y] → ∃ a, Fits y a ∧ Rep (Gh.top W) W false a v := fun hv hy => by
    have hc : v.cells.toList = [v] := by cases v <;> first | rfl | exact absurd rfl (hv _)
    rw [hc] at h2
    rw [hy] at h1
    simp only [FitsL] at h1
    obtain ⟨a, r, rfl, h1, rfl⟩ := h1
    cases h2 with
    | cons h _ => exact ⟨a, h1, h⟩
  have whole : (∃ cs, v = .agg cs) → (∃ ys, y = .agg ys) → ∃ a, Fits y a ∧ Rep (Gh.top W) W false a v := by
    rintro ⟨cs, rfl⟩ ⟨ys, rfl⟩
    refine ⟨.agg as, ⟨as, rfl, h1⟩, ?_⟩
    have := Rep.agg (γ := Gh.top W) (w := W) (l := false) (cs := as) (vs := cs.toList) (by simpa [Value.cells] using h2) (by simpa [Value.cells] using h3)
    simpa using this
  cases n with
  | zero => cases ht
  | succ n =>
    simp only [tyOf] at ht
    split at ht
    · rename_i hu
      cases ht
      exact plain (fun cs e => by subst e; simp [Value.okWide, Cell.okWide, Cell.ok, hu] at hval) rfl
    · rename_i hu
      cases ht
      exact plain (fun cs e => by subst e; simp [Value.okWide, Cell.okWide, Cell.ok, hu] at hval) rfl
    · rename_i hu
      cases ht
      exact plain (fun cs e => by subst e; simp [Value.okWide, Cell.okWide, Cell.ok, hu] at hval) rfl
    · rename_i hu
      split at ht
      · split at ht
        · cases ht
          exact plain (fun cs e => by subst e; simp [Value.okWide, Cell.okWide, Cell.ok, hu] at hval) rfl
        · cases ht
      · cases ht
    · rename_i hu
      split at ht
      · split at ht
        · cases ht
          simp only [Value.okWide, hu] at hval
          obtain ⟨cs, rfl, _⟩ := hval
          exact whole ⟨_, rfl⟩ ⟨_, rfl⟩
        · cases ht
      · cases ht
    · rename_i hu
      split at ht
      · split at ht
        · cases ht
          simp only [Value.okWide, hu] at hval
          obtain ⟨cs, rfl, _⟩ := hval
          exact whole ⟨_, rfl⟩ ⟨_, rfl⟩
        · cases ht
      · cases ht
    · cases ht

theorem open_args {r : Go.Reach} {b0 : Nat} : ∀ {ts : List TypeId} {ys : List Ty} {vs : List Value} {ds : List (DataW H)} {ps : List MemPlace}, tysOf P ts = some ys → (∀ (j : Nat) t v, ts[j]? = some t → vs[j]? = some v → Value.okWide P W r b0 t v) →
    DataW.TrodAll enc P W 0 (fun _ => true) true ts vs ds ps → (∀ m ∈ DataW.weightsEach P ts ds, m ≤ reachBytes) → ∃ as, FitsL ys as ∧ RepL (Gh.top W) W false as vs
  | [], ys, [], [], _, h, _, _, _ => by
    simp only [tysOf, Option.some.injEq] at h
    subst h
    exact ⟨[], rfl, .nil _⟩
  | t :: ts, ys, v :: vs, d :: ds, _, h, hval, ⟨p, q, h1, h2, _⟩, hw => by
    simp only [tysOf] at h
    split at h
    · rename_i y ys' hy hys
      cases h
      obtain ⟨a, g1, g2⟩ := open_value hy (hval 0 t v rfl rfl) h1 (fun m hm => hw m (by simp [DataW.weightsEach, hm]))
      obtain ⟨as, g3, g4⟩ := open_args hys (fun j t v ht hv => hval (j + 1) t v (by simpa using ht) (by simpa using hv)) h2 (fun m hm => hw m (by simp [DataW.weightsEach, hm]))
      exact ⟨a :: as, ⟨a, as, rfl, g1, g3⟩, .cons g2 g4⟩
    · cases h

/-! ### What came in reads behind the call as before -/

theorem tyFs_mem {r : TypeId → Option Ty} : ∀ {fs : List Field} {i : Nat} {ys : List Ty}, tyFs P r i fs = some ys → ∀ f ∈ fs, ∃ y, r f.type = some y
  | [], _, _, _, _, hf => by cases hf
  | f :: fs, i, ys, h, g, hg => by
    simp only [tyFs] at h
    split at h
    · cases h
    · split at h
      · rename_i y hy
        split at h
        · split at h
          · rename_i ys' hys
            rcases List.mem_cons.1 hg with rfl | hg
            · exact ⟨y, hy⟩
            · exact tyFs_mem hys g hg
          · cases h
        · cases h
      · cases h

theorem reread {sp : Nat → Bool} : ∀ (n : Nat) {t : TypeId} {y : Ty}, tyOf P n t = some y → ∀ {fuel : Nat} {cs : List Value} {x : DataW H × List MemPlace}, DataW.trod enc P W 0 (fun _ => true) true fuel t cs = some x →
    (∀ p ∈ x.2, sp p.block = true) → DataW.trod enc P W 0 sp true fuel t cs = some x := by
  intro n
  induction n with
  | zero => intro t y h; cases h
  | succ n ih =>
    intro t y h fuel cs x hx hp
    cases fuel with
    | zero => simp [DataW.trod] at hx
    | succ fuel =>
    rw [DataW.trod_step] at hx ⊢
    simp only [tyOf] at h
    unfold DataW.trodStep at hx ⊢
    split at h
    · rename_i hu; rw [hu] at hx ⊢; split at hx <;> simp_all
    · rename_i k hu; rw [hu] at hx ⊢; split at hx <;> simp_all
    · rename_i hu; rw [hu] at hx ⊢; split at hx <;> simp_all
    · rename_i e hu
      split at h
      · rename_i y' hy
        split at h
        · rename_i hc
          rw [hu] at hx ⊢
          split at hx <;> first | (simp_all; done) | skip
          rename_i e' a len cap he
          simp only [Option.some.injEq, TypeDesc.slice.injEq] at he
          subst he
          simp only [] at hx ⊢
          split at hx
          · rename_i hlc
            rw [if_pos hlc]
            simp only [if_true, Option.bind_eq_some_iff, Option.map_eq_some_iff] at hx ⊢
            obtain ⟨elems, h1, rest, h2, rfl⟩ := hx
            simp only [List.mem_append, List.mem_flatMap] at hp
            have hel : ∀ i z, ((W.cells? 0 (a.add (i * P.cellsOf e)) (P.cellsOf e)).bind (DataW.trod enc P W 0 (fun _ => true) true fuel e)) = some z → (∀ p ∈ z.2, sp p.block = true) → ((W.cells? 0 (a.add (i * P.cellsOf e)) (P.cellsOf e)).bind (DataW.trod enc P W 0 sp true fuel e)) = some z := by
              intro i z hz hzp
              rw [Option.bind_eq_some_iff] at hz ⊢
              obtain ⟨cs', g1, g2⟩ := hz
              exact ⟨cs', g1, ih hy g2 hzp⟩
            refine ⟨elems, mapM_carry h1 (fun i z _ hz hiz => hel i z hiz (fun p hpz => hp p (.inr ⟨z, by simp [hz], hpz⟩))), rest, ?_, rfl⟩
            by_cases hcap : cap - len = 0
            · rw [hcap] at h2 ⊢
              simp at h2 ⊢
              exact h2
            · have hsp : sp a.block = true := by
                refine hp (.cell a.block (a.off + 0)) (.inl (MemPlace.mem_row.2 ⟨0, ?_, rfl⟩))
                have hrl := mapM_some_length h2
                simp at hrl
                exact Nat.mul_pos (by omega) hc.2
              rw [if_pos hsp]
              exact mapM_carry h2 (fun j z _ hz hiz => hel _ z hiz (fun p hpz => hp p (.inr ⟨z, by simp [hz], hpz⟩)))
          · cases hx
        · cases h
      · cases h
    · rename_i fs hu
      split at h
      · rename_i ys hys
        rw [hu] at hx ⊢
        have hx' : (if cs.length = P.cellsOf t then (fs.toList.mapM fun f => DataW.trod enc P W 0 (fun _ => true) true fuel f.type ((cs.drop f.offset).take (P.cellsOf f.type))).map fun xs => ((.agg (xs.map (·.1)), xs.flatMap (·.2)) : DataW H × List MemPlace) else none) = some x := by
          split at hx <;> simp_all
        have goal : (if cs.length = P.cellsOf t then (fs.toList.mapM fun f => DataW.trod enc P W 0 sp true fuel f.type ((cs.drop f.offset).take (P.cellsOf f.type))).map fun xs => ((.agg (xs.map (·.1)), xs.flatMap (·.2)) : DataW H × List MemPlace) else none) = some x := by
          split at hx'
          · rename_i hl
            rw [if_pos hl]
            simp only [Option.map_eq_some_iff] at hx' ⊢
            obtain ⟨xs, h1, rfl⟩ := hx'
            refine ⟨xs, mapM_carry h1 (fun f z hf hz hfz => ?_), rfl⟩
            obtain ⟨y2, hy2⟩ := tyFs_mem hys f hf
            exact ih hy2 hfz (fun p hpz => hp p (List.mem_flatMap.2 ⟨z, hz, hpz⟩))
          · cases hx'
        split <;> simp_all
      · cases h
    · rename_i m e hu
      split at h
      · rename_i y' hy
        rw [hu] at hx ⊢
        have hx' : (if cs.length = P.cellsOf t then ((List.range m).mapM fun i => DataW.trod enc P W 0 (fun _ => true) true fuel e ((cs.drop (i * P.cellsOf e)).take (P.cellsOf e))).map fun xs => ((.agg (xs.map (·.1)), xs.flatMap (·.2)) : DataW H × List MemPlace) else none) = some x := by
          split at hx <;> simp_all
        have goal : (if cs.length = P.cellsOf t then ((List.range m).mapM fun i => DataW.trod enc P W 0 sp true fuel e ((cs.drop (i * P.cellsOf e)).take (P.cellsOf e))).map fun xs => ((.agg (xs.map (·.1)), xs.flatMap (·.2)) : DataW H × List MemPlace) else none) = some x := by
          split at hx'
          · rename_i hl
            rw [if_pos hl]
            simp only [Option.map_eq_some_iff] at hx' ⊢
            obtain ⟨xs, h1, rfl⟩ := hx'
            refine ⟨xs, mapM_carry h1 (fun f z hf hz hfz => ?_), rfl⟩
            exact ih hy hfz (fun p hpz => hp p (List.mem_flatMap.2 ⟨z, hz, hpz⟩))
          · cases hx'
        split <;> simp_all
      · cases h
    · cases h

theorem carry_all {sp : Nat → Bool} {W' : World} (hb : Below W.heap.size W W') : ∀ {ts : List TypeId} {ys : List Ty} {vs : List Value} {ds : List (DataW H)} {ps : List MemPlace}, tysOf P ts = some ys → DataW.TrodAll enc P W 0 (fun _ => true) true ts vs ds ps →
    (∀ p ∈ ps, sp p.block = true) → DataW.TrodAll enc P W' 0 sp true ts vs ds ps
  | [], _, [], [], _, _, h, _ => h
  | t :: ts, ys, v :: vs, d :: ds, _, hy, ⟨p, q, ⟨fuel, h1⟩, h2, rfl⟩, hp => by
    simp only [tysOf] at hy
    split at hy
    · rename_i y ys' hy1 hys
      have h3 := reread (sp := sp) 9 hy1 h1 (fun r hr => hp r (by simp [hr]))
      exact ⟨p, q, ⟨fuel, DataW.trod_carry _ _ _ _ h3 (fun r hr => hb.same (DataW.trod_lt _ _ _ _ h1 r hr))⟩, carry_all hb hys h2 (fun r hr => hp r (by simp [hr])), rfl⟩
    · cases hy

theorem post_below {f : Func} {s : ChangeSpec} {apart fresh handsOn again : Bool} {W' : World} {args : Array Value} {v : Value} {ds gs : List (DataW H)} {before pa pv : List MemPlace}
    (hW : DataW.Whole enc P f.params.toList s.vars apart W args.toList ds gs before)
    (hres : ∀ (b : Nat) (sp : Nat → Bool) (hd : Bool), DataW.TrodAll enc P W' b sp hd f.resultTypes.toList (v.resultList f.resultTypes.size) (s.fn H (ds ++ gs)).results [])
    (hargs : ∀ sp : Nat → Bool, (∀ p ∈ before, sp p.block = true) → DataW.TrodAll enc P W' 0 sp true f.params.toList args.toList (s.fn H (ds ++ gs)).args pa)
    (hvars : ∀ sp : Nat → Bool, (∀ p ∈ before, sp p.block = true) → DataW.TrodVars enc P W' sp s.vars (s.fn H (ds ++ gs)).vars pv)
    (hps : before = pa ++ pv) (hb : Below W.heap.size W W')
    (hok : ∀ (j : Nat) (t : TypeId) (r : Value), f.resultTypes[j]? = some t → (v.resultList f.resultTypes.size)[j]? = some r → Value.okWide P W' .any 0 t r) :
    s.post enc P f apart fresh handsOn again W args v W' := by
  have hlt : ∀ p ∈ before, p.block < W.heap.size := fun p hp => hW.lt p hp
  have hold : ∀ p ∈ before, (fun b => decide (b < W.heap.size)) p.block = true := fun p hp => by simpa using hlt p hp
  refine ⟨ds, gs, before, [], pa, pv, hW, hres _ _ _, hargs _ hold, hvars _ hold, World.keptBut_mono (fun p hp => ⟨hp, ?_⟩) (hb.frame (· ∈ before)), fun _ => ?_⟩
  · rw [hps, List.mem_append] at hp
    exact Or.inr hp
  · obtain ⟨_, _, _, _, _, hz, hn⟩ := hW
    refine ⟨hok, _, _, ([] ++ pa) ++ pv, ⟨[] ++ pa, pv, trodAll_append (hargs _ (fun _ _ => rfl)) (hres _ _ _), hvars _ (fun _ _ => rfl), rfl, ?_, ?_⟩, ?_⟩
    · intro b off hp
      have hin : MemPlace.cell b off ∈ before := by rw [hps]; simpa using hp
      rw [hb.frozen (hlt _ hin)]
      exact hz b off hin
    · intro ha
      have := hn ha
      rw [hps] at this
      simpa using this
    · intro p hp _
      rw [hps]
      simpa using hp

end

/-! ### A law -/

structure IsLaw (s : ChangeSpec) (n : Nat) : Prop where
  vars : s.vars = []
  fn : ∀ (H : Type) (ds : List (DataW H)), ds.length = n → (s.fn H ds).results = [.lit (.bool true)] ∧ (s.fn H ds).args = ds ∧ (s.fn H ds).vars = []

end Go.AL
end
