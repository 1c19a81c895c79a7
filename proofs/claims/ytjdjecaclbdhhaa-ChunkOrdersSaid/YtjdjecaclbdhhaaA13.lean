/-
  The abstract layer, part 13: a function's contract out of its body's weakest precondition; what a contract gives at the top.
-/
import Derived.Test.YtjdjecaclbdhhaaA12
namespace Go.AL
noncomputable section
set_option linter.unusedSimpArgs false
set_option linter.unusedVariables false

/-- A function's results. -/
def resA (P : Program) (st : St) : List ResultVar → Option (Bool × List AVal)
  | [] => some (true, [])
  | .tmp t :: r =>
    match resA P st r with
    | some (p, vs) => some (p, st.get t :: vs)
    | none => none
  | .cell a T :: r =>
    match st.get a with
    | .ptr o off =>
      match loadA P st.objAt T (.ptr o off), resA P st r with
      | some (q, v), some (p, vs) => some (decide (q ∧ p), v :: vs)
      | _, _ => none
    | _ => none

def oneOr : List AVal → AVal
  | [v] => v
  | vs => .tuple vs

/-- A function's end. -/
def retV (P : Program) (rs : List ResultVar) (Q : AVal → Sto → Prop) (st : St) : Prop :=
  match resA P st rs with
  | some (p, vs) => gb (p && noLocL vs) (Q (oneOr vs) st.σ)
  | none => False

def endK (P : Program) (rs : List ResultVar) (Q : AVal → Sto → Prop) : Exit → St → Prop
  | .normal, st => retV P rs Q st
  | .ret, st => retV P rs Q st
  | _, _ => False

theorem resA_sound {P : Program} {γ : Gh} {w : World} {a : Act} {st : St} (hC : Conc γ w a st) : ∀ {rs : List ResultVar} {p : Bool} {vs : List AVal}, resA P st rs = some (p, vs) → p →
    ∃ us, (rs.mapM (m := Sem) fun | .tmp t => pure (a.tmps.getD t undef) | .cell b T => do loadVar T (← asAddr (a.tmps.getD b undef))).run P w = .ok us w ∧ RepL γ w true vs us
  | [], p, vs, h, hp => by
    simp only [resA, Option.some.injEq, Prod.mk.injEq] at h
    obtain ⟨_, rfl⟩ := h
    exact ⟨[], rfl, .nil _⟩
  | .tmp t :: rs, p, vs, h, hp => by
    simp only [resA] at h
    split at h
    · rename_i q us hq
      simp only [Option.some.injEq, Prod.mk.injEq] at h
      obtain ⟨rfl, rfl⟩ := h
      first | replace hp := of_decide_eq_true hp | skip
      obtain ⟨us', h1, h2⟩ := resA_sound hC hq hp
      refine ⟨a.tmps.getD t undef :: us', ?_, .cons (hC.fr t) h2⟩
      simp only [List.mapM_cons, Sem.run_bind, Sem.run_pure, Result.andThen_ok]
      rw [h1]
      rfl
    · cases h
  | .cell b T :: rs, p, vs, h, hp => by
    simp only [resA] at h
    split at h
    · rename_i o off hb
      split at h
      · rename_i q v p' vs' hl hr
        simp only [Option.some.injEq, Prod.mk.injEq] at h
        obtain ⟨rfl, rfl⟩ := h
        first | replace hp := of_decide_eq_true hp | skip
        obtain ⟨us', h1, h2⟩ := resA_sound hC hr hp.2
        have hfr := hC.fr b
        rw [hb] at hfr
        obtain ⟨u, g1, g2⟩ := loadA_sound hC.ok hfr hl hp.1
        refine ⟨u :: us', ?_, .cons g2 h2⟩
        have hload : (do loadVar T (← asAddr (a.tmps.getD b undef)) : Sem Value).run P w = .ok u w := by
          generalize a.tmps.getD b undef = x at hfr g1 ⊢
          cases hfr
          simpa [Instr.loadAt, Instr.sureAddr, asAddr] using g1
        simp only [List.mapM_cons, Sem.run_bind] at hload ⊢
        rw [hload]
        simp only [Result.andThen_ok]
        rw [h1]
        rfl
      · cases h
    · cases h

theorem Rep.oneOr {γ : Gh} {w : World} {l : Bool} {vs : List AVal} {us : List Value} (h : RepL γ w l vs us) : Rep γ w l (oneOr vs) (if h : us.toArray.size = 1 then us.toArray[0] else .tuple us.toArray) := by
  cases h with
  | nil => simpa [AL.oneOr] using Rep.tuple (.nil l)
  | cons h t =>
    cases t with
    | nil => simpa [AL.oneOr] using h
    | cons h2 t2 =>
      have := Rep.tuple (.cons h (.cons h2 t2))
      simpa [AL.oneOr] using this

def argFr : Nat → List AVal → List (Nat × AVal)
  | _, [] => []
  | i, a :: as => (i, a) :: argFr (i + 1) as

theorem lookup_argFr : ∀ (i : Nat) (as : List AVal) (t : Nat), lookup (argFr i as) t = if i ≤ t then as[t - i]? else none
  | i, [], t => by simp [argFr, lookup]
  | i, a :: as, t => by
    simp only [argFr, lookup]
    by_cases h : i = t
    · subst h; simp
    · rw [if_neg h, lookup_argFr (i + 1) as t]
      by_cases h2 : i + 1 ≤ t
      · rw [if_pos h2, if_pos (by omega)]
        have : t - i = (t - (i + 1)) + 1 := by omega
        rw [this, List.getElem?_cons_succ]
      · rw [if_neg h2, if_neg (by omega)]

def St.start (n : Nat) (args : List AVal) (σ : Sto) : St := { n := n, fr := argFr 0 args, tm := [], loc := [], σ := σ }

theorem results_eq (fn : Func) (tmps : Array Value) : results fn tmps = (do
    let vs ← fn.results.mapM (m := Sem) fun | .tmp t => pure (tmps.getD t undef) | .cell b T => do loadVar T (← asAddr (tmps.getD b undef))
    pure (if h : vs.size = 1 then vs[0] else .tuple vs)) := rfl

/-- A CONTRACT OUT OF A BODY. -/
theorem ACall.intro {P : Program} (hm : P.follows .mixedOrders = true) {f : FuncId} {fn : Func} {c : Code} (hf : P.funcs[f]? = some fn) (hb : fn.body = some c) (cfg : Cfg) (ho : OrcOk P cfg) {args : List AVal} {σ : Sto} {Q : AVal → Sto → Prop} (hn : args.length ≤ fn.ntmps)
    (h : vc P cfg c (endK P fn.results.toList Q) (St.start fn.ntmps args σ)) : ACall P f args σ Q := by
  intro γ w vs hi hr
  have hlen := hr.length
  refine calls_of_wp hf hb ?_
  have hO : (St.start fn.ntmps args σ).objAt = σ.O := by funext i; cases i <;> rfl
  have hC : Conc γ w { tmps := vs.toArray ++ Array.replicate (fn.ntmps - vs.toArray.size) undef, defers := [] } (St.start fn.ntmps args σ) := by
    refine ⟨by simp [St.start]; omega, fun t => ?_, rfl, by rw [hO]; exact hi⟩
    unfold St.get
    simp only [St.start, lookup_argFr, Nat.zero_le, if_true, Nat.sub_zero, lookup]
    cases ha : args[t]? with
    | none => exact .undef _ _
    | some x =>
      obtain ⟨v, hv, hrep⟩ := hr.get ha
      have hlt : t < vs.length := by
        rcases Nat.lt_or_ge t vs.length with h | h
        · exact h
        · rw [List.getElem?_eq_none h] at hv; cases hv
      have : (vs.toArray ++ Array.replicate (fn.ntmps - vs.toArray.size) undef).getD t undef = v := by
        simp only [Array.getD_eq_getD_getElem?]
        rw [Array.getElem?_append_left (by simpa using hlt)]
        simp [hv]
      rw [this]
      exact hrep.weaken true
  refine wp_mono (vc_sound hm ho c _ _ h γ w _ hC) fun e a' w' ⟨γ', st', c1, c2, c3⟩ => ?_
  have fin : retV P fn.results.toList Q st' → (a'.defers = [] ∧ ∃ v, (results fn a'.tmps).run P w' = .ok v w' ∧ ∃ v' r γ' σ', Ending.returned v = .returned v' ∧ Rep γ' w' false r v' ∧ Inv γ' w' σ'.O σ'.own σ'.nobj σ'.nown ∧ Evo γ w σ.O σ.own γ' w' σ'.O σ'.own ∧ Q r σ') := by
    intro hret
    unfold retV at hret
    split at hret
    · rename_i p rs hrs
      obtain ⟨hb, hQ⟩ := gb_iff.1 hret
      simp only [Bool.and_eq_true] at hb
      obtain ⟨hp, hl⟩ := hb
      obtain ⟨us, g1, g2⟩ := resA_sound c1 hrs hp
      refine ⟨c1.defers, _, ?_, _, oneOr rs, γ', st'.σ, rfl, Rep.oneOr (RepL.noLoc g2 hl), c1.inv.sub (Sto.O_sub st'), ?_, hQ⟩
      · rw [results_eq]
        rw [Array.mapM_eq_mapM_toList]
        simp only [Sem.run_bind, Sem.run_map, g1, Result.andThen_ok, Sem.run_pure]
      · have c2' : Evo γ w (St.start fn.ntmps args σ).objAt σ.own γ' w' st'.objAt st'.σ.own := c2
        rw [hO] at c2'
        exact ⟨c2'.os, c2'.tape, c2'.output, c2'.size, c2'.old, c2'.ext, c2'.new, fun b hm => c2'.mutd b (Mut.sub (Sto.O_sub st') hm)⟩
    · exact hret.elim
  cases e with
  | normal => exact fin c3
  | ret => exact fin c3
  | exit id => exact c3.elim
  | goto l => exact c3.elim
  | panic ch => exact c3.elim
  | outgrown => exact c3.elim

/-! ### What is told of calls, entry by entry -/

abbrev Ent := FuncId × (List AVal → Sto → Option Ans)

def ofList : List Ent → FuncId → List AVal → Sto → Option Ans
  | [], _, _, _ => none
  | e :: r, g, xs, σ => match Nat.beq e.1 g with
    | true => e.2 xs σ
    | false => ofList r g xs σ

def AnsOk (P : Program) (g : FuncId) (xs : List AVal) (σ : Sto) : Option Ans → Prop
  | some a => ansOk P g xs σ a
  | none => True

def EntOk (P : Program) (e : Ent) : Prop := ∀ xs σ, AnsOk P e.1 xs σ (e.2 xs σ)

def EntsOk (P : Program) : List Ent → Prop
  | [] => True
  | e :: r => EntOk P e ∧ EntsOk P r

theorem OrcOk.ofX {P : Program} {cfg : Cfg} (l : List Ent) (hc : cfg.orc = ofList l) (h : EntsOk P l) (hx : ∀ g, cfg.ext g = true → OvOk P g) : OrcOk P cfg := by
  refine ⟨?_, hx⟩
  intro g xs σ
  rw [hc]
  clear hc
  induction l with
  | nil => trivial
  | cons e r ih =>
    simp only [ofList]
    cases hb : Nat.beq e.1 g with
    | true =>
      have : e.1 = g := Nat.eq_of_beq_eq_true hb
      subst this
      have := h.1 xs σ
      simp only []
      generalize e.2 xs σ = a at this ⊢
      unfold AnsOk at this
      split at this <;> first | exact this | trivial
    | false => exact ih h.2

theorem OrcOk.of {P : Program} {cfg : Cfg} (l : List Ent) (hc : cfg.orc = ofList l) (h : EntsOk P l) (hx : cfg.ext = fun _ => false := by rfl) : OrcOk P cfg := .ofX l hc h fun g hg => by rw [hx] at hg; cases hg

/-! ### At the top -/


def Sto.empty : Sto := { nobj := 0, obj := fun _ => none, nown := 0, own := fun _ => none }

/-- All that is there when a law is called never changes. -/
def Gh.top (w : World) : Gh := { imm := fun b o => ∃ v, w.cell? ⟨b, o, none⟩ = some v, obj := fun _ => none, own := fun _ => .free }

theorem top_none (i : Oid) (x : AObj) (h : Sto.empty.O i = some x) : False := by cases i <;> cases h

theorem Inv.top (w : World) : Inv (Gh.top w) w Sto.empty.O Sto.empty.own Sto.empty.nobj Sto.empty.nown :=
  ⟨fun _ _ h => h, fun i x h => (top_none i x h).elim, fun i j x y b h => (top_none i x h).elim, fun p n h => (by cases h), fun p q n m b h => (by cases h), fun i x p n b h => (top_none i x h).elim, fun _ _ => rfl, fun _ _ => rfl⟩

theorem ACall.top {P : Program} {f : FuncId} {args : List AVal} {Q : AVal → Sto → Prop} (h : ACall P f args Sto.empty Q) {w : World} {vs : List Value} (hr : RepL (Gh.top w) w false args vs) :
    Calls P f vs.toArray w fun e w' => ∃ v r γ' σ', e = .returned v ∧ Rep γ' w' false r v ∧ Q r σ' ∧ Go.RowKit.Below w.heap.size w w' := by
  refine (h (Gh.top w) w vs (Inv.top w) hr).mono fun e w' ⟨v, r, γ', σ', h1, h2, h3, h4, h5⟩ => ⟨v, r, γ', σ', h1, h2, h5, ⟨h4.os, h4.tape, h4.output, h4.size, fun k hk => h4.old k hk ?_⟩⟩
  rintro (⟨i, x, hx, _⟩ | ⟨p, n, hp, _⟩)
  · cases i <;> cases hx
  · cases hp


theorem brV_by {b : Bool} {A B : Prop} (h1 : b = true → A) (h2 : b = false → B) : brV b true A B := by cases b; exact h2 rfl; exact h1 rfl
theorem brV_by' {b : Bool} {A B : Prop} (h1 : b = false → A) (h2 : b = true → B) : brV b false A B := by cases b; exact h1 rfl; exact h2 rfl
theorem gb_by {b : Bool} {X : Prop} (h1 : b = true) (h2 : X) : gb b X := gb_iff.2 ⟨h1, h2⟩

@[simp ↓ high] theorem brV_tt (A B : Prop) : brV true true A B = A := by simp [brV]
@[simp ↓ high] theorem brV_ft (A B : Prop) : brV false true A B = B := by simp [brV]
@[simp ↓ high] theorem brV_tf (A B : Prop) : brV true false A B = B := by simp [brV]
@[simp ↓ high] theorem brV_ff (A B : Prop) : brV false false A B = A := by simp [brV]
@[simp ↓ low] theorem brV_t (b : Bool) (A B : Prop) : brV b true A B = ((b = true → A) ∧ (b = false → B)) := by cases b <;> simp [brV]
@[simp ↓ low] theorem brV_f (b : Bool) (A B : Prop) : brV b false A B = ((b = false → A) ∧ (b = true → B)) := by cases b <;> simp [brV]

@[simp ↓ high] theorem gb_t (X : Prop) : gb true X = X := rfl
@[simp ↓ high] theorem gb_f (X : Prop) : gb false X = False := rfl
@[simp ↓ low] theorem gb_d (p : Prop) [Decidable p] (X : Prop) : gb (decide p) X = (p ∧ X) := by by_cases h : p <;> simp [gb, h]

end
end Go.AL
