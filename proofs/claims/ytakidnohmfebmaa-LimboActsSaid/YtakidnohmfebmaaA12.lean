/-
  The abstract layer, part 12: the weakest precondition of code, over abstract states; contracts out of it.
-/
import Derived.Test.YtakidnohmfebmaaA11
namespace Go.AL
noncomputable section
set_option linter.unusedSimpArgs false
set_option linter.unusedVariables false

def ansD (cfg : Cfg) (dst : Option Nat) (next : Bits → St → Prop) (st : St) : Ans → Prop
  | .pure c v => gb c (next {} (st.fin cfg dst v).2)
  | .own c v ow nw => gb c (next { rW := true, wW := true } ((st.setσ { st.σ with own := ow, nown := nw }).fin cfg dst v).2)
  | .full c v σ' => gb c (next { rO := true, rW := true, wO := true, wW := true } ((st.setσ σ').fin cfg dst v).2)
  | .nm x f => ∀ y, y = x → ansD cfg dst next st (f y)
  | .br b x y => brV b true (ansD cfg dst next st x) (ansD cfg dst next st y)
/-- A call in a region whose order is open: it turns nothing; or permissions alone; or whatever. Its answer must be one. -/
def dcallV (P : Program) (cfg : Cfg) (dst : Option Nat) (f : AVal) (args : List AVal) (next : Bits → St → Prop) (st : St) : Prop :=
  match calleeA f args with
  | some (g, xs) => gb (fok st dst && (isGo P g && noLocL xs)) (
    match cfg.orc g xs st.σ with
    | some a => ansD cfg dst next st a
    | none => False)
  | none => False

theorem fok_set {st : St} {dst : Option Nat} (h : fok st dst = true) (σ' : Sto) (cfg : Cfg) (v : AVal) : ((st.setσ σ').fin cfg dst v).1 := fok_fin (st := st.setσ σ') (by cases dst with | none => rfl | some d => exact h) cfg v

theorem dcallV_any {P : Program} {cfg : Cfg} (ho : OrcOk P cfg) {dst : Option Nat} {f : AVal} {args : List AVal} {next : Bits → St → Prop} {st : St} (h : dcallV P cfg dst f args next st) :
    ∃ g xs, calleeA f args = some (g, xs) ∧ isGo P g = true ∧ noLocL xs = true ∧
    ((∃ v, PCall P g xs v ∧ (st.fin cfg dst v).1 ∧ next {} (st.fin cfg dst v).2) ∨
      (∃ v ow nw, WCall P g xs v st.σ.own st.σ.nown ow nw ∧ ((st.setσ { st.σ with own := ow, nown := nw }).fin cfg dst v).1 ∧ next { rW := true, wW := true } ((st.setσ { st.σ with own := ow, nown := nw }).fin cfg dst v).2) ∨
      (∃ v σ', FCall P g xs st.σ v σ' ∧ ((st.setσ σ').fin cfg dst v).1 ∧ next { rO := true, rW := true, wO := true, wW := true } ((st.setσ σ').fin cfg dst v).2)) := by
  unfold dcallV at h
  split at h
  · rename_i g xs hc
    obtain ⟨hb, h⟩ := gb_iff.1 h
    simp only [Bool.and_eq_true] at hb
    obtain ⟨k2, hg, hl⟩ := hb
    refine ⟨g, xs, hc, hg, hl, ?_⟩
    have hok := ho.call g xs st.σ
    split at h
    · rename_i a e
      rw [e] at hok
      clear e
      induction a with
      | pure c v =>
        obtain ⟨h1, h3⟩ := gb_iff.1 h
        exact .inl ⟨_, hok h1, fok_fin k2 cfg _, h3⟩
      | own c v ow nw =>
        obtain ⟨h1, h3⟩ := gb_iff.1 h
        exact .inr (.inl ⟨_, _, _, hok h1, fok_set k2 _ cfg _, h3⟩)
      | full c v σ' =>
        obtain ⟨h1, h3⟩ := gb_iff.1 h
        exact .inr (.inr ⟨_, _, hok h1, fok_set k2 _ cfg _, h3⟩)
      | nm x f ih => exact ih x hok (h x rfl)
      | br b x y ihx ihy =>
        cases b with
        | true => exact ihx (hok.1 rfl) ((brV_iff.1 h).1 rfl)
        | false => exact ihy (hok.2 rfl) ((brV_iff.1 h).2 rfl)
    · exact h.elim
  · exact h.elim

def dopV (P : Program) (cfg : Cfg) (o : Oper) (next : Bits → St → Prop) (st : St) : Prop :=
  match o.op with
  | .call ⟨.value f, args, _⟩ => dcallV P cfg o.dst (st.eval f) (args.toList.map st.eval) next st
  | _ =>
    match dBits P cfg o st with
    | some b =>
      match pureOp P st.eval st.objAt o.op with
      | some (p, v) => gb (fok st o.dst && p) (nameV cfg o.dst v fun v => next b (st.fin cfg o.dst v).2)
      | none => match effOp P cfg o st with | some (p, st') => gb p (next b st') | none => False
    | none => False

/-- The objects of the activation's own that a region makes. -/
def locAlloc (cfg : Cfg) (o : Oper) : Option Nat :=
  match o.op, o.dst with
  | .alloc _, some d => if cfg.out.elem d then none else some d
  | _, _ => none
def locAllocs (cfg : Cfg) (ops : Array Oper) : List Nat := ops.toList.filterMap (locAlloc cfg)
/-- Which of them what an operation has written refers to. -/
def says1 (o : Oper) (st' : St) (b : Bits) (k : Nat) : Bool :=
  (match o.dst with | some t => t == k || (st'.get t).noRef k | none => true) && b.wL.all fun j => j == k || (match lookup st'.loc j with | some x => x.noRef k | none => true)
def Bits.note (ds : List Nat) (o : Oper) (st' : St) (b : Bits) : Bits := { b with mL := ds.filter fun k => !says1 o st' b k }
def drawPre (cfg : Cfg) (ops : Array Oper) (st : St) : Bool := (locAllocs cfg ops).all fun d => (st.put cfg.keep d .undef).noRef d

def drawV (P : Program) (cfg : Cfg) (ops : Array Oper) : List Oper → List Bits → (St → Prop) → St → Prop
  | [], bs, K, st => gb (drawOk ops bs.reverse) (K st)
  | o :: rest, bs, K, st =>
    match o.guard with
    | none => dopV P cfg o (fun b st' => drawV P cfg ops rest (b.note (locAllocs cfg ops) o st' :: bs) K st') st
    | some (j, want) =>
      match (ops[j]?).bind (·.dst) with
      | none => skipV cfg o (fun st' => drawV P cfg ops rest (({} : Bits).note (locAllocs cfg ops) o st' :: bs) K st') st
      | some g =>
        match st.get g with
        | .bool b => brV b want (dopV P cfg o (fun b st' => drawV P cfg ops rest (b.note (locAllocs cfg ops) o st' :: bs) K st') (st.put cfg.keep g (.bool want))) (skipV cfg o (fun st' => drawV P cfg ops rest (({} : Bits).note (locAllocs cfg ops) o st' :: bs) K st') (st.put cfg.keep g (.bool (!want))))
        | .tuple _ => skipV cfg o (fun st' => drawV P cfg ops rest (({} : Bits).note (locAllocs cfg ops) o st' :: bs) K st') st
        | _ => False

theorem ss_put_same (keep : List Nat) (st : St) (g : Nat) {v : AVal} (h : st.get g = v) : (st.put keep g v).ss = st.ss := by
  unfold St.ss
  rw [St.put_n, St.put_loc, St.put_σ]
  congr 1
  funext t
  exact get_put_same keep st g h t

/-- A call's frame. -/
theorem call_framed {P : Program} {cfg : Cfg} {o : Oper} {f : Operand} {args : Array Operand} {ts : Array TypeId} (ho : o.op = .call ⟨.value f, args, ts⟩) {g : FuncId} {xs : List AVal} {st2 : St}
    (hc : calleeA (st2.eval f) (args.toList.map st2.eval) = some (g, xs)) (hg : isGo P g = true) (hl : noLocL xs = true) {v : AVal} {σ' : Sto} (hA : ACall P g xs st2.σ fun r τ => r = v ∧ τ = σ') (hd : ((st2.setσ σ').fin cfg o.dst v).1)
    {γ : Gh} {w : World} {a : Act} (hC : Conc γ w a st2) {next : Act → World → Prop} {Q : Exit → Act → World → Prop} (hn : ∀ γ' w' a', Conc γ' w' a' ((st2.setσ σ').fin cfg o.dst v).2 → EvoS γ w st2 γ' w' ((st2.setσ σ').fin cfg o.dst v).2 → next a' w') : o.wp P a w next Q := by
  obtain ⟨vs, hrun, hr⟩ := execOp_call hC ho hc hg hl
  have hcall := hA γ w vs (hC.inv.sub (Sto.O_sub st2)) hr
  unfold Oper.wp
  rw [hrun]
  refine hcall.mono fun e w' ⟨u, r, γ', σ2, he, hrep, hi, hev, hrv, hσ⟩ => ?_
  subst he; subst hrv; subst hσ
  obtain ⟨γ2, c1, c2, c3⟩ := hC.afterCall hi hev
  exact hn _ _ _ (c1.fin cfg hd (c3 _ u hrep)) (EvoS.put c2 (fin_objAt _ _ _ _) (fin_σ _ _ _ _))

theorem callee_agree {ops : Array Oper} {o : Oper} {b : Bits} {f : Operand} {args : Array Operand} {ts : Array TypeId} (ho : o.op = .call ⟨.value f, args, ts⟩) {st st2 : St} (h : Agree ops o b st2.ss st.ss) :
    st2.eval f = st.eval f ∧ args.toList.map st2.eval = args.toList.map st.eval := by
  have hev := looks_eval h
  rw [ho] at hev
  simp only [Op.operands, Call.operands, Array.toList_append, List.mem_append] at hev
  exact ⟨hev f (.inl (by simp)), List.map_congr' (fun x hx => hev x (.inr hx))⟩

theorem wpOp_run {P : Program} {ops : Array Oper} {Q : Exit → Act → World → Prop} {i : Nat} {o : Oper} (hi : ops[i]? = some o) {a : Act} {w : World} {next : Act → World → Prop} (hw : Region.wanted o (yielded ops a.tmps) = true) (h : o.wp P a w next Q) : wpOp P ops Q i next a w := by
  unfold wpOp
  rw [hi]
  simp only []
  rw [if_pos hw]
  exact .inl h

theorem wpOp_skip {P : Program} {ops : Array Oper} {Q : Exit → Act → World → Prop} {i : Nat} {o : Oper} (hi : ops[i]? = some o) {a : Act} {w : World} {next : Act → World → Prop} (hw : ¬ Region.wanted o (yielded ops a.tmps) = true) (h : next (a.put o.dst undef) w) : wpOp P ops Q i next a w := by
  unfold wpOp
  rw [hi]
  simp only []
  rw [if_neg hw]
  exact h

theorem dBits_nr {P : Program} {cfg : Cfg} {o : Oper} {st : St} {b : Bits} (hla : locAlloc cfg o = none) (hb : dBits P cfg o st = some b) : b.nr = [] := by
  unfold dBits at hb
  split at hb
  · cases hb; rfl
  · split at hb
    · cases hb; rfl
    · cases hb; rfl
    · unfold dBits0 at hb
      split at hb
      · cases hb; rfl
      · split at hb
        · split at hb
          · split at hb
            · cases hb
            · cases hb; rfl
          · cases hb
        · split at hb
          · split at hb
            · cases hb
            · cases hb; rfl
          · cases hb
        · cases hb; rfl
        · rename_i T ho
          split at hb
          · rename_i d hd
            split at hb
            · cases hb; rfl
            · rename_i hc
              simp only [locAlloc, ho, hd, hc] at hla
              cases hla
          · cases hb
        · split at hb <;> cases hb <;> rfl
        · split at hb <;> cases hb <;> rfl
        · split at hb
          · split at hb <;> cases hb <;> rfl
          · cases hb
        · cases hb; rfl
        · cases hb
theorem alloc_step {P : Program} {cfg : Cfg} {o : Oper} {st st' : St} {b : Bits} {d : Nat} {p : Bool} (hla : locAlloc cfg o = some d) (hb : dBits P cfg o st = some b) (hs : stepOp P cfg o st = some (p, st')) (hp : p = true) :
    ∃ T cs, o.op = .alloc T ∧ o.dst = some d ∧ zeroA P T = some cs ∧ b = { wL := [d], nr := [d] } ∧ (st.put cfg.keep d .undef).noRef d = true ∧ noRefL d cs = true ∧ d < st.n ∧
      st' = ((st.put cfg.keep d .undef).setLoc d (.cells cs)).put cfg.keep d (.ptr (.loc d) 0) := by
  unfold locAlloc at hla
  split at hla
  · rename_i T d' ho hd
    split at hla
    · cases hla
    · rename_i hc
      cases hla
      have hpu : pureOp P st.eval st.objAt o.op = none := by rw [ho]; rfl
      have hfr : frzOp P cfg st.eval st.objAt o = none := by unfold frzOp; rw [ho]
      have har : arrOp P st.eval st.objAt o.op = none := by rw [ho]; rfl
      unfold dBits at hb
      rw [hfr] at hb
      simp only [har] at hb
      unfold dBits0 at hb
      rw [hpu, ho] at hb
      simp only [hd, hc] at hb
      unfold stepOp at hs
      rw [hpu] at hs
      simp only [effOp, hfr] at hs
      unfold effOp0 at hs
      simp only [ho, hd] at hs
      cases hz : zeroA P T with
      | none => rw [hz] at hs; simp only [har] at hs; cases hs
      | some cs =>
        rw [hz] at hs
        simp only [allocA, hc] at hs
        simp only [Bool.false_eq_true, if_false, Option.some.injEq, Prod.mk.injEq] at hs hb
        obtain ⟨h1, h2⟩ := hs
        rw [← h1] at hp
        obtain ⟨q1, q2, q3⟩ := of_decide_eq_true hp
        exact ⟨T, cs, ho, hd, hz, hb.symm, q1, q2, q3, h2.symm⟩
  · cases hla
theorem allocLoc_ss {cfg : Cfg} {o : Oper} {d : Nat} {x : AObj} {v : AVal} {st st2 : St} (hd : o.dst = some d) (hn : st2.n = st.n) :
    (((st2.put cfg.keep d .undef).setLoc d x).put cfg.keep d v).ss = (Rec.mk' o { wL := [d], nr := [d] } (((st.put cfg.keep d .undef).setLoc d x).put cfg.keep d v)).apply st2.ss := by
  simp only [Rec.mk', Rec.apply, hd, St.ss, St.put_n, St.put_loc, St.put_σ]
  simp only [Bool.false_eq_true, if_false]
  congr 1
  · show (st2.put cfg.keep d .undef).n = st2.n
    rw [St.put_n]
  · funext t
    rw [St.get_put, St.get_put, if_pos rfl]
    split
    · rfl
    · rename_i e
      show (st2.put cfg.keep d .undef).get t = st2.get t
      rw [St.get_put, if_neg e]
  · funext q
    rw [lookup_setLoc, lookup_setLoc]
    by_cases e : d = q
    · subst e; simp
    · have : ([d].elem q) = false := by simp only [List.elem_eq_mem, List.mem_singleton, decide_eq_false_iff_not]; exact fun h => e h.symm
      rw [this, if_neg e, St.put_loc]; rfl
  · show (st2.put cfg.keep d .undef).σ = st2.σ
    rw [St.put_σ]
/-- What an operation's condition gives: a record, with its frame. -/
theorem dopV_sound {P : Program} {cfg : Cfg} (ho' : OrcOk P cfg) {ops : Array Oper} {Q : Exit → Act → World → Prop} {i : Nat} {o : Oper} (hi : ops[i]? = some o) {next : Bits → St → Prop} {st : St} (h : dopV P cfg o next st)
    (hw : ∀ (γ : Gh) (w : World) (a : Act) (st2 : St), Conc γ w a st2 → (∀ t, t ∈ o.looksAt ops → st2.get t = st.get t) → Region.wanted o (yielded ops a.tmps) = true) :
    ∃ r st', r.dst = o.dst ∧ Framed P ops Q i o r st.ss ∧ st'.ss = r.apply st.ss ∧ (∀ k, r.b.nr.elem k = true → locAlloc cfg o = some k) ∧ next r.b st' := by
  unfold dopV at h
  split at h
  · rename_i f args ts ho
    obtain ⟨g, xs, hc, hg, hl, h⟩ := dcallV_any ho' h
    · have hself : ∀ (v : AVal) (σ' : Sto) (b : Bits), (b.wO = true → True) → True := fun _ _ _ _ => trivial
      rcases h with ⟨v, hP, hd, hn⟩ | ⟨v, ow, nw, hP, hd, hn⟩ | ⟨v, σ', hP, hd, hn⟩
      · refine ⟨Rec.mk' o {} (st.fin cfg o.dst v).2, _, rfl, ?_, (fin_ss rfl rfl rfl rfl).2, (fun k h => by cases h), hn⟩
        intro γ w a st2 hC hA nx hnx
        obtain ⟨e1, e2⟩ := callee_agree ho hA
        have hfin := fin_ss (cfg := cfg) (o := o) (b := {}) (v := v) (st := st) (st2 := st2) hA.n rfl rfl rfl
        refine wpOp_run hi (hw γ w a st2 hC hA.tmp) (call_framed (cfg := cfg) ho (by rw [e1, e2]; exact hc) hg hl (hP st2.σ) ?_ hC fun γ' w' a' c1 c2 => hnx _ _ _ _ c1 c2 hfin.2)
        show (st2.fin cfg o.dst v).1
        rw [hfin.1]; exact hd
      · have hap : ∀ st2 : St, st2.n = st.n → st2.σ.own = st.σ.own → st2.σ.nown = st.σ.nown → ((st2.setσ { st2.σ with own := ow, nown := nw }).fin cfg o.dst v).1 ∧
            ((st2.setσ { st2.σ with own := ow, nown := nw }).fin cfg o.dst v).2.ss = (Rec.mk' o { rW := true, wW := true } ((st.setσ { st.σ with own := ow, nown := nw }).fin cfg o.dst v).2).apply st2.ss := fun st2 h1 _ _ => by
          cases hdd : o.dst with
          | none =>
            refine ⟨rfl, ?_⟩
            simp only [St.fin, St.setσ, Rec.mk', Rec.apply, hdd, St.ss, List.elem]
            simp only [if_true, Bool.false_eq_true, if_false]
            rfl
          | some d =>
            rw [hdd] at hd
            refine ⟨?_, ?_⟩
            · have : d < st.n := of_decide_eq_true hd
              exact decide_eq_true (by show d < st2.n; rw [h1]; exact this)
            · simp only [St.fin, Rec.mk', Rec.apply, hdd, St.ss, St.put_n, St.put_loc, St.put_σ, St.setσ, List.elem]
              simp only [if_true, Bool.false_eq_true, if_false]
              congr 1
              funext t
              rw [St.get_put, St.get_put, if_pos rfl]
              rfl
        refine ⟨Rec.mk' o { rW := true, wW := true } ((st.setσ { st.σ with own := ow, nown := nw }).fin cfg o.dst v).2, _, rfl, ?_, (hap st rfl rfl rfl).2, (fun k h => by cases h), hn⟩
        intro γ w a st2 hC hA nx hnx
        obtain ⟨e1, e2⟩ := callee_agree ho hA
        have hO := hA.own rfl
        obtain ⟨f1, f2⟩ := hap st2 hA.n hO.1 hO.2
        exact wpOp_run hi (hw γ w a st2 hC hA.tmp) (call_framed (cfg := cfg) ho (by rw [e1, e2]; exact hc) hg hl (hP st2.σ hO.1 hO.2) f1 hC fun γ' w' a' c1 c2 => hnx _ _ _ _ c1 c2 f2)
      · have hap : ∀ st2 : St, st2.n = st.n → ((st2.setσ σ').fin cfg o.dst v).1 ∧
            ((st2.setσ σ').fin cfg o.dst v).2.ss = (Rec.mk' o { rO := true, rW := true, wO := true, wW := true } ((st.setσ σ').fin cfg o.dst v).2).apply st2.ss := fun st2 h1 => by
          cases hdd : o.dst with
          | none =>
            refine ⟨rfl, ?_⟩
            simp only [St.fin, St.setσ, Rec.mk', Rec.apply, hdd, St.ss, List.elem]
            simp only [if_true, Bool.false_eq_true, if_false]
            rfl
          | some d =>
            rw [hdd] at hd
            refine ⟨?_, ?_⟩
            · have : d < st.n := of_decide_eq_true hd
              exact decide_eq_true (by show d < st2.n; rw [h1]; exact this)
            · simp only [St.fin, Rec.mk', Rec.apply, hdd, St.ss, St.put_n, St.put_loc, St.put_σ, St.setσ, List.elem]
              simp only [if_true, Bool.false_eq_true, if_false]
              congr 1
              funext t
              rw [St.get_put, St.get_put, if_pos rfl]
              rfl
        refine ⟨Rec.mk' o { rO := true, rW := true, wO := true, wW := true } ((st.setσ σ').fin cfg o.dst v).2, _, rfl, ?_, (hap st rfl).2, (fun k h => by cases h), hn⟩
        intro γ w a st2 hC hA nx hnx
        obtain ⟨e1, e2⟩ := callee_agree ho hA
        have hO := hA.own rfl
        have hB := hA.obj rfl
        have hσ : st2.σ = st.σ := by
          have h1 : st2.σ.obj = st.σ.obj := hB.1
          have h2 : st2.σ.nobj = st.σ.nobj := hB.2
          have h3 : st2.σ.own = st.σ.own := hO.1
          have h4 : st2.σ.nown = st.σ.nown := hO.2
          revert h1 h2 h3 h4
          generalize st2.σ = s2
          generalize st.σ = s1
          intro h1 h2 h3 h4
          cases s1; cases s2
          simp only at h1 h2 h3 h4
          subst h1; subst h2; subst h3; subst h4
          rfl
        obtain ⟨f1, f2⟩ := hap st2 hA.n
        exact wpOp_run hi (hw γ w a st2 hC hA.tmp) (call_framed (cfg := cfg) ho (by rw [e1, e2]; exact hc) hg hl (by rw [hσ]; exact hP) f1 hC fun γ' w' a' c1 c2 => hnx _ _ _ _ c1 c2 f2)
  · split at h
    · rename_i b hb
      obtain ⟨p, st', hs, hp, hn⟩ := step_of (K := next b) h
      cases hla : locAlloc cfg o with
      | some d =>
        obtain ⟨T, cs, e1, e2, hz, e4, hpre, hrf, hdn, e5⟩ := alloc_step hla hb hs hp
        subst e4; subst e5
        refine ⟨Rec.mk' o { wL := [d], nr := [d] } _, _, rfl, ?_, allocLoc_ss (cfg := cfg) e2 rfl, fun k hk => ?_, hn⟩
        · intro γ w a st2 hC hA nx hnx
          have hnr := hA.nr d (show [d].elem d = true by simp)
          have hN : (st2.put cfg.keep d .undef).NoRef d := by
            refine ⟨fun t => ?_, fun j v hv hj => hnr.2 j v (by rw [← hv, St.put_loc]; rfl) hj⟩
            rw [St.get_put]
            split
            · rfl
            · rename_i e; exact hnr.1 t (fun e' => e e'.symm)
          obtain ⟨inf, z, g1, g2, g3, g4⟩ := zeroA_sound hz
          have hn2 : st2.n = st.n := hA.n
          exact wpOp_run hi (hw γ w a st2 hC hA.tmp) ((allocLoc_does hC e1 e2 ⟨inf, z, g1, g2, g3 γ w, g4⟩ hrf (by rw [hn2]; exact hdn) hN).wp fun γ' w' a' c1 c2 => hnx _ _ _ _ c1 c2 (allocLoc_ss (cfg := cfg) e2 hn2))
        · have hk : [d].elem k = true := hk
          have : k = d := by simpa using hk
          rw [this]
      | none =>
      have hb0 := dBits_nr hla hb
      have hself : st'.ss = (Rec.mk' o b st').apply st.ss := by
        obtain ⟨st2', h1, h2⟩ := step_framed (ops := ops) hb hb0 hs (st2 := st) ⟨rfl, fun _ _ => rfl, fun _ _ => rfl, (fun k hk => by rw [hb0] at hk; cases hk), fun _ => ⟨rfl, rfl⟩, fun _ => ⟨rfl, rfl⟩⟩
        rw [hs] at h1
        cases h1
        exact h2
      refine ⟨Rec.mk' o b st', st', rfl, ?_, hself, (fun k hk => by have hk : b.nr.elem k = true := hk; rw [hb0] at hk; cases hk), hn⟩
      intro γ w a st2 hC hA nx hnx
      obtain ⟨st2', h1, h2⟩ := step_framed (ops := ops) hb hb0 hs hA
      exact wpOp_run hi (hw γ w a st2 hC hA.tmp) ((stepOp_sound hC h1 hp).wp fun γ' w' a' c1 c2 => hnx _ _ _ _ c1 c2 h2)
    · exact h.elim

theorem looks_guard {ops : Array Oper} {o : Oper} {j : Nat} {want : Bool} (hg : o.guard = some (j, want)) {g : Nat} (hj : (ops[j]?).bind (·.dst) = some g) : g ∈ o.looksAt ops := by
  unfold Oper.looksAt
  rw [hg]
  simp only []
  refine List.mem_append.2 (.inr ?_)
  rw [hj]
  simp

theorem skip_framed {P : Program} {cfg : Cfg} {ops : Array Oper} {Q : Exit → Act → World → Prop} {i : Nat} {o : Oper} (hi : ops[i]? = some o) {K : St → Prop} {st : St} (h : skipV cfg o K st)
    (hw : ∀ (γ : Gh) (w : World) (a : Act) (st2 : St), Conc γ w a st2 → (∀ t, t ∈ o.looksAt ops → st2.get t = st.get t) → ¬ Region.wanted o (yielded ops a.tmps) = true) :
    ∃ r st', r.dst = o.dst ∧ Framed P ops Q i o r st.ss ∧ st'.ss = r.apply st.ss ∧ r.b = {} ∧ K st' := by
  refine ⟨Rec.mk' o {} (st.fin cfg o.dst (.tuple [])).2, _, rfl, ?_, (fin_ss rfl rfl rfl rfl).2, rfl, (skipV_iff h).2⟩
  intro γ w a st2 hC hA nx hnx
  have hfin := fin_ss (cfg := cfg) (o := o) (b := {}) (v := .tuple []) (st := st) (st2 := st2) hA.n rfl rfl rfl
  refine wpOp_skip hi (hw γ w a st2 hC hA.tmp) (hnx γ w _ _ (hC.fin cfg (by rw [hfin.1]; exact (skipV_iff h).1) (.tuple (.nil _))) (EvoS.put (st' := st2) (Evo.refl _ _ _ _) (fin_objAt _ _ _ _) (fin_σ _ _ _ _)) hfin.2)

theorem drawV_sound {P : Program} {cfg : Cfg} (ho : OrcOk P cfg) {ops : Array Oper} {Q : Exit → Act → World → Prop} : ∀ (l : List Oper) (i : Nat) (bs : List Bits) (K : St → Prop) (st : St), (∀ j, l[j]? = ops[i + j]?) → drawV P cfg ops l bs K st →
    ∃ recs st', FramedAll P ops Q i l recs st.ss ∧ drawOk ops (bs.reverse ++ recs.map (·.b)) = true ∧ st'.ss = foldR (fun _ => true) recs i st.ss ∧ (∀ r ∈ recs, r.Says (locAllocs cfg ops) ∧ ∀ k, r.b.nr.elem k = true → (locAllocs cfg ops).elem k = true) ∧ K st'
  | [], i, bs, K, st, _, h => ⟨[], st, trivial, by simpa using (gb_iff.1 h).1, rfl, (fun r hr => by cases hr), (gb_iff.1 h).2⟩
  | o :: l, i, bs, K, st, hl, h => by
    have h0 : ops[i]? = some o := by have := hl 0; simpa using this.symm
    have hl' : ∀ j, l[j]? = ops[i + 1 + j]? := fun j => by have := hl (j + 1); simpa [Nat.add_assoc, Nat.add_comm 1 j] using this
    have hmem : o ∈ ops.toList := by rw [Array.mem_toList_iff]; exact Array.mem_of_getElem? h0
    have fin : ∀ (r : Rec) (st1 : St), r.dst = o.dst → Framed P ops Q i o r st.ss → st1.ss = r.apply st.ss → (∀ k, r.b.nr.elem k = true → locAlloc cfg o = some k) → drawV P cfg ops l (r.b.note (locAllocs cfg ops) o st1 :: bs) K st1 →
        ∃ recs st', FramedAll P ops Q i (o :: l) recs st.ss ∧ drawOk ops (bs.reverse ++ recs.map (·.b)) = true ∧ st'.ss = foldR (fun _ => true) recs i st.ss ∧ (∀ r ∈ recs, r.Says (locAllocs cfg ops) ∧ ∀ k, r.b.nr.elem k = true → (locAllocs cfg ops).elem k = true) ∧ K st' := fun r st1 hr hf hs hnr hd => by
      obtain ⟨recs, st', g1, g2, g3, g5, g4⟩ := drawV_sound ho l (i + 1) (r.b.note (locAllocs cfg ops) o st1 :: bs) K st1 hl' hd
      rw [hs] at g1 g3
      refine ⟨{ r with b := r.b.note (locAllocs cfg ops) o st1 } :: recs, st', ⟨hr, ?_, g1⟩, by simpa using g2, g3, fun r' hr' => ?_, g4⟩
      · intro γ w a st2 hC hA nx hnx
        exact hf γ w a st2 hC ⟨hA.n, hA.tmp, hA.loc, hA.nr, hA.obj, hA.own⟩ nx hnx
      · rcases List.mem_cons.1 hr' with rfl | hr'
        · refine ⟨fun k hk hm => ?_, fun k hk => ?_⟩
          · have hsay : says1 o st1 r.b k = true := by
              cases hc : says1 o st1 r.b k with
              | true => rfl
              | false =>
                have hm : (List.filter (fun k => !says1 o st1 r.b k) (locAllocs cfg ops)).elem k = false := hm
                simp only [List.elem_eq_mem, List.mem_filter, decide_eq_false_iff_not, not_and] at hm
                exact absurd (by rw [hc]; rfl) (hm (by simpa using hk))
            simp only [says1, Bool.and_eq_true, List.all_eq_true] at hsay
            obtain ⟨c1, c2⟩ := hsay
            have hs1 := hs
            simp only [St.ss, Rec.apply, SS.mk.injEq] at hs1
            refine ⟨fun t ht hne => ?_, fun j v hw hv hne => ?_⟩
            · have ht : r.dst = some t := ht
              have hv : st1.get t = r.v := by
                have := congrFun hs1.2.1 t
                rw [ht] at this
                simpa using this
              have ho' : o.dst = some t := by rw [← hr]; exact ht
              rw [ho'] at c1
              simp only [Bool.or_eq_true, beq_iff_eq] at c1
              rw [hv] at c1
              exact c1.resolve_left hne
            · have hw : r.b.wL.elem j = true := hw
              have hl1 : lookup st1.loc j = r.loc j := by
                have := congrFun hs1.2.2.1 j
                rw [if_pos hw] at this
                exact this
              have := c2 j (by simpa using hw)
              have hv : r.loc j = some v := hv
              rw [hl1, hv] at this
              simp only [Bool.or_eq_true, beq_iff_eq] at this
              exact this.resolve_left hne
          · have := hnr k hk
            simp only [locAllocs, List.elem_eq_mem, decide_eq_true_eq, List.mem_filterMap]
            exact ⟨o, hmem, this⟩
        · exact g5 r' hr'
    unfold drawV at h
    split at h
    · rename_i hg
      obtain ⟨r, st1, h1, h2, h3, h6, h4⟩ := dopV_sound (Q := Q) ho h0 h (fun γ w a st2 _ _ => by simp [Region.wanted, hg])
      exact fin r st1 h1 h2 h3 h6 h4
    · rename_i j want hg
      split at h
      · rename_i hj
        obtain ⟨r, st1, h1, h2, h3, h4, h5⟩ := skip_framed (P := P) (Q := Q) h0 h (fun γ w a st2 _ _ => by simp [Region.wanted, hg, yielded, hj])
        exact fin r st1 h1 h2 h3 (by rw [h4]; exact fun k hk => by cases hk) (by rw [h4]; exact h5)
      · rename_i g hj
        have hgl := looks_guard hg hj
        split at h
        · rename_i b hb
          by_cases hbw : b = want
          · have hss := ss_put_same cfg.keep st g (v := .bool want) (by rw [hb, hbw])
            obtain ⟨r, st1, h1, h2, h3, h6, h4⟩ := dopV_sound (Q := Q) ho h0 ((brV_iff.1 h).1 hbw) (fun γ w a st2 hC hA => by
              have hy := (yielded_of hC hj).1 want (by rw [hA g hgl, St.get_put, if_pos rfl])
              simp [Region.wanted, hg, hy])
            rw [hss] at h2 h3
            exact fin r st1 h1 h2 h3 h6 h4
          · have hbn : b = !want := by cases b <;> cases want <;> simp at hbw ⊢
            have hss := ss_put_same cfg.keep st g (v := .bool (!want)) (by rw [hb, hbn])
            obtain ⟨r, st1, h1, h2, h3, h4, h5⟩ := skip_framed (P := P) (Q := Q) h0 ((brV_iff.1 h).2 hbn) (fun γ w a st2 hC hA => by
              have hy := (yielded_of hC hj).1 (!want) (by rw [hA g hgl, St.get_put, if_pos rfl])
              simp [Region.wanted, hg, hy])
            rw [hss] at h2 h3
            exact fin r st1 h1 h2 h3 (by rw [h4]; exact fun k hk => by cases hk) (by rw [h4]; exact h5)
        · rename_i vs hb
          obtain ⟨r, st1, h1, h2, h3, h4, h5⟩ := skip_framed (P := P) (Q := Q) h0 h (fun γ w a st2 hC hA => by
            have hy := (yielded_of hC hj).2 vs (by rw [hA g hgl, hb])
            simp [Region.wanted, hg, hy])
          exact fin r st1 h1 h2 h3 (by rw [h4]; exact fun k hk => by cases hk) (by rw [h4]; exact h5)
        · exact h.elim

/-! ### Code -/

def St.endR (st : St) : St := { st with tm := [] }

theorem Conc.endR {γ : Gh} {w : World} {a : Act} {st : St} (h : Conc γ w a st) : Conc γ w a st.endR where
  size := h.size
  fr t := by
    have := h.fr t
    unfold St.get at this ⊢
    simp only [St.endR, lookup]
    cases hl : lookup st.fr t with
    | some v => rw [hl] at this; exact this
    | none => exact .undef _ _
  defers := h.defers
  inv := h.inv

def thenK (next : St → Prop) (K : Exit → St → Prop) : Exit → St → Prop
  | .normal, s => next s
  | e, s => K e s

def blockK (id : Nat) (K : Exit → St → Prop) : Exit → St → Prop
  | .exit i, s => if i = id then K .normal s else K (.exit i) s
  | e, s => K e s

/-- A slice in a slot is from now on but read. -/
def AVal.rest (w : Nat) : AVal → AVal
  | .slice es s t => match t with | .nil => .slice es w .ro | _ => .slice es s .ro
  | v => v
/-- A slice without room in a slot is said to bear a permission of its own. -/
def St.grow1 (ts : List Nat) (st : St) (x : Nat × Nat) : St :=
  match ts.elem x.1 with
  | false => st
  | true =>
    match Nat.ble 1000 x.2 with
    | true => { st with fr := insertAt x.1 ((st.get x.1).rest (x.2 - 1000)) st.fr }
    | false =>
    match st.get x.1 with
    | .slice es s t =>
      match t with
      | .nil => { st with fr := insertAt x.1 (.slice es x.2 (.own st.σ.nown)) st.fr, σ := st.σ.pushOwn es.length }
      | .full => { st with fr := insertAt x.1 (.slice es s (.own st.σ.nown)) st.fr, σ := st.σ.pushOwn es.length }
      | _ => st
    | _ => st
def St.growAll (ts : List Nat) : List (Nat × Nat) → St → St
  | [], st => st
  | x :: g, st => St.growAll ts g (st.grow1 ts x)
/-- A state, of which only some slots and some objects of the activation's own are kept. -/
def St.norm0 (ts ls : List Nat) (st : St) : St :=
  { st with fr := ts.map (fun t => (t, st.get t)), tm := [], loc := ls.filterMap fun k => match lookup st.loc k with | some x => some (k, x) | none => none }
def St.norm (g : List (Nat × Nat)) (ts ls : List Nat) (st : St) : St := (St.growAll ts g st).norm0 ts ls

theorem lookup_mapId {β : Type} (f : Nat → β) : ∀ (ts : List Nat) (t : Nat), lookup (ts.map fun t => (t, f t)) t = if t ∈ ts then some (f t) else none
  | [], t => by simp [lookup]
  | x :: r, t => by
    simp only [List.map_cons, lookup]
    by_cases h : x = t
    · subst h; simp
    · rw [if_neg h, lookup_mapId f r t]
      have : ¬ t = x := fun e => h e.symm
      simp [this]

theorem lookup_keep (l : List (Nat × AObj)) : ∀ (ls : List Nat) (k : Nat) (x : AObj), lookup (ls.filterMap fun k => match lookup l k with | some x => some (k, x) | none => none) k = some x → lookup l k = some x
  | [], k, x, h => by simp [lookup] at h
  | j :: r, k, x, h => by
    simp only [List.filterMap_cons] at h
    cases hj : lookup l j with
    | none => rw [hj] at h; exact lookup_keep l r k x h
    | some y =>
      rw [hj] at h
      simp only [lookup] at h
      split at h
      · rename_i e; subst e; cases h; exact hj
      · exact lookup_keep l r k x h

theorem norm_sub (ts ls : List Nat) (st : St) : ∀ i x, (st.norm0 ts ls).objAt i = some x → st.objAt i = some x := by
  intro i x h
  cases i with
  | loc k => exact lookup_keep _ _ _ _ h
  | out n => exact h

theorem Conc.norm0 {γ : Gh} {w : World} {a : Act} {st : St} (h : Conc γ w a st) (ts ls : List Nat) : Conc γ w a (st.norm0 ts ls) where
  size := h.size
  fr t := by
    have := h.fr t
    unfold St.get
    simp only [St.norm0, lookup_mapId, lookup]
    by_cases ht : t ∈ ts
    · rw [if_pos ht]; exact this
    · rw [if_neg ht]; exact .undef _ _
  defers := h.defers
  inv := h.inv.sub (norm_sub ts ls st)

theorem EvoS.norm0 {γ : Gh} {w : World} {st : St} (ts ls : List Nat) : EvoS γ w st γ w (st.norm0 ts ls) :=
  ⟨rfl, rfl, rfl, Nat.le_refl _, fun _ _ _ => rfl, Ext.refl _ _ _, fun _ _ h => .inl h, fun _ h => .inl (Mut.sub (norm_sub ts ls st) h)⟩

theorem get_fr (st : St) (d : Nat) (v : AVal) (σ : Sto) (t : Nat) : St.get { st with fr := insertAt d v st.fr, σ := σ } t = if d = t then v else st.get t := by
  simp only [St.get, lookup_insertAt]
  by_cases e : d = t <;> simp [e]

theorem Conc.growTo {γ : Gh} {w : World} {a : Act} {st : St} (h : Conc γ w a st) {d s s' : Nat} {es : List AVal} {t : Tag} (hg : st.get d = .slice es s t) (ht : (t.isNil = true) ∨ (t.isNil = false ∧ (∀ p, t ≠ .own p) ∧ t ≠ .ro ∧ s' = s)) :
    ∃ γ', Conc γ' w a { st with fr := insertAt d (.slice es s' (.own st.σ.nown)) st.fr, σ := st.σ.pushOwn es.length } ∧ EvoS γ w st γ' w { st with fr := insertAt d (.slice es s' (.own st.σ.nown)) st.fr, σ := st.σ.pushOwn es.length } := by
  obtain ⟨c1, c2, c3⟩ := h.ownFull es.length
  have key : Rep { γ with own := fun q => if q = st.σ.nown then .full es.length else γ.own q } w true (.slice es s' (.own st.σ.nown)) (a.tmps.getD d undef) := by
    have hr := h.fr d
    rw [hg] at hr
    generalize a.tmps.getD d undef = u at hr ⊢
    cases hr with
    | @sliceRow _ _ _ _ b off cap vs h1 h2 h3 h4 h5 h6 h7 =>
      rcases ht with ht | ⟨_, hno, hro, rfl⟩
      · cases t <;> simp [Tag.isNil] at ht
        exact h7.elim
      · refine .sliceRow (RepL.mono c3.weak h1) h2 (c3.cellsAt h3) h4 h5 h6 ?_
        cases t with
        | nil => exact h7.elim
        | ro => exact absurd rfl hro
        | full =>
          have : AL.tagRow { γ with own := fun q => if q = st.σ.nown then .full es.length else γ.own q } (.own st.σ.nown) es.length b off cap s' := by
            simp only [AL.tagRow, if_true, Own.isRow]
            exact ⟨Nat.le_refl _, fun _ => h7⟩
          exact this
        | own p => exact absurd rfl (hno p)
    | sliceNil h1 h2 =>
      refine .sliceNil (by simp [AL.tagNil, Own.isNil]) ?_
      exact .inr rfl
  refine ⟨_, ⟨c1.size, fun t' => ?_, c1.defers, ?_⟩, c2.put ?_ rfl⟩
  · rw [get_fr]
    split
    · rename_i e; subst e; exact key
    · exact c1.fr t'
  · have := c1.inv
    rwa [show St.objAt { st with σ := st.σ.pushOwn es.length } = St.objAt { st with fr := insertAt d (.slice es s' (.own st.σ.nown)) st.fr, σ := st.σ.pushOwn es.length } by funext i; cases i <;> rfl] at this
  · funext i; cases i <;> rfl

theorem rest_rep {γ : Gh} {w : World} {l : Bool} {a : AVal} {v : Value} (n : Nat) (h : Rep γ w l a v) : Rep γ w l (a.rest n) v := by
  cases a with
  | slice es s t =>
    have hro : Rep γ w l (.slice es s .ro) v := by
      cases h with
      | sliceRow hr hs hc h1 hn hm ht => exact .sliceRow hr hs hc h1 hn hm trivial
      | sliceNil ht ho => exact .sliceNil trivial (.inr rfl)
    cases t with
    | nil =>
      show Rep γ w l (.slice es n .ro) v
      cases h with
      | sliceRow hr hs hc h1 hn hm ht => exact ht.elim
      | sliceNil ht ho => exact .sliceNil trivial (.inr rfl)
    | _ => exact hro
  | _ => exact h
theorem Conc.grow1 {γ : Gh} {w : World} {a : Act} {st : St} (h : Conc γ w a st) (ts : List Nat) (x : Nat × Nat) : ∃ γ', Conc γ' w a (st.grow1 ts x) ∧ EvoS γ w st γ' w (st.grow1 ts x) := by
  have triv : ∃ γ', Conc γ' w a st ∧ EvoS γ w st γ' w st := ⟨γ, h, Evo.refl _ _ _ _⟩
  unfold St.grow1
  split
  · exact triv
  · split
    · exact ⟨γ, ⟨h.size, fun t => by
        have e := get_fr st x.1 ((st.get x.1).rest (x.2 - 1000)) st.σ t
        rw [e]
        split
        · rename_i e1
          subst e1
          exact rest_rep _ (h.fr _)
        · exact h.fr t, h.defers, h.inv⟩, Evo.refl _ _ _ _⟩
    · split
      · rename_i es s t hg
        split
        · exact h.growTo hg (.inl rfl)
        · exact h.growTo hg (.inr ⟨rfl, (fun p e => by cases e), (fun e => by cases e), rfl⟩)
        · exact triv
      · exact triv

theorem Conc.growAll {w : World} {a : Act} (ts : List Nat) : ∀ (g : List (Nat × Nat)) {γ : Gh} {st : St}, Conc γ w a st → ∃ γ', Conc γ' w a (St.growAll ts g st) ∧ EvoS γ w st γ' w (St.growAll ts g st)
  | [], γ, st, h => ⟨γ, h, Evo.refl _ _ _ _⟩
  | x :: g, γ, st, h => by
    obtain ⟨γ1, c1, e1⟩ := h.grow1 ts x
    obtain ⟨γ2, c2, e2⟩ := c1.growAll ts g
    exact ⟨γ2, c2, e1.trans e2⟩

theorem Conc.norm {γ : Gh} {w : World} {a : Act} {st : St} (h : Conc γ w a st) (g : List (Nat × Nat)) (ts ls : List Nat) : ∃ γ', Conc γ' w a (st.norm g ts ls) ∧ EvoS γ w st γ' w (st.norm g ts ls) := by
  obtain ⟨γ1, c1, e1⟩ := h.growAll ts g
  exact ⟨γ1, c1.norm0 ts ls, e1.trans (EvoS.norm0 ts ls)⟩

/-- A code's first region. -/
def _root_.Go.Code.key : Code → Option Nat
  | .region id _ _ => some id
  | .seq a b => match a.key with | some k => some k | none => b.key
  | .cond _ a _ => a.key
  | .block _ c => c.key
  | .loop c => c.key
  | _ => none

def cutAt (l : List (Nat × List Nat × List Nat)) (k : Option Nat) (p : Nat) : Option (List Nat × List Nat) :=
  match k with
  | some k => lookup l (2 * k + p)
  | none => none

/-- What follows, from a state on that is kept short. -/
def cutV (X : St → Prop) (s : St) : Prop := X s

/-- A loop: a relation with a number that goes down. -/
def loopV (nm : St → St) (X : (Exit → St → Prop) → St → Prop) (K : Exit → St → Prop) (st : St) : Prop :=
  ∃ I : Nat → St → Prop, (∃ m, I m st) ∧ ∀ m s, I m s → X (thenK (fun s' => ∃ m', m' < m ∧ I m' (nm s')) K) s

theorem loopV_intro {nm : St → St} {X : (Exit → St → Prop) → St → Prop} {K : Exit → St → Prop} {α : Type} (S : α → St) (C : α → Prop) (μ : α → Nat)
    (h : ∀ x, C x → ∀ L : St → Prop, (∀ y, C y → μ y < μ x → L (S y)) → X (thenK (fun s => L (nm s)) K) (S x)) (x : α) (hx : C x) : loopV nm X K (S x) := by
  refine ⟨fun m s => ∃ y, s = S y ∧ C y ∧ m = μ y, ⟨_, x, rfl, hx, rfl⟩, ?_⟩
  rintro m s ⟨y, rfl, hy, rfl⟩
  exact h y hy (fun s' => ∃ m', m' < μ y ∧ ∃ z, s' = S z ∧ C z ∧ m' = μ z) (fun z hz hlt => ⟨_, hlt, z, rfl, hz, rfl⟩)

/-- A guard's slot. -/
def gdst (ops : Array Oper) (j : Nat) : Option Nat := (ops[j]?).bind (·.dst)

/-- A part of a code. -/
def codeAt : Code → List Nat → Code
  | c, [] => c
  | .seq a b, i :: r => match i with | 0 => codeAt a r | _ => codeAt b r
  | .cond _ a b, i :: r => match i with | 0 => codeAt a r | _ => codeAt b r
  | .block _ c, _ :: r => codeAt c r
  | .loop c, _ :: r => codeAt c r
  | _, _ => .skip

/-- THE WEAKEST PRECONDITION. -/
def vc (P : Program) (cfg : Cfg) : Code → (Exit → St → Prop) → St → Prop
  | .skip, K, st => K .normal st
  | .label _, K, st => K .normal st
  | .region _ ops draw, K, st =>
    match draw with
    | false => opsV P cfg ops ops.toList (fun s => K .normal s.endR) st
    | true => gb (drawPre cfg ops st) (drawV P cfg ops ops.toList [] (fun s => K .normal s.endR) st)
  | .seq a b, K, st =>
    match cutAt cfg.cut b.key 0 with
    | none => vc P cfg a (thenK (vc P cfg b K) K) st
    | some x => vc P cfg a (thenK (fun s => cutV (vc P cfg b K) (s.norm cfg.grow x.1 x.2)) K) st
  | .cond c x y, K, st =>
    match st.eval c with
    | .bool t => brV t true (vc P cfg x K st) (vc P cfg y K st)
    | _ => False
  | .block id c, K, st => vc P cfg c (blockK id K) st
  | .loop c, K, st =>
    match cutAt cfg.cut c.key 1 with
    | none => loopV (fun s => s) (vc P cfg c) K st
    | some x => loopV (fun s => s.norm cfg.grow x.1 x.2) (vc P cfg c) K (st.norm cfg.grow x.1 x.2)
  | .exit id, K, st => K (.exit id) st
  | .ret, K, st => K .ret st
  | _, _, _ => False

/-- The post that goes with an abstract one. -/
def postK (γ : Gh) (w : World) (st : St) (K : Exit → St → Prop) : Exit → Act → World → Prop :=
  fun e a' w' => ∃ γ' st', Conc γ' w' a' st' ∧ EvoS γ w st γ' w' st' ∧ K e st'

theorem loop_sound {P : Program} {c : Code} {Q : Exit → Act → World → Prop} (J : Nat → Act → World → Prop) (hJ : ∀ m a w, J m a w → c.wp P (Exit.then (fun a' w' => ∃ m', m' < m ∧ J m' a' w') Q) a w) {m : Nat} {a : Act} {w : World} (h : J m a w) : (Code.loop c).wp P Q a w := by
  intro b k cs
  have key : ∀ n a w, J n a w → ∃ e a' w', Q e a' w' ∧ Arrives P (lone (b.at a (.code c :: .inLoop c :: k)) cs w) b k cs e a' w' := by
    intro n
    induction n using Nat.strongRecOn with
    | _ n ih =>
      intro a w hI
      obtain ⟨e, a₁, w₁, hq, harr⟩ := hJ n a w hI b (.inLoop c :: k) cs
      cases e with
      | normal =>
        obtain ⟨m', hlt, hI₁⟩ := hq
        obtain ⟨e₂, a₂, w₂, hq₂, harr₂⟩ := ih m' hlt a₁ w₁ hI₁
        exact ⟨e₂, a₂, w₂, hq₂, .of_steps (Steps.trans harr (.one step_inLoop)) harr₂⟩
      | exit id => exact ⟨_, a₁, w₁, hq, .pass (x := .inLoop c) rfl (fun _ _ => .inl (by simp)) harr⟩
      | goto l => exact ⟨_, a₁, w₁, hq, .pass (x := .inLoop c) rfl (fun _ _ => .inl (by simp)) harr⟩
      | ret => exact ⟨_, a₁, w₁, hq, .pass (x := .inLoop c) rfl (fun _ _ => .inl (by simp)) harr⟩
      | panic ch => exact ⟨_, a₁, w₁, hq, .pass (x := .inLoop c) rfl (fun _ _ => .inl (by simp)) harr⟩
      | outgrown => exact ⟨_, a₁, w₁, hq, .pass (x := .inLoop c) rfl (fun _ _ => .inl (by simp)) harr⟩
  obtain ⟨e, a', w', hq, harr⟩ := key m a w h
  exact ⟨e, a', w', hq, .of_steps (.one step_loop) harr⟩

/-- THE WEAKEST PRECONDITION IS SOUND. -/
theorem vc_sound {P : Program} (hm : P.follows .mixedOrders = true) {cfg : Cfg} (ho : OrcOk P cfg) : ∀ (c : Code) (K : Exit → St → Prop) (st : St), vc P cfg c K st → ∀ (γ : Gh) (w : World) (a : Act), Conc γ w a st → c.wp P (postK γ w st K) a w
  | .skip, K, st, h, γ, w, a, hC => wp_skip ⟨γ, st, hC, Evo.refl _ _ _ _, h⟩
  | .label l, K, st, h, γ, w, a, hC => wp_label ⟨γ, st, hC, Evo.refl _ _ _ _, h⟩
  | .region id ops draw, K, st, h, γ, w, a, hC => by
    cases draw with
    | false =>
      refine wp_region ?_
      have := opsV_sound ho (P := P) (cfg := cfg) (ops := ops) (Q := postK γ w st K) ops.toList 0 (fun s => K .normal s.endR) st (by simp) h hC (fun γ' w' a' st' c1 c2 c3 => ⟨γ', st'.endR, c1.endR, c2, c3⟩)
      rw [List.range_eq_range']
      simpa using this
    | true =>
      refine wp_region_any hm ?_
      obtain ⟨hpre, h⟩ := gb_iff.1 h
      obtain ⟨recs, st', g1, g2, g3, g5, g4⟩ := drawV_sound ho (Q := postK γ w st K) ops.toList 0 [] (fun s => K .normal s.endR) st (by simp) h
      have hs0 : ∀ k, (locAllocs cfg ops).elem k = true → st.ss.NoRefX k := fun k hk => by
        have := (List.all_eq_true.1 hpre) k (by simpa using hk)
        obtain ⟨n1, n2⟩ := St.noRef_sem this
        refine ⟨fun t ht => ?_, fun j v hv hj => n2 j v (by rw [St.put_loc]; exact hv) hj⟩
        have := n1 t
        rwa [St.get_put, if_neg (fun e => ht e.symm)] at this
      have hC' : Conc γ { w with drawn := w.drawn + 1 } a st := hC.ofHeap rfl
      have hE' : EvoS γ w st γ { w with drawn := w.drawn + 1 } st := EvoS.ofHeap rfl rfl rfl rfl
      refine any_sound (s0 := st.ss) (recs := recs) g1 (by simpa using g2) (ds := locAllocs cfg ops) (fun r hr => (g5 r hr).1) (fun r hr => (g5 r hr).2) hs0 γ w st (fun γ' w' a' st2 c1 c2 c3 => ?_) ops.size (Array.replicate ops.size false) γ _ a st (by simp) ?_ (fun j o hj hL => ?_) hC' hE' ?_
      · have hss : st'.ss = st2.ss := g3.trans c3.symm
        refine ⟨γ', st'.endR, (c1.ofSS hss).endR, ?_, g4⟩
        have e1 := objAt_ofSS hss
        have e2 : st'.σ = st2.σ := by simp only [St.ss, SS.mk.injEq] at hss; exact hss.2.2.2
        exact EvoS.put (st2 := st'.endR) c2 e1 e2
      · have : ∀ k, unl (Array.replicate ops.size false) k ≤ k := by
          intro k
          induction k with
          | zero => exact Nat.le_refl _
          | succ k ih => simp only [unl]; split <;> omega
        exact this _
      · have : j < ops.size := (Array.getElem?_eq_some_iff.1 hj).1
        simp [Array.getD_eq_getD_getElem?, this] at hL
      · have : ∀ i, (Array.replicate ops.size false).getD i false = false := fun i => by
          simp only [Array.getD_eq_getD_getElem?]
          cases h : (Array.replicate ops.size false)[i]? with
          | none => rfl
          | some b =>
            rw [Array.getElem?_replicate] at h
            split at h
            · cases h; rfl
            · cases h
        rw [foldR_none _ _ _ (fun j _ => this j)]
  | .seq x y, K, st, h, γ, w, a, hC => by
    unfold vc at h
    split at h
    · refine wp_seq (wp_mono (vc_sound hm ho x _ st h γ w a hC) fun e a' w' ⟨γ', st', c1, c2, c3⟩ => ?_)
      cases e with
      | normal => exact wp_mono (vc_sound hm ho y K st' c3 γ' w' a' c1) fun e a2 w2 ⟨γ2, st2, d1, d2, d3⟩ => ⟨γ2, st2, d1, c2.trans d2, d3⟩
      | _ => exact ⟨γ', st', c1, c2, c3⟩
    · rename_i nx _
      refine wp_seq (wp_mono (vc_sound hm ho x _ st h γ w a hC) fun e a' w' ⟨γ', st', c1, c2, c3⟩ => ?_)
      cases e with
      | normal =>
        obtain ⟨γ1, k1, k2⟩ := c1.norm cfg.grow nx.1 nx.2
        exact wp_mono (vc_sound hm ho y K (st'.norm cfg.grow nx.1 nx.2) c3 γ1 w' a' k1) fun e a2 w2 ⟨γ2, st2, d1, d2, d3⟩ => ⟨γ2, st2, d1, (c2.trans k2).trans d2, d3⟩
      | _ => exact ⟨γ', st', c1, c2, c3⟩
  | .cond c x y, K, st, h, γ, w, a, hC => by
    unfold vc at h
    split at h
    · rename_i t ht
      have hc := hC.eval c
      rw [ht] at hc
      have hcv : a.eval c = .bool t := by generalize a.eval c = u at hc; cases hc; rfl
      cases t with
      | true => exact wp_cond_true hcv (vc_sound hm ho x K st ((brV_iff.1 h).1 rfl) γ w a hC)
      | false => exact wp_cond_false hcv (vc_sound hm ho y K st ((brV_iff.1 h).2 rfl) γ w a hC)
    · exact h.elim
  | .block id c, K, st, h, γ, w, a, hC => by
    refine wp_block (wp_mono (vc_sound hm ho c _ st h γ w a hC) fun e a' w' ⟨γ', st', c1, c2, c3⟩ => ?_)
    cases e with
    | exit i =>
      simp only [blockK] at c3
      simp only [Exit.inBlock]
      by_cases hi : i = id
      · rw [if_pos hi] at c3 ⊢; exact ⟨γ', st', c1, c2, c3⟩
      · rw [if_neg hi] at c3 ⊢; exact ⟨γ', st', c1, c2, c3⟩
    | _ => exact ⟨γ', st', c1, c2, c3⟩
  | .loop c, K, st, h, γ, w, a, hC => by
    have key : ∀ (nm : St → St) (st0 : St), (∀ γ w a s, Conc γ w a s → ∃ γ', Conc γ' w a (nm s) ∧ EvoS γ w s γ' w (nm s)) → (∃ γ', Conc γ' w a st0 ∧ EvoS γ w st γ' w st0) → loopV nm (vc P cfg c) K st0 → (Code.loop c).wp P (postK γ w st K) a w := by
      intro nm st0 n1 ⟨γ0, h0, h0'⟩ h
      obtain ⟨I, ⟨m, hI⟩, hr⟩ := h
      refine loop_sound (fun m a' w' => ∃ γ' st', Conc γ' w' a' st' ∧ EvoS γ w st γ' w' st' ∧ I m st') (fun m a' w' ⟨γ', st', c1, c2, c3⟩ => ?_) (m := m) ⟨γ0, st0, h0, h0', hI⟩
      refine wp_mono (vc_sound hm ho c _ st' (hr m st' c3) γ' w' a' c1) fun e a2 w2 ⟨γ2, st2, d1, d2, d3⟩ => ?_
      cases e with
      | normal =>
        obtain ⟨m', h1, h2⟩ := d3
        obtain ⟨γ3, k1, k2⟩ := n1 _ _ _ _ d1
        exact ⟨m', h1, γ3, nm st2, k1, (c2.trans d2).trans k2, h2⟩
      | _ => exact ⟨γ2, st2, d1, c2.trans d2, d3⟩
    unfold vc at h
    split at h
    · exact key _ st (fun γ _ _ _ h => ⟨γ, h, Evo.refl _ _ _ _⟩) ⟨γ, hC, Evo.refl _ _ _ _⟩ h
    · exact key _ _ (fun _ _ _ _ h => h.norm _ _ _) (hC.norm _ _ _) h
  | .exit id, K, st, h, γ, w, a, hC => wp_exit ⟨γ, st, hC, Evo.refl _ _ _ _, h⟩
  | .ret, K, st, h, γ, w, a, hC => wp_ret ⟨γ, st, hC, Evo.refl _ _ _ _, h⟩
  | .rangeFunc .., K, st, h, γ, w, a, hC => h.elim
  | .scope _, K, st, h, γ, w, a, hC => h.elim
  | .goto _, K, st, h, γ, w, a, hC => h.elim
  | .refuse _, K, st, h, γ, w, a, hC => h.elim

end
end Go.AL
