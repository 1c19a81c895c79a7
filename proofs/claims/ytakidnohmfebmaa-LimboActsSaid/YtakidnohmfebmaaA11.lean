/-
  The abstract layer, part 11: what an operation looks at; a drawn region's condition.
-/
import Derived.Test.YtakidnohmfebmaaA10
namespace Go.AL
noncomputable section
set_option linter.unusedSimpArgs false
set_option linter.unusedVariables false

def refOid : AVal → Option Oid
  | .ptr o _ => some o
  | .arr o _ _ _ => some o
  | .map o => some o
  | _ => none

/-- The operands through which an operation reads an object. -/
def through : Op → List Operand
  | .load _ x => [x]
  | .lookup _ x _ _ => [x]
  | .convert _ _ x => [x]
  | .call ⟨.builtin _, args, _⟩ => args.toList
  | _ => []

def locRef (x : AVal) : List Nat := match refOid x with | some (.loc k) => [k] | _ => []
def isOutRef (x : AVal) : Bool := match refOid x with | some (.out _) => true | _ => false

def refBits (xs : List AVal) : Bits := { rL := xs.flatMap locRef, rO := xs.any isOutRef }

/-- A step that writes no array in place. -/
def stepOp0 (P : Program) (cfg : Cfg) (o : Oper) (st : St) : Option (Bool × St) :=
  match pureOp P st.eval st.objAt o.op with
  | some (p, v) => some (decide (p ∧ (st.fin cfg o.dst v).1), (st.fin cfg o.dst v).2)
  | none => effOp0 P cfg o st

def dBits0 (P : Program) (cfg : Cfg) (o : Oper) (st : St) : Option Bits :=
  match pureOp P st.eval st.objAt o.op with
  | some _ => some (refBits ((through o.op).map st.eval))
  | none =>
    match o.op with
    | .buildSlice _ _ _ => match o.dst with | some d => if cfg.wr.elem d then none else some {} | none => none
    | .makeSlice _ _ _ => match o.dst with | some d => if cfg.wr.elem d then none else some {} | none => none
    | .convert _ _ x => some (refBits [st.eval x])
    | .alloc _ => match o.dst with | some d => if cfg.out.elem d then some { rO := true, wO := true } else some { wL := [d], nr := [d] } | none => none
    | .store _ x _ =>
      match st.eval x with
      | .ptr (.loc k) _ => some { rL := [k], wL := [k] }
      | .ptr (.out _) _ => some { rO := true, wO := true }
      | _ => none
    | .mapUpdate _ m _ _ =>
      match st.eval m with
      | .map (.loc k) => some { rL := [k], wL := [k] }
      | .map (.out _) => some { rO := true, wO := true }
      | _ => none
    | .call ⟨.builtin .delete, args, _⟩ =>
      match args.toList, o.dst with
      | [m, _], none =>
        match st.eval m with
        | .map (.loc k) => some { rL := [k], wL := [k] }
        | .map (.out _) => some { rO := true, wO := true }
        | _ => none
      | _, _ => none
    | .call ⟨.builtin .append, args, _⟩ => some { refBits (args.toList.map st.eval) with rW := true, wW := true }
    | _ => none

def dBits (P : Program) (cfg : Cfg) (o : Oper) (st : St) : Option Bits :=
  match frzOp P cfg st.eval st.objAt o with
  | some _ => some (refBits ((through o.op).map st.eval))
  | none =>
  match arrOp P st.eval st.objAt o.op with
  | some (_, _, .out _, _) => some { refBits ((through o.op).map st.eval) with rO := true, wO := true }
  | some (_, _, .loc k, _) => some { refBits ((through o.op).map st.eval) with rL := k :: (refBits ((through o.op).map st.eval)).rL, wL := [k] }
  | none => dBits0 P cfg o st

theorem loadA_congr {P : Program} {lk lk' : Oid → Option AObj} {T : TypeId} {x : AVal} (h : ∀ o, refOid x = some o → lk' o = lk o) : loadA P lk' T x = loadA P lk T x := by
  unfold loadA
  cases tVar P T with
  | none => rfl
  | some ng => cases x with
    | ptr o off => simp only []; rw [h o rfl]
    | _ => rfl

theorem convA_congr {P : Program} {lk lk' : Oid → Option AObj} {s d : TypeId} {x : AVal} (h : ∀ o, refOid x = some o → lk' o = lk o) : convA P lk' s d x = convA P lk s d x := by
  unfold convA
  cases x with
  | arr o off len cap => simp only []; rw [h o rfl]
  | _ => rfl

theorem lookupA_congr {P : Program} {lk lk' : Oid → Option AObj} {T : TypeId} {x ix : AVal} {ok : Bool} (h : ∀ o, refOid x = some o → lk' o = lk o) : lookupA P lk' T x ix ok = lookupA P lk T x ix ok := by
  cases x with
  | map o => simp only [lookupA, h o rfl]
  | _ => rfl
theorem lenA_congr {P : Program} {lk lk' : Oid → Option AObj} {T : TypeId} {x : AVal} (h : ∀ o, refOid x = some o → lk' o = lk o) : lenA P lk' T x = lenA P lk T x := by
  unfold lenA
  cases P.underlying T with
  | none => rfl
  | some d =>
    cases x with
    | map o => cases d <;> simp only []; rw [h o rfl]
    | _ => cases d <;> rfl

theorem builtinA_congr {P : Program} {lk lk' : Oid → Option AObj} {b : Builtin} {ts : List TypeId} {xs : List AVal} (h : ∀ x ∈ xs, ∀ o, refOid x = some o → lk' o = lk o) : builtinA P lk' b ts xs = builtinA P lk b ts xs := by
  unfold builtinA
  split
  · rw [lenA_congr (h _ (by simp))]
  · rfl
  · rfl
  · rfl
  · rfl

theorem srcA_congr {P : Program} {lk lk' : Oid → Option AObj} {n : Nat} {T : TypeId} {x : AVal} (h : ∀ o, refOid x = some o → lk' o = lk o) : srcA P lk' n T x = srcA P lk n T x := by
  unfold srcA
  cases x with
  | arr o off len cap => simp only []; rw [h o rfl]
  | _ => rfl

theorem List.map_congr' {α β : Type} {f g : α → β} : ∀ {l : List α}, (∀ x ∈ l, f x = g x) → l.map f = l.map g
  | [], _ => rfl
  | x :: l, h => by simp only [List.map_cons]; rw [h x (by simp), List.map_congr' (fun y hy => h y (by simp [hy]))]

theorem Option.map_congr' {α β : Type} {f g : α → β} {l : Option α} (h : ∀ x ∈ l.toArray.toList, f x = g x) : l.map f = l.map g := by
  cases l with
  | none => rfl
  | some x => simp [h x (by simp)]

theorem pureOp_congr {P : Program} {ρ ρ' : Operand → AVal} {lk lk' : Oid → Option AObj} {op : Op} (h : ∀ x ∈ op.operands.toList, ρ' x = ρ x) (hl : ∀ x ∈ through op, ∀ o, refOid (ρ x) = some o → lk' o = lk o) :
    pureOp P ρ' lk' op = pureOp P ρ lk op := by
  cases op with
  | move x => simp [Op.operands] at h; simp [pureOp, h]
  | assign x => simp [Op.operands] at h; simp [pureOp, h]
  | pick c a b => simp [Op.operands] at h; simp [pureOp, h]
  | nilCheck x => simp [Op.operands] at h; simp [pureOp, h]
  | binOp op T x y t => simp [Op.operands] at h; simp [pureOp, h]
  | unOp op T x => simp [Op.operands] at h; simp [pureOp, h]
  | convert s d x =>
    simp [Op.operands] at h
    simp only [pureOp, h]
    exact convA_congr (hl x (by simp [through]))
  | makeInterface T x => simp [Op.operands] at h; simp [pureOp, h]
  | makeFunc fn f c =>
    simp only [Op.operands, Array.toList_append, List.mem_append] at h
    simp only [pureOp]
    rw [List.map_congr' (fun x hx => h x (.inl hx)), List.map_congr' (fun x hx => h x (.inr hx))]
  | slice T x lo hi mx =>
    simp only [Op.operands, Array.toList_append, List.mem_append] at h
    simp only [pureOp]
    rw [h x (.inl (.inl (.inl (by simp)))), Option.map_congr' (fun y hy => h y (.inl (.inl (.inr hy)))), Option.map_congr' (fun y hy => h y (.inl (.inr hy))), Option.map_congr' (fun y hy => h y (.inr hy))]
  | fieldAddr S x i => simp [Op.operands] at h; simp [pureOp, h]
  | field S x i => simp [Op.operands] at h; simp [pureOp, h]
  | indexAddr T x i => simp [Op.operands] at h; simp [pureOp, h]
  | index T x i => simp [Op.operands] at h; simp [pureOp, h]
  | load T x =>
    simp [Op.operands] at h
    simp only [pureOp, h]
    exact loadA_congr (hl x (by simp [through]))
  | lookup T x i ok =>
    simp [Op.operands] at h
    simp only [pureOp, h]
    exact lookupA_congr (hl x (by simp [through]))
  | build T ps =>
    simp only [Op.operands] at h
    simp only [pureOp]
    rw [List.map_congr' (f := fun x : Nat × Operand => (x.1, ρ' x.2)) (g := fun x => (x.1, ρ x.2)) (fun x hx => by rw [h x.2 (by simpa using ⟨x.1, by simpa using hx⟩)])]
  | typeAssert x xT T ok => simp [Op.operands] at h; simp [pureOp, h]
  | extract t i => simp [Op.operands] at h; simp [pureOp, h]
  | call c =>
    obtain ⟨callee, args, ts⟩ := c
    cases callee with
    | builtin b =>
      simp only [Op.operands, Call.operands, Array.toList_append, List.mem_append] at h
      simp only [pureOp]
      have e : args.toList.map ρ' = args.toList.map ρ := List.map_congr' (fun x hx => h x (.inr hx))
      rw [e]
      refine builtinA_congr (fun y hy o ho => ?_)
      obtain ⟨x, hx, rfl⟩ := List.mem_map.1 hy
      exact hl x (by simpa [through] using hx) o ho
    | _ => rfl
  | _ => rfl

theorem looks_eval {ops : Array Oper} {o : Oper} {b : Bits} {st st2 : St} (h : Agree ops o b st2.ss st.ss) : ∀ x ∈ o.op.operands.toList, st2.eval x = st.eval x := by
  intro x hx
  cases x with
  | tmp t =>
    refine h.tmp t ?_
    unfold Oper.looksAt
    refine List.mem_append.2 (.inl ?_)
    rw [List.mem_filterMap]
    exact ⟨.tmp t, hx, rfl⟩
  | _ => rfl

theorem lk_of_refBits {ops : Array Oper} {o : Oper} {xs : List AVal} {b : Bits} (hb : ∀ k, (refBits xs).rL.elem k = true → b.rL.elem k = true) (hb2 : (refBits xs).rO = true → b.rO = true) {st st2 : St} (h : Agree ops o b st2.ss st.ss) : ∀ x ∈ xs, ∀ i, refOid x = some i → st2.objAt i = st.objAt i := by
  intro x hx i hi
  cases i with
  | loc k =>
    have : (refBits xs).rL.elem k = true := by
      rw [List.elem_eq_mem, decide_eq_true_eq]
      exact List.mem_flatMap.2 ⟨x, hx, by simp [locRef, hi]⟩
    exact h.loc k (hb k this)
  | out n =>
    have : (refBits xs).rO = true := by simp only [refBits, List.any_eq_true]; exact ⟨x, hx, by simp [isOutRef, hi]⟩
    have := (h.obj (hb2 this)).1
    show st2.σ.obj n = st.σ.obj n
    rw [show st2.σ.obj = st.σ.obj from this]

theorem fin_ss {cfg : Cfg} {o : Oper} {b : Bits} {v : AVal} {st st2 : St} (hn : st2.n = st.n) (hL : b.wL = []) (hO : b.wO = false) (hW : b.wW = false) :
    (st2.fin cfg o.dst v).1 = (st.fin cfg o.dst v).1 ∧ (st2.fin cfg o.dst v).2.ss = (Rec.mk' o b (st.fin cfg o.dst v).2).apply st2.ss := by
  cases hd : o.dst with
  | none => simp [St.fin, Rec.mk', Rec.apply, hd, St.ss, hL, hO, hW, List.elem]
  | some d =>
    refine ⟨by simp [St.fin, hn], ?_⟩
    simp only [St.fin, Rec.mk', Rec.apply, hd, St.ss, hL, hO, hW, St.put_n, St.put_loc, St.put_σ, List.elem]
    simp only [Bool.false_eq_true, if_false]
    congr 1
    funext t
    rw [St.get_put, St.get_put, if_pos rfl]

theorem put_ss {cfg : Cfg} {o : Oper} {b : Bits} {d : Nat} {v : AVal} {st st2 : St} (hd : o.dst = some d) (hn : st2.n = st.n) (hL : b.wL = []) (hO : b.wO = false) (hW : b.wW = false) :
    (st2.put cfg.keep d v).ss = (Rec.mk' o b (st.put cfg.keep d v)).apply st2.ss := by
  have := (fin_ss (cfg := cfg) (o := o) (b := b) (v := v) hn hL hO hW).2
  rw [hd] at this
  exact this

theorem lookup_setLoc (st : St) (k : Nat) (x : AObj) (q : Nat) : lookup (st.setLoc k x).loc q = if k = q then some x else lookup st.loc q := by
  simp only [St.setLoc, lookup_insertAt]
theorem setLoc_ss {cfg : Cfg} {o : Oper} {b : Bits} {v : AVal} {st st2 : St} {k : Nat} {x : AObj} (hL : b.wL = [k]) (hO : b.wO = false) (hW : b.wW = false) :
    ((st2.setObj (.loc k) x).fin cfg o.dst v).2.ss = (Rec.mk' o b ((st.setObj (.loc k) x).fin cfg o.dst v).2).apply st2.ss := by
  have key : ∀ q, lookup (st2.setLoc k x).loc q = if [k].elem q = true then lookup (st.setLoc k x).loc q else lookup st2.loc q := fun q => by
    rw [lookup_setLoc, lookup_setLoc]
    by_cases e : k = q
    · subst e; simp
    · have : ([k].elem q) = false := by simp only [List.elem_eq_mem, List.mem_singleton, decide_eq_false_iff_not]; exact fun h => e h.symm
      rw [this, if_neg e]; rfl
  cases hd : o.dst with
  | none =>
    simp only [St.fin, Rec.mk', Rec.apply, hd, St.ss, hL, hO, hW, St.setObj]
    simp only [Bool.false_eq_true, if_false]
    congr 1
    funext q
    exact key q
  | some d =>
    simp only [St.fin, Rec.mk', Rec.apply, hd, St.ss, hL, hO, hW, St.put_n, St.put_loc, St.put_σ, St.setObj]
    simp only [Bool.false_eq_true, if_false]
    congr 1
    · funext t
      rw [St.get_put, St.get_put, if_pos rfl]
      rfl
    · funext q
      exact key q
/-- THE FRAME OF A STEP. -/
theorem step_framed0 {P : Program} {cfg : Cfg} {ops : Array Oper} {o : Oper} {st : St} {b : Bits} (hb : dBits0 P cfg o st = some b) (hnr : b.nr = []) {p : Bool} {st' : St} (hs : stepOp0 P cfg o st = some (p, st')) {st2 : St} (hA : Agree ops o b st2.ss st.ss) :
    ∃ st2', stepOp0 P cfg o st2 = some (p, st2') ∧ st2'.ss = (Rec.mk' o b st').apply st2.ss := by
  have hev := looks_eval hA
  have hn : st2.n = st.n := hA.n
  unfold dBits0 at hb
  unfold stepOp0 at hs ⊢
  split at hb
  · rename_i pv hp
    obtain ⟨q, v⟩ := pv
    simp only [Option.some.injEq] at hb
    rw [hp] at hs
    simp only [Option.some.injEq, Prod.mk.injEq] at hs
    obtain ⟨rfl, rfl⟩ := hs
    have hc : pureOp P st2.eval st2.objAt o.op = some (q, v) := by
      rw [← hp]
      refine pureOp_congr hev (fun x hx => ?_)
      exact lk_of_refBits (xs := (through o.op).map st.eval) (by rw [hb]; exact fun _ => id) (by rw [hb]; exact id) hA _ (List.mem_map_of_mem hx)
    rw [hc]
    have hf := fin_ss (cfg := cfg) (o := o) (b := b) (v := v) hn (by rw [← hb]; rfl) (by rw [← hb]; rfl) (by rw [← hb]; rfl)
    refine ⟨_, ?_, hf.2⟩
    simp only [hf.1]
  · rename_i hp
    rw [hp] at hs
    simp only [] at hs
    split at hb
    · rename_i T len ps ho
      split at hb
      · rename_i d hd
        split at hb
        · cases hb
        · rename_i hw
          cases hb
          have hc : pureOp P st2.eval st2.objAt o.op = none := by rw [ho]; rfl
          rw [hc]
          simp only []
          unfold effOp0 at hs ⊢
          rw [ho] at hs hev ⊢
          simp only [hd] at hs ⊢
          have e : ps.toList.map (fun x => (x.1, st2.eval x.2)) = ps.toList.map (fun x => (x.1, st.eval x.2)) := List.map_congr' (fun x hx => by rw [hev x.2 (by simp only [Op.operands]; simpa using ⟨x.1, by simpa using hx⟩)])
          rw [e]
          unfold buildSliceA at hs ⊢
          split at hs
          · rename_i e' n bs zs he
            split at hs
            · rename_i z d' hz hd'
              cases hd'
              split at hs
              · rename_i hc2
                simp only [if_pos hc2]
                try rw [if_neg hw] at hs
                try rw [if_neg hw]
                simp only [Option.some.injEq, Prod.mk.injEq] at hs
                obtain ⟨rfl, rfl⟩ := hs
                exact ⟨_, by rw [hn], put_ss hd hn rfl rfl rfl⟩
              · cases hs
            · cases hs
          · cases hs
      · cases hb
    · rename_i T lo co ho
      split at hb
      · rename_i d hd
        split at hb
        · cases hb
        · rename_i hw
          cases hb
          have hc : pureOp P st2.eval st2.objAt o.op = none := by rw [ho]; rfl
          rw [hc]
          simp only []
          unfold effOp0 at hs ⊢
          rw [ho] at hs hev ⊢
          simp only [hd] at hs ⊢
          have e1 : st2.eval lo = st.eval lo := hev lo (by simp [Op.operands])
          have e2 : st2.eval co = st.eval co := hev co (by simp [Op.operands])
          unfold makeSliceA at hs ⊢
          rw [e1, e2]
          split at hs
          · rename_i e' n bs zs he
            split at hs
            · rename_i z d' l c hz hd' hl hc'
              cases hd'
              split at hs
              · rename_i hc2
                rw [if_pos hc2]
                try rw [if_neg hw] at hs
                try rw [if_neg hw]
                simp only [Option.some.injEq, Prod.mk.injEq] at hs
                obtain ⟨rfl, rfl⟩ := hs
                exact ⟨_, by rw [hn], put_ss hd hn rfl rfl rfl⟩
              · cases hs
            · cases hs
          · cases hs
      · cases hb
    · rename_i src dst x ho
      simp only [Option.some.injEq] at hb
      have ex : st2.eval x = st.eval x := hev x (by rw [ho]; simp [Op.operands])
      have hc : pureOp P st2.eval st2.objAt o.op = none := by
        rw [← hp]
        refine pureOp_congr hev (fun y hy => ?_)
        rw [ho] at hy
        simp only [through, List.mem_singleton] at hy
        subst hy
        exact lk_of_refBits (xs := [st.eval y]) (by rw [hb]; exact fun _ => id) (by rw [hb]; exact id) hA _ (by simp)
      rw [hc]
      simp only []
      unfold effOp0 at hs ⊢
      rw [ho] at hs ⊢
      simp only [] at hs ⊢
      rw [ex]
      unfold bytesOfA at hs ⊢
      split at hs
      · rename_i s d hsx hd
        split at hs
        · rename_i hc2
          simp only [hsx, hd, if_pos hc2]
          simp only [Option.some.injEq, Prod.mk.injEq] at hs
          obtain ⟨rfl, rfl⟩ := hs
          exact ⟨_, by rw [hn], put_ss hd hn (by rw [← hb]; rfl) (by rw [← hb]; rfl) (by rw [← hb]; rfl)⟩
        · rename_i hc1
          split at hs
          · rename_i hc2
            simp only [hsx, hd, if_neg hc1, if_pos hc2]
            simp only [Option.some.injEq, Prod.mk.injEq] at hs
            obtain ⟨rfl, rfl⟩ := hs
            exact ⟨_, by rw [hn], put_ss hd hn (by rw [← hb]; rfl) (by rw [← hb]; rfl) (by rw [← hb]; rfl)⟩
          · cases hs
      · cases hs
    · rename_i T ho
      split at hb
      · rename_i d hd
        split at hb
        · rename_i hw
          cases hb
          have hO1 : st2.σ.obj = st.σ.obj := (hA.obj rfl).1
          have hO2 : st2.σ.nobj = st.σ.nobj := (hA.obj rfl).2
          have hc : pureOp P st2.eval st2.objAt o.op = none := by rw [ho]; rfl
          rw [hc]
          simp only []
          unfold effOp0 at hs ⊢
          rw [ho] at hs ⊢
          simp only [hd] at hs ⊢
          split at hs
          · rename_i cs d' hz hd'
            cases hd'
            unfold allocA at hs ⊢
            rw [if_pos hw] at hs ⊢
            simp only [Option.some.injEq, Prod.mk.injEq] at hs
            obtain ⟨rfl, rfl⟩ := hs
            refine ⟨_, by rw [hn], ?_⟩
            simp only [Rec.mk', Rec.apply, hd, St.ss, St.put_n, St.put_loc, St.put_σ, Sto.push, hO1, hO2, if_true, Bool.false_eq_true, if_false]
            congr 1
            · exact hn.symm
            funext t
            rw [St.get_put]
            by_cases e : d = t
            · subst e
              rw [if_pos rfl, if_pos rfl, St.get_put, if_pos rfl]
            · rw [if_neg e, if_neg e]
              rfl
          · cases hs
        · cases hb
          cases hnr
      · cases hb
    · rename_i T x y ho
      have ex : st2.eval x = st.eval x := hev x (by rw [ho]; simp [Op.operands])
      have ey : st2.eval y = st.eval y := hev y (by rw [ho]; simp [Op.operands])
      have hc : pureOp P st2.eval st2.objAt o.op = none := by rw [ho]; rfl
      rw [hc]
      simp only []
      unfold effOp0 at hs ⊢
      rw [ho] at hs ⊢
      simp only [] at hs ⊢
      cases hd : o.dst with
      | some d => rw [hd] at hs; cases hs
      | none =>
        rw [hd] at hs
        simp only [] at hs ⊢
        rw [ex, ey]
        unfold storeA at hs ⊢
        split at hb
        · rename_i k off hx
          cases hb
          have hL : ∀ q, [k].elem q = true → lookup st2.loc q = lookup st.loc q := hA.loc
          rw [hx] at hs ⊢
          split at hs
          · rename_i n g o' off' ht hx'
            cases hx'
            have e1 : st2.objAt (.loc k) = st.objAt (.loc k) := hL k (by simp)
            simp only [ht, e1]
            split at hs
            · rename_i cs hcs
              split at hs
              · rename_i hz
                simp only [if_pos hz]
                simp only [Option.some.injEq, Prod.mk.injEq] at hs
                obtain ⟨rfl, rfl⟩ := hs
                refine ⟨_, rfl, ?_⟩
                have := setLoc_ss (cfg := cfg) (o := o) (b := { rL := [k], wL := [k] }) (v := .undef) (st := st) (st2 := st2) (k := k) (x := .cells (setRange cs off (st.eval y).cells)) rfl rfl rfl
                rw [hd] at this
                exact this
              · cases hs
            · cases hs
          · cases hs
        · rename_i k off hx
          cases hb
          have hO := (hA.obj rfl).1
          have hO : st2.σ.obj = st.σ.obj := hO
          have hN : st2.σ.nobj = st.σ.nobj := (hA.obj rfl).2
          rw [hx] at hs ⊢
          split at hs
          · rename_i n g o' off' ht hx'
            cases hx'
            have e1 : st2.objAt (.out k) = st.objAt (.out k) := by simp only [St.objAt, hO]
            simp only [ht, e1]
            split at hs
            · rename_i cs hcs
              split at hs
              · rename_i hz
                simp only [if_pos hz]
                simp only [Option.some.injEq, Prod.mk.injEq] at hs
                obtain ⟨rfl, rfl⟩ := hs
                refine ⟨_, rfl, ?_⟩
                simp [Rec.mk', Rec.apply, hd, St.ss, St.setObj, Sto.set, hO, hN]
                rfl
              · cases hs
            · cases hs
          · cases hs
        · cases hb
    · rename_i T m k x ho
      have em : st2.eval m = st.eval m := hev m (by rw [ho]; simp [Op.operands])
      have ek : st2.eval k = st.eval k := hev k (by rw [ho]; simp [Op.operands])
      have ex : st2.eval x = st.eval x := hev x (by rw [ho]; simp [Op.operands])
      have hc : pureOp P st2.eval st2.objAt o.op = none := by rw [ho]; rfl
      rw [hc]
      simp only []
      unfold effOp0 at hs ⊢
      rw [ho] at hs ⊢
      simp only [] at hs ⊢
      cases hd : o.dst with
      | some d => rw [hd] at hs; cases hs
      | none =>
        rw [hd] at hs
        simp only [] at hs ⊢
        rw [em, ek, ex]
        unfold mapPutA at hs ⊢
        split at hb
        · rename_i j hx
          cases hb
          have hL : ∀ q, [j].elem q = true → lookup st2.loc q = lookup st.loc q := hA.loc
          rw [hx] at hs ⊢
          split at hs
          · rename_i kt et o' ht hx'
            cases hx'
            have e1 : st2.objAt (.loc j) = st.objAt (.loc j) := hL j (by simp)
            simp only [ht, e1]
            split at hs
            · rename_i es hes
              simp only [Option.some.injEq, Prod.mk.injEq] at hs
              obtain ⟨rfl, rfl⟩ := hs
              refine ⟨_, rfl, ?_⟩
              have := setLoc_ss (cfg := cfg) (o := o) (b := { rL := [j], wL := [j] }) (v := .undef) (st := st) (st2 := st2) (k := j) (x := .map (mapPut (st.eval k) (st.eval x) es)) rfl rfl rfl
              rw [hd] at this
              exact this
            · cases hs
          · cases hs
        · rename_i j hx
          cases hb
          have hO : st2.σ.obj = st.σ.obj := (hA.obj rfl).1
          have hN : st2.σ.nobj = st.σ.nobj := (hA.obj rfl).2
          rw [hx] at hs ⊢
          split at hs
          · rename_i kt et o' ht hx'
            cases hx'
            have e1 : st2.objAt (.out j) = st.objAt (.out j) := by simp only [St.objAt, hO]
            simp only [ht, e1]
            split at hs
            · rename_i es hes
              simp only [Option.some.injEq, Prod.mk.injEq] at hs
              obtain ⟨rfl, rfl⟩ := hs
              refine ⟨_, rfl, ?_⟩
              simp [Rec.mk', Rec.apply, hd, St.ss, St.setObj, Sto.set, hO, hN]
              rfl
            · cases hs
          · cases hs
        · cases hb
    · rename_i args ts ho
      split at hb
      · rename_i m k ha hd
        have em : st2.eval m = st.eval m := hev m (by rw [ho]; simp only [Op.operands, Call.operands, Array.toList_append, List.mem_append]; exact .inr (by rw [ha]; simp))
        have ek : st2.eval k = st.eval k := hev k (by rw [ho]; simp only [Op.operands, Call.operands, Array.toList_append, List.mem_append]; exact .inr (by rw [ha]; simp))
        have hc : pureOp P st2.eval st2.objAt o.op = none := by
          rw [ho]; simp only [pureOp, builtinA]
        rw [hc]
        simp only []
        unfold effOp0 at hs ⊢
        rw [ho] at hs ⊢
        simp only [] at hs ⊢
        split at hs
        · rename_i m' k' T T' ha' ht
          rw [ha] at ha'
          simp only [List.cons.injEq, and_true] at ha'
          obtain ⟨rfl, rfl⟩ := ha'
          rw [em, ek]
          unfold mapDelA at hs ⊢
          split at hb
          · rename_i j hx
            cases hb
            have hL : ∀ q, [j].elem q = true → lookup st2.loc q = lookup st.loc q := hA.loc
            rw [hx] at hs ⊢
            split at hs
            · rename_i q st1 hA1
              split at hA1
              · rename_i kt et o' ht' hx'
                cases hx'
                have e1 : st2.objAt (.loc j) = st.objAt (.loc j) := hL j (by simp)
                simp only [ht', e1]
                split at hA1
                · rename_i es hes
                  simp only [Option.some.injEq, Prod.mk.injEq] at hs hA1
                  obtain ⟨rfl, rfl⟩ := hA1
                  obtain ⟨rfl, rfl⟩ := hs
                  refine ⟨(st2.setObj (.loc j) (.map (mapDel (st.eval k) es))), by simp [hd, St.fin], ?_⟩
                  have := setLoc_ss (cfg := cfg) (o := o) (b := { rL := [j], wL := [j] }) (v := .undef) (st := st) (st2 := st2) (k := j) (x := .map (mapDel (st.eval k) es)) rfl rfl rfl
                  rw [hd] at this
                  simpa [hd, St.fin] using this
                · cases hA1
              · cases hA1
            · cases hs
          · rename_i j hx
            cases hb
            have hO : st2.σ.obj = st.σ.obj := (hA.obj rfl).1
            have hN : st2.σ.nobj = st.σ.nobj := (hA.obj rfl).2
            rw [hx] at hs ⊢
            split at hs
            · rename_i q st1 hA1
              split at hA1
              · rename_i kt et o' ht' hx'
                cases hx'
                have e1 : st2.objAt (.out j) = st.objAt (.out j) := by simp only [St.objAt, hO]
                simp only [ht', e1]
                split at hA1
                · rename_i es hes
                  simp only [Option.some.injEq, Prod.mk.injEq] at hs hA1
                  obtain ⟨rfl, rfl⟩ := hA1
                  obtain ⟨rfl, rfl⟩ := hs
                  refine ⟨(st2.setObj (.out j) (.map (mapDel (st.eval k) es))), by simp [hd, St.fin], ?_⟩
                  simp [Rec.mk', Rec.apply, hd, St.ss, St.fin, St.setObj, Sto.set, hO, hN]
                  rfl
                · cases hA1
              · cases hA1
            · cases hs
          · cases hb
        · cases hs
      · cases hb
    · rename_i args ts ho
      simp only [Option.some.injEq] at hb
      have hmap : args.toList.map st2.eval = args.toList.map st.eval := List.map_congr' (fun x hx => hev x (by rw [ho]; simp only [Op.operands, Call.operands, Array.toList_append, List.mem_append]; exact .inr hx))
      have hlk : ∀ x ∈ args.toList, ∀ i, refOid (st.eval x) = some i → st2.objAt i = st.objAt i := fun x hx => lk_of_refBits (xs := args.toList.map st.eval) (by rw [← hb]; exact fun _ => id) (by rw [← hb]; exact id) hA _ (List.mem_map_of_mem hx)
      have hc : pureOp P st2.eval st2.objAt o.op = none := by
        rw [← hp]
        refine pureOp_congr hev (fun y hy => ?_)
        rw [ho] at hy
        exact hlk y (by simpa [through] using hy)
      rw [hc]
      simp only []
      unfold effOp0 at hs ⊢
      rw [ho] at hs ⊢
      simp only [] at hs ⊢
      split at hs
      · rename_i s x T T' ha ht
        have es : st2.eval s = st.eval s := hev s (by rw [ho]; simp only [Op.operands, Call.operands, Array.toList_append, List.mem_append]; exact .inr (by rw [ha]; simp))
        have ex : st2.eval x = st.eval x := hev x (by rw [ho]; simp only [Op.operands, Call.operands, Array.toList_append, List.mem_append]; exact .inr (by rw [ha]; simp))
        have hO1 : st2.σ.own = st.σ.own := (hA.own (by rw [← hb])).1
        have hO2 : st2.σ.nown = st.σ.nown := (hA.own (by rw [← hb])).2
        rw [es, ex]
        split at hs
        · rename_i q v σ' hAp
          simp only [Option.some.injEq, Prod.mk.injEq] at hs
          obtain ⟨rfl, rfl⟩ := hs
          obtain ⟨σ2, hAp2, g1, g2, g3, g4⟩ : ∃ σ2, appendA P st2.objAt st2.σ T T' (st.eval s) (st.eval x) = some (q, v, σ2) ∧ σ2.own = σ'.own ∧ σ2.nown = σ'.nown ∧ σ2.obj = st2.σ.obj ∧ σ2.nobj = st2.σ.nobj := by
            unfold appendA at hAp ⊢
            split at hAp
            · rename_i e n bs zs es0 s0 tag he hse
              split at hAp
              · rename_i hc2
                rw [if_pos hc2]
                split at hAp
                · rename_i q' es' hsrc
                  have hsrc2 : srcA P st2.objAt n T' (st.eval x) = some (q', es') := by
                    rw [← hsrc]
                    exact srcA_congr (hlk x (by rw [ha]; simp))
                  simp only [hsrc2]
                  split at hAp
                  · simp only [Option.some.injEq, Prod.mk.injEq] at hAp
                    obtain ⟨rfl, rfl, rfl⟩ := hAp
                    exact ⟨st2.σ.setOwn _ _, by rw [hO1], by simp [Sto.setOwn, hO1], hO2, rfl, rfl⟩
                  · cases hAp
                  · simp only [Option.some.injEq, Prod.mk.injEq] at hAp
                    obtain ⟨rfl, rfl, rfl⟩ := hAp
                    exact ⟨st2.σ.pushOwn _, by rw [hO2], by simp [Sto.pushOwn, hO1, hO2], by simp [Sto.pushOwn, hO2], rfl, rfl⟩
                  · simp only [Option.some.injEq, Prod.mk.injEq] at hAp
                    obtain ⟨rfl, rfl, rfl⟩ := hAp
                    exact ⟨st2.σ.pushOwn _, by rw [hO2], by simp [Sto.pushOwn, hO1, hO2], by simp [Sto.pushOwn, hO2], rfl, rfl⟩
                · cases hAp
              · cases hAp
            · cases hAp
          simp only [hAp2]
          cases hd : o.dst with
          | none =>
            refine ⟨{ st2 with σ := σ2 }, by simp [St.fin], ?_⟩
            simp only [St.fin, Rec.mk', Rec.apply, hd, St.ss, ← hb]
            simp only [refBits, if_true, Bool.false_eq_true, if_false]
            obtain ⟨a1, a2, a3, a4⟩ := σ2
            simp only at g1 g2 g3 g4
            subst g1; subst g2; subst g3; subst g4
            rfl
          | some d =>
            refine ⟨({ st2 with σ := σ2 } : St).put cfg.keep d v, by simp [St.fin, hn], ?_⟩
            simp only [St.fin, Rec.mk', Rec.apply, hd, St.ss, ← hb, St.put_n, St.put_loc, St.put_σ]
            simp only [refBits, if_true, Bool.false_eq_true, if_false]
            congr 1
            · funext t
              rw [St.get_put, St.get_put, if_pos rfl]
              rfl
            · obtain ⟨a1, a2, a3, a4⟩ := σ2
              simp only at g1 g2 g3 g4
              subst g1; subst g2; subst g3; subst g4
              rfl
        · cases hs
      · cases hs
    · cases hb

theorem srcC_congr {P : Program} {lk lk' : Oid → Option AObj} {n : Nat} {T : TypeId} {x : AVal} (h : ∀ o, refOid x = some o → lk' o = lk o) : srcC P lk' n T x = srcC P lk n T x := by
  unfold srcC
  cases x with
  | arr o off len cap => simp only []; rw [h o rfl]
  | _ => rfl

theorem arrOp_congr {P : Program} {ρ ρ' : Operand → AVal} {lk lk' : Oid → Option AObj} {op : Op} (h : ∀ x ∈ op.operands.toList, ρ' x = ρ x) (hl : ∀ x ∈ through op, ∀ o, refOid (ρ x) = some o → lk' o = lk o) :
    arrOp P ρ' lk' op = arrOp P ρ lk op := by
  cases op with
  | call c =>
    obtain ⟨ce, args, ts⟩ := c
    cases ce with
    | builtin b =>
      have h2 : ∀ x ∈ args.toList, ρ' x = ρ x := fun x hx => h x (by simp only [Op.operands, Call.operands, Array.toList_append, List.mem_append]; exact .inr hx)
      have hl2 : ∀ x ∈ args.toList, ∀ o, refOid (ρ x) = some o → lk' o = lk o := fun x hx => hl x (by simpa [through] using hx)
      cases b with
      | copy =>
        simp only [arrOp]
        cases ha : args.toList with
        | nil => rfl
        | cons d r =>
          cases r with
          | nil => rfl
          | cons y r =>
            cases r with
            | cons _ _ => rfl
            | nil =>
              rw [ha] at h2 hl2
              cases ht : ts.toList with
              | nil => rfl
              | cons T r =>
                cases r with
                | nil => rfl
                | cons T' r =>
                  cases r with
                  | cons _ _ => rfl
                  | nil =>
                    simp only [h2 d (by simp), h2 y (by simp)]
                    cases hd : ρ d with
                    | arr o off len cap =>
                      cases tElem P T with
                      | none => rfl
                      | some te =>
                        obtain ⟨e, n, bs, zs⟩ := te
                        simp only []
                        rw [hl2 d (by simp) o (by rw [hd]; rfl), srcC_congr (lk' := lk') (lk := lk) (hl2 y (by simp))]
                    | _ => rfl
      | append =>
        simp only [arrOp]
        cases ha : args.toList with
        | nil => rfl
        | cons d r =>
          cases r with
          | nil => rfl
          | cons y r =>
            cases r with
            | cons _ _ => rfl
            | nil =>
              rw [ha] at h2 hl2
              cases ht : ts.toList with
              | nil => rfl
              | cons T r =>
                cases r with
                | nil => rfl
                | cons T' r =>
                  cases r with
                  | cons _ _ => rfl
                  | nil =>
                    simp only [h2 d (by simp), h2 y (by simp)]
                    cases hd : ρ d with
                    | arr o off len cap =>
                      cases tElem P T with
                      | none => rfl
                      | some te =>
                        obtain ⟨e, n, bs, zs⟩ := te
                        simp only []
                        rw [hl2 d (by simp) o (by rw [hd]; rfl), srcC_congr (lk' := lk') (lk := lk) (hl2 y (by simp))]
                    | _ => rfl
      | clear =>
        simp only [arrOp]
        cases ha : args.toList with
        | nil => rfl
        | cons d r =>
          cases r with
          | cons _ _ => rfl
          | nil =>
            rw [ha] at h2 hl2
            cases ht : ts.toList with
            | nil => rfl
            | cons T r =>
              cases r with
              | cons _ _ => rfl
              | nil =>
                simp only [h2 d (by simp)]
                cases hd : ρ d with
                | arr o off len cap =>
                  cases tElem P T with
                  | none => rfl
                  | some te =>
                    obtain ⟨e, n, bs, zs⟩ := te
                    simp only []
                    rw [hl2 d (by simp) o (by rw [hd]; rfl)]
                | _ => rfl
      | _ => rfl
    | _ => rfl
  | _ => rfl

theorem arrOp_alone {P : Program} {cfg : Cfg} {o : Oper} {st : St} {x : Bool × AVal × Oid × List AVal} (h : arrOp P st.eval st.objAt o.op = some x) : pureOp P st.eval st.objAt o.op = none ∧ effOp0 P cfg o st = none := by
  unfold arrOp at h
  split at h
  · rename_i args ts ho
    refine ⟨by rw [ho]; simp [pureOp, builtinA], by unfold effOp0; rw [ho]⟩
  · rename_i args ts ho
    refine ⟨by rw [ho]; simp [pureOp, builtinA], ?_⟩
    split at h
    · rename_i d s T T' ha ht
      split at h
      · rename_i o1 off len cap e n bs zs hd he
        unfold effOp0
        rw [ho]
        simp only [ha, ht]
        have : appendA P st.objAt st.σ T T' (st.eval d) (st.eval s) = none := by
          unfold appendA
          rw [he, hd]
        rw [this]
      · cases h
    · cases h
  · rename_i args ts ho
    refine ⟨by rw [ho]; simp [pureOp, builtinA], by unfold effOp0; rw [ho]⟩
  · cases h

theorem frzOp_congr {P : Program} {cfg : Cfg} {ρ ρ' : Operand → AVal} {lk lk' : Oid → Option AObj} {o : Oper} (h : ∀ x ∈ o.op.operands.toList, ρ' x = ρ x) : frzOp P cfg ρ' lk' o = frzOp P cfg ρ lk o := by
  have key : ∀ T T' s x, frzA P lk' T T' s x = frzA P lk T T' s x := fun T T' s x => by
    unfold frzA
    split <;> rfl
  unfold frzOp
  cases ho : o.op with
  | call c =>
    obtain ⟨cal, args, ts⟩ := c
    cases cal with
    | builtin b =>
      cases b with
      | append =>
        cases o.dst with
        | none => rfl
        | some d =>
          simp only []
          split
          · split
            · rename_i s x T T' ha ht
              have es : ρ' s = ρ s := h s (by rw [ho]; simp only [Op.operands, Call.operands, Array.toList_append, List.mem_append]; exact .inr (by rw [ha]; simp))
              have ex : ρ' x = ρ x := h x (by rw [ho]; simp only [Op.operands, Call.operands, Array.toList_append, List.mem_append]; exact .inr (by rw [ha]; simp))
              rw [es, ex]
              exact key _ _ _ _
            · rfl
          · rfl
      | _ => rfl
    | _ => rfl
  | _ => rfl
theorem frzOp_pure {P : Program} {cfg : Cfg} {ρ : Operand → AVal} {lk : Oid → Option AObj} {o : Oper} {x : Bool × AVal} (h : frzOp P cfg ρ lk o = some x) (ρ' : Operand → AVal) (lk' : Oid → Option AObj) : pureOp P ρ' lk' o.op = none := by
  unfold frzOp at h
  split at h
  · rename_i args ts d ho hd
    rw [ho]; rfl
  · cases h

/-- THE FRAME OF A STEP. -/
theorem step_framed {P : Program} {cfg : Cfg} {ops : Array Oper} {o : Oper} {st : St} {b : Bits} (hb : dBits P cfg o st = some b) (hnr : b.nr = []) {p : Bool} {st' : St} (hs : stepOp P cfg o st = some (p, st')) {st2 : St} (hA : Agree ops o b st2.ss st.ss) :
    ∃ st2', stepOp P cfg o st2 = some (p, st2') ∧ st2'.ss = (Rec.mk' o b st').apply st2.ss := by
  cases hf : frzOp P cfg st.eval st.objAt o with
  | some x =>
    obtain ⟨q, v⟩ := x
    have hf2 : frzOp P cfg st2.eval st2.objAt o = some (q, v) := by rw [← hf]; exact frzOp_congr (looks_eval hA)
    have hn : st2.n = st.n := hA.n
    have hb1 : refBits ((through o.op).map st.eval) = b := by
      unfold dBits at hb
      rw [hf] at hb
      exact Option.some.inj hb
    unfold stepOp at hs ⊢
    rw [frzOp_pure hf] at hs ⊢
    simp only [effOp, hf, hf2, Option.some.injEq, Prod.mk.injEq] at hs ⊢
    obtain ⟨rfl, rfl⟩ := hs
    have hfs := fin_ss (cfg := cfg) (o := o) (b := b) (v := v) hn (by rw [← hb1]; rfl) (by rw [← hb1]; rfl) (by rw [← hb1]; rfl)
    exact ⟨_, ⟨by rw [hfs.1], rfl⟩, hfs.2⟩
  | none =>
  have hf2 : frzOp P cfg st2.eval st2.objAt o = none := by rw [← hf]; exact frzOp_congr (looks_eval hA)
  have up : ∀ (s : St) (x : Bool × St), frzOp P cfg s.eval s.objAt o = none → stepOp0 P cfg o s = some x → stepOp P cfg o s = some x := by
    intro s x hfs hx
    unfold stepOp0 at hx
    unfold stepOp
    split at hx
    · rename_i q v hp
      rw [hp]; exact hx
    · rename_i hp
      rw [hp]
      simp only [effOp, hfs, hx]
  cases ha : arrOp P st.eval st.objAt o.op with
  | none =>
    have hb0 : dBits0 P cfg o st = some b := by
      unfold dBits at hb
      rw [hf] at hb
      simp only [ha] at hb
      exact hb
    have hs0 : stepOp0 P cfg o st = some (p, st') := by
      unfold stepOp at hs
      unfold stepOp0
      split at hs
      · rename_i q v hp
        rw [hp]; exact hs
      · rename_i hp
        rw [hp]
        simp only [effOp, hf] at hs
        split at hs
        · rename_i x hx; simp only [hx]; exact hs
        · rw [ha] at hs; cases hs
    obtain ⟨st2', h1, h2⟩ := step_framed0 hb0 hnr hs0 hA
    exact ⟨st2', up _ _ hf2 h1, h2⟩
  | some x =>
    obtain ⟨q, v, oid, cs⟩ := x
    have hev := looks_eval hA
    have hn : st2.n = st.n := hA.n
    obtain ⟨a1, a2⟩ := arrOp_alone (cfg := cfg) ha
    have hs1 : (decide (q ∧ ((st.setObj oid (.cells cs)).fin cfg o.dst v).1), ((st.setObj oid (.cells cs)).fin cfg o.dst v).2) = (p, st') := by
      unfold stepOp at hs
      rw [a1] at hs
      simp only [effOp, hf, a2, ha] at hs
      exact Option.some.inj hs
    have hbr : ∀ k, (refBits ((through o.op).map st.eval)).rL.elem k = true → b.rL.elem k = true := fun k h => by
      unfold dBits at hb
      rw [hf] at hb
      simp only [ha] at hb
      cases oid <;> (simp only [Option.some.injEq] at hb; subst hb; first | exact h | (rw [List.elem_eq_mem, decide_eq_true_eq] at h ⊢; exact List.mem_cons_of_mem _ h))
    have hbr2 : (refBits ((through o.op).map st.eval)).rO = true → b.rO = true := fun h => by
      unfold dBits at hb
      rw [hf] at hb
      simp only [ha] at hb
      cases oid <;> (simp only [Option.some.injEq] at hb; subst hb; first | rfl | exact h)
    have ha2 : arrOp P st2.eval st2.objAt o.op = some (q, v, oid, cs) := by
      rw [← ha]
      refine arrOp_congr hev (fun x hx => ?_)
      exact lk_of_refBits (xs := (through o.op).map st.eval) hbr hbr2 hA _ (List.mem_map_of_mem hx)
    obtain ⟨a3, a4⟩ := arrOp_alone (cfg := cfg) ha2
    refine ⟨((st2.setObj oid (.cells cs)).fin cfg o.dst v).2, ?_, ?_⟩
    · unfold stepOp
      rw [a3]
      simp only [effOp, hf2, a4, ha2]
      have e1 : ((st2.setObj oid (.cells cs)).fin cfg o.dst v).1 = ((st.setObj oid (.cells cs)).fin cfg o.dst v).1 := by
        cases o.dst with
        | none => rfl
        | some d => simp [St.fin, hn]
      rw [e1, ← (Prod.mk.inj hs1).1]
    · have hst' := (Prod.mk.inj hs1).2
      subst hst'
      unfold dBits at hb
      rw [hf] at hb
      simp only [ha] at hb
      cases oid with
      | loc k =>
        simp only [Option.some.injEq] at hb
        subst hb
        exact setLoc_ss rfl rfl rfl
      | out k =>
        simp only [Option.some.injEq] at hb
        subst hb
        have hO : st2.σ.obj = st.σ.obj := (hA.obj rfl).1
        have hN : st2.σ.nobj = st.σ.nobj := (hA.obj rfl).2
        cases hd : o.dst with
        | none => simp [Rec.mk', Rec.apply, hd, St.ss, St.fin, St.setObj, Sto.set, hO, hN, refBits]; rfl
        | some d =>
          simp only [Rec.mk', Rec.apply, hd, St.ss, St.fin, St.put_n, St.put_loc, St.put_σ, St.setObj, Sto.set, hO, hN, refBits]
          simp only [if_true, Bool.false_eq_true, if_false]
          congr 1
          funext t
          rw [St.get_put, St.get_put, if_pos rfl]
          rfl

end
end Go.AL
