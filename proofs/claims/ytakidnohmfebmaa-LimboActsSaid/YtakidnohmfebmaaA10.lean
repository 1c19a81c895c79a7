/-
  The abstract layer, part 10: regions whose order is open: a run in the text's order, and a check, serve every order.
-/
import Derived.Test.YtakidnohmfebmaaA9
namespace Go.AL
noncomputable section
set_option linter.unusedSimpArgs false
set_option linter.unusedVariables false

/-- A state, but for how it is written down. -/
structure SS where
  n : Nat
  get : Nat → AVal
  loc : Nat → Option AObj
  σ : Sto

def St.ss (st : St) : SS := ⟨st.n, st.get, fun k => lookup st.loc k, st.σ⟩

theorem Conc.ofSS {γ : Gh} {w : World} {a : Act} {st st' : St} (h : Conc γ w a st) (e : st'.ss = st.ss) : Conc γ w a st' := by
  simp only [St.ss, SS.mk.injEq] at e
  refine h.ext e.1 (fun t => congrFun e.2.1 t) ?_ e.2.2.2
  funext i
  cases i with
  | loc k => exact congrFun e.2.2.1 k
  | out n => simp [St.objAt, e.2.2.2]

theorem objAt_ofSS {st st' : St} (e : st'.ss = st.ss) : st'.objAt = st.objAt := by
  simp only [St.ss, SS.mk.injEq] at e
  funext i
  cases i with
  | loc k => exact congrFun e.2.2.1 k
  | out n => simp [St.objAt, e.2.2.2]

/-- What an operation looks at and turns, besides slots: the activation's own objects (L), others' objects (O), permissions (W). -/
structure Bits where
  rL : List Nat := []
  rO : Bool := false
  rW : Bool := false
  wL : List Nat := []
  wO : Bool := false
  wW : Bool := false
  nr : List Nat := []
  mL : List Nat := []

/-- One asks that nothing refers to an object, the other does. -/
def Bits.mind (a b : Bits) : Bool := a.nr.any fun k => b.mL.elem k
def Bits.clash (a b : Bits) : Bool :=
  (a.wL.any fun k => b.rL.elem k || b.wL.elem k) || (b.wL.any fun k => a.rL.elem k || a.wL.elem k) || a.mind b || b.mind a || (a.wO && (b.rO || b.wO)) || (b.wO && a.rO) || (a.wW && (b.rW || b.wW)) || (b.wW && a.rW)

structure Rec where
  dst : Option Nat
  v : AVal
  b : Bits
  loc : Nat → Option AObj
  σ : Sto

def Rec.apply (r : Rec) (s : SS) : SS where
  n := s.n
  get := match r.dst with
    | none => s.get
    | some d => fun t => if d = t then r.v else s.get t
  loc := fun k => if r.b.wL.elem k then r.loc k else s.loc k
  σ := { nobj := if r.b.wO then r.σ.nobj else s.σ.nobj, obj := if r.b.wO then r.σ.obj else s.σ.obj, nown := if r.b.wW then r.σ.nown else s.σ.nown, own := if r.b.wW then r.σ.own else s.σ.own }

def Rec.mk' (o : Oper) (b : Bits) (st' : St) : Rec := ⟨o.dst, match o.dst with | some d => st'.get d | none => .undef, b, fun k => lookup st'.loc k, st'.σ⟩

/-- Nothing refers to an object of the activation's own, but the slot in which its address lies. -/
def SS.NoRefX (s : SS) (k : Nat) : Prop := (∀ t, t ≠ k → (s.get t).noRef k = true) ∧ ∀ j v, s.loc j = some v → j ≠ k → v.noRef k = true
/-- What a record writes refers to no object, but to those that are told. -/
def Rec.Says (r : Rec) (ds : List Nat) : Prop := ∀ k, ds.elem k = true → r.b.mL.elem k = false → (∀ t, r.dst = some t → t ≠ k → r.v.noRef k = true) ∧ ∀ j v, r.b.wL.elem j = true → r.loc j = some v → j ≠ k → v.noRef k = true
theorem Rec.apply_noRefX {r : Rec} {ds : List Nat} (h : r.Says ds) {k : Nat} (hk : ds.elem k = true) (hm : r.b.mL.elem k = false) {s : SS} (hs : s.NoRefX k) : (r.apply s).NoRefX k := by
  obtain ⟨h1, h2⟩ := h k hk hm
  refine ⟨fun t ht => ?_, fun j v hv hj => ?_⟩
  · simp only [Rec.apply]
    cases hd : r.dst with
    | none => exact hs.1 t ht
    | some d =>
      simp only []
      split
      · rename_i e; subst e; exact h1 d hd ht
      · exact hs.1 t ht
  · simp only [Rec.apply] at hv
    split at hv
    · rename_i e; exact h2 j v e hv hj
    · exact hs.2 j v hv hj
/-- Does a state agree with another, as far as an operation looks? -/
structure Agree (ops : Array Oper) (o : Oper) (b : Bits) (s s' : SS) : Prop where
  n : s.n = s'.n
  tmp : ∀ t, t ∈ o.looksAt ops → s.get t = s'.get t
  loc : ∀ k, b.rL.elem k = true → s.loc k = s'.loc k
  nr : ∀ k, b.nr.elem k = true → s.NoRefX k
  obj : b.rO = true → s.σ.obj = s'.σ.obj ∧ s.σ.nobj = s'.σ.nobj
  own : b.rW = true → s.σ.own = s'.σ.own ∧ s.σ.nown = s'.σ.nown

/-- From every state that agrees with s as far as it looks, operation i comes to what the record says. -/
def Framed (P : Program) (ops : Array Oper) (Q : Exit → Act → World → Prop) (i : Nat) (o : Oper) (r : Rec) (s : SS) : Prop :=
  ∀ (γ : Gh) (w : World) (a : Act) (st : St), Conc γ w a st → Agree ops o r.b st.ss s → ∀ next : Act → World → Prop,
    (∀ γ' w' a' st', Conc γ' w' a' st' → EvoS γ w st γ' w' st' → st'.ss = r.apply st.ss → next a' w') → wpOp P ops Q i next a w

def FramedAll (P : Program) (ops : Array Oper) (Q : Exit → Act → World → Prop) : Nat → List Oper → List Rec → SS → Prop
  | _, [], [], _ => True
  | i, o :: os, r :: rs, s => r.dst = o.dst ∧ Framed P ops Q i o r s ∧ FramedAll P ops Q (i + 1) os rs (r.apply s)
  | _, _, _, _ => False

/-- What has been carried out so far, in the text's order. -/
def foldR (L : Nat → Bool) : List Rec → Nat → SS → SS
  | [], _, s => s
  | r :: rs, k, s => foldR L rs (k + 1) (if L k then r.apply s else s)

theorem apply_n (r : Rec) (s : SS) : (r.apply s).n = s.n := rfl

theorem foldR_n (L : Nat → Bool) : ∀ (rs : List Rec) (k : Nat) (s : SS), (foldR L rs k s).n = s.n
  | [], _, _ => rfl
  | r :: rs, k, s => by
    rw [foldR, foldR_n L rs]
    split <;> rfl

theorem foldR_tmp {L L' : Nat → Bool} (t : Nat) : ∀ (rs : List Rec) (k : Nat) (s s' : SS), s.get t = s'.get t → (∀ j r, rs[j]? = some r → r.dst = some t → L (k + j) = L' (k + j)) → (foldR L rs k s).get t = (foldR L' rs k s').get t
  | [], _, _, _, h, _ => h
  | r :: rs, k, s, s', h, hw => by
    rw [foldR, foldR]
    refine foldR_tmp t rs (k + 1) _ _ ?_ (fun j r' hj hd => by have := hw (j + 1) r' (by simpa using hj) hd; rwa [show k + 1 + j = k + (j + 1) by omega])
    by_cases hd : r.dst = some t
    · have := hw 0 r rfl hd
      simp only [Nat.add_zero] at this
      rw [this]
      split
      · simp [Rec.apply, hd]
      · exact h
    · have e : ∀ s : SS, (r.apply s).get t = s.get t := fun s => by
        cases hdd : r.dst with
        | none => simp [Rec.apply, hdd]
        | some d =>
          have : d ≠ t := fun e => hd (by rw [hdd, e])
          simp [Rec.apply, hdd, this]
      split <;> split <;> simp [e, h]

theorem foldR_noRefX {L : Nat → Bool} {ds : List Nat} {d : Nat} (hd : ds.elem d = true) : ∀ (rs : List Rec) (k : Nat) (s : SS), s.NoRefX d → (∀ r ∈ rs, r.Says ds) → (∀ j r, rs[j]? = some r → L (k + j) = true → r.b.mL.elem d = false) → (foldR L rs k s).NoRefX d
  | [], _, _, h, _, _ => h
  | r :: rs, k, s, h, hs, hL => by
    rw [foldR]
    refine foldR_noRefX hd rs (k + 1) _ ?_ (fun r' hr' => hs r' (List.mem_cons_of_mem _ hr')) (fun j r' hj hl => hL (j + 1) r' (by simpa using hj) (by rwa [show k + 1 + j = k + (j + 1) by omega] at hl))
    split
    · rename_i hl
      exact r.apply_noRefX (hs r (List.mem_cons_self ..)) hd (hL 0 r rfl (by simpa using hl)) h
    · exact h
theorem foldR_loc {L L' : Nat → Bool} (q : Nat) : ∀ (rs : List Rec) (k : Nat) (s s' : SS), s.loc q = s'.loc q → (∀ j r, rs[j]? = some r → r.b.wL.elem q = true → L (k + j) = L' (k + j)) → (foldR L rs k s).loc q = (foldR L' rs k s').loc q
  | [], _, _, _, h, _ => h
  | r :: rs, k, s, s', h, hw => by
    rw [foldR, foldR]
    refine foldR_loc q rs (k + 1) _ _ ?_ (fun j r' hj hd => by have := hw (j + 1) r' (by simpa using hj) hd; rwa [show k + 1 + j = k + (j + 1) by omega])
    by_cases hd : r.b.wL.elem q = true
    · have := hw 0 r rfl hd
      simp only [Nat.add_zero] at this
      rw [this]
      split
      · simp only [Rec.apply]
        rw [if_pos hd, if_pos hd]
      · exact h
    · split <;> split <;> simp only [Rec.apply, if_neg hd, h]

theorem foldR_obj {L L' : Nat → Bool} : ∀ (rs : List Rec) (k : Nat) (s s' : SS), (s.σ.obj = s'.σ.obj ∧ s.σ.nobj = s'.σ.nobj) → (∀ j r, rs[j]? = some r → r.b.wO = true → L (k + j) = L' (k + j)) →
    (foldR L rs k s).σ.obj = (foldR L' rs k s').σ.obj ∧ (foldR L rs k s).σ.nobj = (foldR L' rs k s').σ.nobj
  | [], _, _, _, h, _ => h
  | r :: rs, k, s, s', h, hw => by
    rw [foldR, foldR]
    refine foldR_obj rs (k + 1) _ _ ?_ (fun j r' hj hd => by have := hw (j + 1) r' (by simpa using hj) hd; rwa [show k + 1 + j = k + (j + 1) by omega])
    by_cases hd : r.b.wO = true
    · have := hw 0 r rfl hd
      simp only [Nat.add_zero] at this
      rw [this]
      split
      · simp [Rec.apply, hd]
      · exact h
    · split <;> split <;> simp [Rec.apply, hd, h]

theorem foldR_own {L L' : Nat → Bool} : ∀ (rs : List Rec) (k : Nat) (s s' : SS), (s.σ.own = s'.σ.own ∧ s.σ.nown = s'.σ.nown) → (∀ j r, rs[j]? = some r → r.b.wW = true → L (k + j) = L' (k + j)) →
    (foldR L rs k s).σ.own = (foldR L' rs k s').σ.own ∧ (foldR L rs k s).σ.nown = (foldR L' rs k s').σ.nown
  | [], _, _, _, h, _ => h
  | r :: rs, k, s, s', h, hw => by
    rw [foldR, foldR]
    refine foldR_own rs (k + 1) _ _ ?_ (fun j r' hj hd => by have := hw (j + 1) r' (by simpa using hj) hd; rwa [show k + 1 + j = k + (j + 1) by omega])
    by_cases hd : r.b.wW = true
    · have := hw 0 r rfl hd
      simp only [Nat.add_zero] at this
      rw [this]
      split
      · simp [Rec.apply, hd]
      · exact h
    · split <;> split <;> simp [Rec.apply, hd, h]

/-- The states at which the records were made: all before i, none from i on. -/
theorem framedAll_at {P : Program} {ops : Array Oper} {Q : Exit → Act → World → Prop} : ∀ (os : List Oper) (rs : List Rec) (k : Nat) (s : SS), FramedAll P ops Q k os rs s → ∀ (j : Nat) (o : Oper), os[j]? = some o →
    ∃ r, rs[j]? = some r ∧ r.dst = o.dst ∧ Framed P ops Q (k + j) o r (foldR (fun i => decide (i < k + j)) rs k s)
  | o :: os, r :: rs, k, s, h, 0, o', ho => by
    simp only [List.getElem?_cons_zero, Option.some.injEq] at ho
    subst ho
    refine ⟨r, rfl, h.1, ?_⟩
    have key : ∀ (rs : List Rec) (m : Nat) (s : SS), k ≤ m → foldR (fun i => decide (i < k + 0)) rs m s = s := by
      intro rs
      induction rs with
      | nil => intro m s _; rfl
      | cons r rs ih =>
        intro m s hm
        rw [foldR, if_neg (by simp only [decide_eq_true_eq]; omega)]
        exact ih _ _ (by omega)
    rw [key (r :: rs) k s (Nat.le_refl _)]
    simpa using h.2.1
  | o :: os, r :: rs, k, s, h, j + 1, o', ho => by
    obtain ⟨r', h1, h2, h3⟩ := framedAll_at os rs (k + 1) (r.apply s) h.2.2 j o' (by simpa using ho)
    refine ⟨r', by simpa using h1, h2, ?_⟩
    rw [foldR, if_pos (by simp only [decide_eq_true_eq]; omega)]
    rwa [show k + 1 + j = k + (j + 1) by omega] at h3
  | [], [], _, _, _, j, o', ho => by simp at ho
  | [], _ :: _, _, _, h, _, _, _ => h.elim
  | _ :: _, [], _, _, h, _, _, _ => h.elim

theorem foldR_none {L : Nat → Bool} : ∀ (rs : List Rec) (k : Nat) (s : SS), (∀ j, k ≤ j → L j = false) → foldR L rs k s = s
  | [], _, _, _ => rfl
  | r :: rs, k, s, h => by
    rw [foldR, h k (Nat.le_refl _)]
    exact foldR_none rs (k + 1) s (fun j hj => h j (by omega))

theorem foldR_succ : ∀ (rs : List Rec) (k i : Nat) (s : SS) (r : Rec), rs[i]? = some r → foldR (fun j => decide (j < k + i + 1)) rs k s = r.apply (foldR (fun j => decide (j < k + i)) rs k s)
  | r' :: rs, k, 0, s, r, h => by
    simp only [List.getElem?_cons_zero, Option.some.injEq] at h
    subst h
    rw [foldR, foldR, if_pos (by simp only [decide_eq_true_eq]; omega), if_neg (by simp only [decide_eq_true_eq]; omega), foldR_none rs (k + 1) _ (fun j hj => by simp only [decide_eq_false_iff_not]; omega), foldR_none rs (k + 1) _ (fun j hj => by simp only [decide_eq_false_iff_not]; omega)]
  | r' :: rs, k, i + 1, s, r, h => by
    have ih := foldR_succ rs (k + 1) i (r'.apply s) r (by simpa using h)
    rw [foldR, foldR, if_pos (by simp only [decide_eq_true_eq]; omega), if_pos (by simp only [decide_eq_true_eq]; omega)]
    rw [show k + (i + 1) = k + 1 + i by omega]
    exact ih
  | [], _, i, _, _, h => by simp at h

theorem framedAll_length {P : Program} {ops : Array Oper} {Q : Exit → Act → World → Prop} : ∀ (os : List Oper) (rs : List Rec) (k : Nat) (s : SS), FramedAll P ops Q k os rs s → os.length = rs.length
  | [], [], _, _, _ => rfl
  | o :: os, r :: rs, k, s, h => by simp [framedAll_length os rs (k + 1) _ h.2.2]
  | [], _ :: _, _, _, h => h.elim
  | _ :: _, [], _, _, h => h.elim

/-! ### The check -/

def edgesOf (o : Oper) : List Nat := (o.after.toList.filter (Region.binds .any)).map (·.on)

def maskOf (acc : List Nat) (es : List Nat) : Nat := es.foldl (fun s x => s ||| (2 ^ x ||| acc.getD x 0)) 0

def befL : List (List Nat) → List Nat → List Nat
  | [], acc => acc
  | e :: es, acc => befL es (acc ++ [maskOf acc e])

inductive Reach (E : Nat → List Nat) : Nat → Nat → Prop
  | one {j i : Nat} (h : i ∈ E j) : Reach E j i
  | more {j k i : Nat} (h : k ∈ E j) (r : Reach E k i) : Reach E j i

theorem maskOf_reach {E : Nat → List Nat} {acc : List Nat} {j : Nat} (hacc : ∀ k m, acc[k]? = some m → ∀ i, m.testBit i = true → Reach E k i) : ∀ (es : List Nat) (s : Nat), (∀ x ∈ es, x ∈ E j) → (∀ i, s.testBit i = true → Reach E j i) →
    ∀ i, (es.foldl (fun s x => s ||| (2 ^ x ||| acc.getD x 0)) s).testBit i = true → Reach E j i
  | [], s, _, hs, i, h => hs i h
  | x :: es, s, hE, hs, i, h => by
    refine maskOf_reach hacc es _ (fun y hy => hE y (by simp [hy])) (fun i hi => ?_) i h
    simp only [Nat.testBit_or, Bool.or_eq_true] at hi
    rcases hi with hi | hi | hi
    · exact hs i hi
    · have : x = i := by
        rw [Nat.testBit_two_pow] at hi
        simpa using hi
      subst this
      exact .one (hE x (by simp))
    · cases hx : acc[x]? with
      | none => simp [List.getD, hx] at hi
      | some m =>
        simp [List.getD, hx] at hi
        exact .more (hE x (by simp)) (hacc x m hx i hi)

theorem befL_reach {E : Nat → List Nat} : ∀ (es : List (List Nat)) (acc : List Nat), (∀ j e, es[j]? = some e → e = E (acc.length + j)) → (∀ k m, acc[k]? = some m → ∀ i, m.testBit i = true → Reach E k i) →
    ∀ k m, (befL es acc)[k]? = some m → ∀ i, m.testBit i = true → Reach E k i
  | [], acc, _, hacc => hacc
  | e :: es, acc, hE, hacc => by
    rw [befL]
    refine befL_reach es (acc ++ [maskOf acc e]) (fun j e' hj => ?_) (fun k m hk i hi => ?_)
    · have := hE (j + 1) e' (by simpa using hj)
      rw [this]
      congr 1
      simp
      omega
    · by_cases hlt : k < acc.length
      · rw [List.getElem?_append_left hlt] at hk
        exact hacc k m hk i hi
      · rw [List.getElem?_append_right (by omega)] at hk
        have hk0 : k - acc.length = 0 := by
          rcases Nat.eq_zero_or_pos (k - acc.length) with h | h
          · exact h
          · rw [List.getElem?_eq_none (by simp; omega)] at hk; cases hk
        rw [hk0] at hk
        simp only [List.getElem?_cons_zero, Option.some.injEq] at hk
        subst hk
        have : k = acc.length := by omega
        subst this
        have he := hE 0 e rfl
        simp only [Nat.add_zero] at he
        exact maskOf_reach hacc e 0 (fun x hx => he ▸ hx) (fun i hi => by simp at hi) i hi

theorem Reach.closed {E : Nat → List Nat} {S : Nat → Prop} (hS : ∀ j, S j → ∀ i ∈ E j, S i) {j i : Nat} (h : Reach E j i) : S j → S i := by
  induction h with
  | one h => exact fun hj => hS _ hj _ h
  | more h _ ih => exact fun hj => ih (hS _ hj _ h)

def pairOk (ops : Array Oper) (m : Nat) (oj : Oper) (bj : Bits) : Nat → List Oper → List Bits → Bool
  | i, o :: os, b :: bs => !bj.mind b && ((m.testBit i || (o.apart ops oj && !b.clash bj)) && pairOk ops m oj bj (i + 1) os bs)
  | _, _, _ => true

def pairsOk (ops : Array Oper) (os0 : List Oper) (bs0 : List Bits) : Nat → List Oper → List Bits → List Nat → Bool
  | j, o :: os, b :: bs, m :: ms => pairOk ops m o b 0 (os0.take j) (bs0.take j) && (edgesOf o).all (fun e => decide (e < j)) && pairsOk ops os0 bs0 (j + 1) os bs ms
  | _, _, _, _ => true

def drawOk (ops : Array Oper) (bs : List Bits) : Bool :=
  bs.length == ops.toList.length && (befL (ops.toList.map edgesOf) []).length == ops.toList.length && pairsOk ops ops.toList bs 0 ops.toList bs (befL (ops.toList.map edgesOf) [])

theorem pairOk_spec {ops : Array Oper} {m : Nat} {oj : Oper} {bj : Bits} : ∀ (os : List Oper) (bs : List Bits) (k : Nat), pairOk ops m oj bj k os bs = true → ∀ (i : Nat) (o : Oper) (b : Bits), os[i]? = some o → bs[i]? = some b →
    bj.mind b = false ∧ (m.testBit (k + i) = true ∨ (o.apart ops oj = true ∧ b.clash bj = false))
  | o :: os, b :: bs, k, h, 0, o', b', ho, hb => by
    simp only [List.getElem?_cons_zero, Option.some.injEq] at ho hb
    subst ho; subst hb
    simp only [pairOk, Bool.and_eq_true, Bool.or_eq_true, Bool.not_eq_true'] at h
    exact ⟨h.1, h.2.1⟩
  | o :: os, b :: bs, k, h, i + 1, o', b', ho, hb => by
    simp only [pairOk, Bool.and_eq_true] at h
    have := pairOk_spec os bs (k + 1) h.2.2 i o' b' (by simpa using ho) (by simpa using hb)
    rwa [show k + 1 + i = k + (i + 1) by omega] at this
  | [], _, _, _, i, _, _, ho, _ => by simp at ho
  | _ :: _, [], _, _, i, _, _, _, hb => by simp at hb

theorem pairsOk_spec {ops : Array Oper} {os0 : List Oper} {bs0 : List Bits} : ∀ (os : List Oper) (bs : List Bits) (ms : List Nat) (k : Nat), pairsOk ops os0 bs0 k os bs ms = true → ∀ (j : Nat) (o : Oper) (b : Bits) (m : Nat), os[j]? = some o → bs[j]? = some b → ms[j]? = some m →
    pairOk ops m o b 0 (os0.take (k + j)) (bs0.take (k + j)) = true ∧ ∀ e ∈ edgesOf o, e < k + j
  | o :: os, b :: bs, m :: ms, k, h, 0, o', b', m', ho, hb, hm => by
    simp only [List.getElem?_cons_zero, Option.some.injEq] at ho hb hm
    subst ho; subst hb; subst hm
    simp only [pairsOk, Bool.and_eq_true, List.all_eq_true, decide_eq_true_eq] at h
    exact ⟨h.1.1, h.1.2⟩
  | o :: os, b :: bs, m :: ms, k, h, j + 1, o', b', m', ho, hb, hm => by
    simp only [pairsOk, Bool.and_eq_true] at h
    have := pairsOk_spec os bs ms (k + 1) h.2 j o' b' m' (by simpa using ho) (by simpa using hb) (by simpa using hm)
    rwa [show k + 1 + j = k + (j + 1) by omega] at this
  | [], _, _, _, _, j, _, _, _, ho, _, _ => by simp at ho
  | _ :: _, [], _, _, _, j, _, _, _, _, hb, _ => by simp at hb
  | _ :: _, _ :: _, [], _, _, j, _, _, _, _, _, hm => by simp at hm

/-- What the check says: edges lead back; two operations are ordered, or apart. -/
theorem drawOk_spec {ops : Array Oper} {bs : List Bits} (h : drawOk ops bs = true) : (∀ j o, ops[j]? = some o → ∀ e ∈ edgesOf o, e < j) ∧
    ∀ i j oi oj bi bj, i < j → ops[i]? = some oi → ops[j]? = some oj → bs[i]? = some bi → bs[j]? = some bj → bj.mind bi = false ∧ (Reach (fun j => (ops[j]?).elim [] edgesOf) j i ∨ (oi.apart ops oj = true ∧ bi.clash bj = false)) := by
  simp only [drawOk, Bool.and_eq_true, beq_iff_eq] at h
  obtain ⟨⟨h1, h2⟩, h3⟩ := h
  have hm : ∀ j, j < ops.size → ∃ m, (befL (ops.toList.map edgesOf) [])[j]? = some m := fun j hj => by
    have : j < (befL (ops.toList.map edgesOf) []).length := by rw [h2]; simpa using hj
    exact ⟨_, List.getElem?_eq_getElem this⟩
  have hlt : ∀ {j o}, ops[j]? = some o → j < ops.size := fun hj => (Array.getElem?_eq_some_iff.1 hj).1
  have hb : ∀ {j o}, ops[j]? = some o → ∃ b, bs[j]? = some b := fun {j o} hj => by
    have : j < bs.length := by rw [h1]; simpa using hlt hj
    exact ⟨_, List.getElem?_eq_getElem this⟩
  constructor
  · intro j o ho e he
    obtain ⟨m, hm⟩ := hm j (hlt ho)
    obtain ⟨b, hb⟩ := hb ho
    have := (pairsOk_spec ops.toList bs _ 0 h3 j o b m (by simpa using ho) hb hm).2 e he
    omega
  · intro i j oi oj bi bj hij ho hj hbi hbj
    obtain ⟨m, hm⟩ := hm j (hlt hj)
    have hp := (pairsOk_spec ops.toList bs _ 0 h3 j oj bj m (by simpa using hj) hbj hm).1
    simp only [Nat.zero_add] at hp
    have := pairOk_spec _ _ 0 hp i oi bi (by rw [List.getElem?_take, if_pos hij]; simpa using ho) (by rw [List.getElem?_take, if_pos hij]; exact hbi)
    simp only [Nat.zero_add] at this
    obtain ⟨h0, this⟩ := this
    refine ⟨h0, ?_⟩
    rcases this with h4 | h4
    · refine .inl (befL_reach (E := fun j => (ops[j]?).elim [] edgesOf) (ops.toList.map edgesOf) [] (fun k e hk => ?_) (fun k m hk => by simp at hk) j m hm i h4)
      simp only [List.getElem?_map] at hk
      cases hok : ops[k]? with
      | none => simp [hok] at hk
      | some o => simp [hok] at hk; simp [hok, hk]
    · exact .inr h4

/-! ### Every order -/

def unl (L : Array Bool) : Nat → Nat
  | 0 => 0
  | k + 1 => unl L k + if L.getD k true then 0 else 1

theorem unl_set {L : Array Bool} {i : Nat} (hi : i < L.size) (hL : L.getD i true = false) : ∀ k, i < k → unl (L.setIfInBounds i true) k + 1 = unl L k
  | 0, h => by omega
  | k + 1, h => by
    simp only [unl]
    by_cases e : i = k
    · subst e
      have h1 : (L.setIfInBounds i true).getD i true = true := by simp [Array.getD_eq_getD_getElem?]
      rw [h1, hL]
      have : ∀ m, m ≤ i → unl (L.setIfInBounds i true) m = unl L m := by
        intro m
        induction m with
        | zero => intro _; rfl
        | succ m ih =>
          intro hm
          simp only [unl]
          rw [ih (by omega)]
          have : (L.setIfInBounds i true).getD m true = L.getD m true := by
            simp only [Array.getD_eq_getD_getElem?]
            rw [Array.getElem?_setIfInBounds_ne (by omega)]
          rw [this]
      rw [this i (Nat.le_refl _)]
      simp
    · have ih := unl_set hi hL k (by omega)
      have : (L.setIfInBounds i true).getD k true = L.getD k true := by
        simp only [Array.getD_eq_getD_getElem?]
        rw [Array.getElem?_setIfInBounds_ne e]
      rw [this]
      omega

theorem unl_zero {L : Array Bool} : ∀ k, unl L k = 0 → ∀ i, i < k → L.getD i true = true
  | k + 1, h, i, hi => by
    simp only [unl] at h
    by_cases e : i = k
    · subst e
      cases hL : L.getD i true with
      | true => rfl
      | false => rw [hL] at h; simp at h
    · exact unl_zero k (by omega) i (by omega)

theorem mem_ready' {ops : Array Oper} {L : Array Bool} {i : Nat} : i ∈ Region.ready .any ops L ↔ i < ops.size ∧ L.getD i true = false ∧ ∃ o, ops[i]? = some o ∧ ∀ e ∈ edgesOf o, L.getD e false = true := by
  unfold Region.ready
  simp only [List.mem_filter, List.mem_range, Bool.and_eq_true, Bool.not_eq_true']
  constructor
  · rintro ⟨h1, h2, h3⟩
    refine ⟨h1, h2, ?_⟩
    cases ho : ops[i]? with
    | none => rw [ho] at h3; simp at h3
    | some o =>
      rw [ho] at h3
      refine ⟨o, rfl, fun e he => ?_⟩
      simp only [Option.map_some, Option.getD_some, ← Array.all_toList, List.all_eq_true, Bool.or_eq_true, Bool.not_eq_true'] at h3
      simp only [edgesOf, List.mem_map, List.mem_filter] at he
      obtain ⟨x, ⟨hx, hb⟩, rfl⟩ := he
      exact (h3 x hx).resolve_left (by rw [hb]; simp)
  · rintro ⟨h1, h2, o, ho, h3⟩
    refine ⟨h1, h2, ?_⟩
    rw [ho]
    simp only [Option.map_some, Option.getD_some, ← Array.all_toList, List.all_eq_true, Bool.or_eq_true, Bool.not_eq_true']
    intro x hx
    cases hb : Region.binds .any x with
    | false => exact .inl rfl
    | true => exact .inr (h3 x.on (by simp only [edgesOf, List.mem_map, List.mem_filter]; exact ⟨x, ⟨hx, hb⟩, rfl⟩))

theorem SS.ext' {s s' : SS} (h1 : s.n = s'.n) (h2 : ∀ t, s.get t = s'.get t) (h3 : ∀ k, s.loc k = s'.loc k) (h4 : s.σ.obj = s'.σ.obj ∧ s.σ.nobj = s'.σ.nobj) (h5 : s.σ.own = s'.σ.own ∧ s.σ.nown = s'.σ.nown) : s = s' := by
  obtain ⟨n, g, l, no, ob, nw, ow⟩ := s
  obtain ⟨n', g', l', no', ob', nw', ow'⟩ := s'
  simp only at h1 h2 h3 h4 h5
  subst h1
  have h3 : l = l' := funext h3
  subst h3
  obtain ⟨rfl, rfl⟩ := h4
  obtain ⟨rfl, rfl⟩ := h5
  have : g = g' := funext h2
  subst this
  rfl

theorem clash_loc {a b : Bits} {k : Nat} (hw : a.wL.elem k = true) (h : b.rL.elem k = true ∨ b.wL.elem k = true) : a.clash b = true := by
  have : (a.wL.any fun k => b.rL.elem k || b.wL.elem k) = true := by
    rw [List.any_eq_true]
    refine ⟨k, by simpa using hw, ?_⟩
    rcases h with h | h <;> simp only [h, Bool.or_true, Bool.true_or]
  simp only [Bits.clash, this, Bool.true_or]
/-- A RUN IN THE TEXT's ORDER SERVES EVERY ORDER. -/
theorem any_sound {P : Program} {ops : Array Oper} {Q : Exit → Act → World → Prop} {recs : List Rec} {s0 : SS} (hF : FramedAll P ops Q 0 ops.toList recs s0) (hok : drawOk ops (recs.map (·.b)) = true) {ds : List Nat} (hsay : ∀ r ∈ recs, r.Says ds) (hds : ∀ r ∈ recs, ∀ k, r.b.nr.elem k = true → ds.elem k = true) (hs0 : ∀ k, ds.elem k = true → s0.NoRefX k)
    (γ0 : Gh) (w0 : World) (st0 : St) (hQ : ∀ γ' w' a' st', Conc γ' w' a' st' → EvoS γ0 w0 st0 γ' w' st' → st'.ss = foldR (fun _ => true) recs 0 s0 → Q .normal a' w') :
    ∀ (fuel : Nat) (L : Array Bool) (γ : Gh) (w : World) (a : Act) (st : St), L.size = ops.size → unl L ops.size ≤ fuel → (∀ j o, ops[j]? = some o → L.getD j false = true → ∀ e ∈ edgesOf o, L.getD e false = true) →
      Conc γ w a st → EvoS γ0 w0 st0 γ w st → st.ss = foldR (fun i => L.getD i false) recs 0 s0 → wpAny P .any ops Q fuel L a w := by
  obtain ⟨hback, hpair⟩ := drawOk_spec hok
  have hlen := framedAll_length _ _ _ _ hF
  have hgd : ∀ (L : Array Bool) (i : Nat), L.size = ops.size → i < ops.size → L.getD i true = L.getD i false := fun L i hL hi => by
    have : i < L.size := by omega
    simp [Array.getD_eq_getD_getElem?, this]
  -- nothing is ready only if all has been carried out
  have hall : ∀ (L : Array Bool), L.size = ops.size → Region.ready .any ops L = [] → ∀ i, i < ops.size → L.getD i true = true := by
    intro L hL hr i
    induction i using Nat.strongRecOn with
    | _ i ih =>
      intro hi
      cases hLi : L.getD i true with
      | true => rfl
      | false =>
        have : i ∈ Region.ready .any ops L := mem_ready'.2 ⟨hi, hLi, ops[i], by simp [hi], fun e he => by
          have hlt := hback i ops[i] (by simp [hi]) e he
          rw [← hgd L e hL (by omega)]
          exact ih e hlt (by omega)⟩
        rw [hr] at this
        cases this
  have hend : ∀ (L : Array Bool) (γ : Gh) (w : World) (a : Act) (st : St), L.size = ops.size → (∀ i, i < ops.size → L.getD i true = true) → Conc γ w a st → EvoS γ0 w0 st0 γ w st → st.ss = foldR (fun i => L.getD i false) recs 0 s0 → Q .normal a w := by
    intro L γ w a st hL hA hC hE hs
    refine hQ γ w a st hC hE ?_
    rw [hs]
    have hLj : ∀ j r, recs[j]? = some r → (L.getD (0 + j) false) = true := fun j r hj => by
      have : j < ops.size := by
        have : j < recs.length := by
          rcases Nat.lt_or_ge j recs.length with h | h
          · exact h
          · rw [List.getElem?_eq_none h] at hj; cases hj
        rw [← hlen] at this
        simpa using this
      rw [Nat.zero_add, ← hgd L j hL this]
      exact hA j this
    exact SS.ext' (by rw [foldR_n, foldR_n]) (fun t => foldR_tmp t recs 0 s0 s0 rfl (fun j r hj _ => hLj j r hj)) (fun k => foldR_loc k recs 0 s0 s0 rfl (fun j r hj _ => hLj j r hj)) (foldR_obj recs 0 s0 s0 ⟨rfl, rfl⟩ (fun j r hj _ => hLj j r hj))
      (foldR_own recs 0 s0 s0 ⟨rfl, rfl⟩ (fun j r hj _ => hLj j r hj))
  intro fuel
  induction fuel with
  | zero =>
    intro L γ w a st hL hu hcl hC hE hs
    have hA : ∀ i, i < ops.size → L.getD i true = true := unl_zero _ (by omega)
    refine ⟨?_, hend L γ w a st hL hA hC hE hs⟩
    cases hr : Region.ready .any ops L with
    | nil => rfl
    | cons x xs =>
      have : x ∈ Region.ready .any ops L := by rw [hr]; simp
      obtain ⟨h1, h2, _⟩ := mem_ready'.1 this
      rw [hA x h1] at h2
      cases h2
  | succ fuel ih =>
    intro L γ w a st hL hu hcl hC hE hs
    refine ⟨fun hr => hend L γ w a st hL (hall L hL hr) hC hE hs, fun i hi => ?_⟩
    obtain ⟨hi1, hi2, o, ho, hed⟩ := mem_ready'.1 hi
    obtain ⟨r, hr, hrd, hfr⟩ := framedAll_at _ _ _ _ hF i o (by simpa using ho)
    simp only [Nat.zero_add] at hfr
    -- what is ordered ahead of an operation that has been carried out, has been carried out
    have hclR : ∀ j k, Reach (fun j => (ops[j]?).elim [] edgesOf) j k → L.getD j false = true → L.getD k false = true := fun j k h => h.closed (S := fun x => L.getD x false = true) (fun j hj k hk => by
      cases hoj : ops[j]? with
      | none => simp [hoj] at hk
      | some oj => simp [hoj] at hk; exact hcl j oj hoj hj k hk)
    have hLi : L.getD i false = false := by rw [← hgd L i hL hi1]; exact hi2
    -- .. and what is ordered ahead of this one too
    have hpre : ∀ k, Reach (fun j => (ops[j]?).elim [] edgesOf) i k → L.getD k false = true := fun k h => by
      cases h with
      | one h => simp [ho] at h; exact hed k h
      | more h h2 => simp [ho] at h; exact hclR _ _ h2 (hed _ h)
    -- whoever clashes with this one has been carried out just if it stands ahead
    have key : ∀ j rj oj, recs[j]? = some rj → ops[j]? = some oj → j ≠ i → (oj.apart ops o = false ∨ o.apart ops oj = false ∨ rj.b.clash r.b = true ∨ r.b.clash rj.b = true) → L.getD j false = decide (j < i) := by
      intro j rj oj hj hoj hne hc
      have hbj : (recs.map (·.b))[j]? = some rj.b := by simp [hj]
      have hbi : (recs.map (·.b))[i]? = some r.b := by simp [hr]
      have hsym1 : ∀ a b : Bits, a.clash b = b.clash a := fun a b => by
        cases a; cases b
        simp only [Bits.clash]
        simp only [Bool.and_or_distrib_left]
        ac_rfl
      have hsym2 : ∀ x y : Oper, x.apart ops y = true → y.apart ops x = true := fun x y h => by
        obtain ⟨h1, h2, h3⟩ := Oper.apart_spec h
        unfold Oper.apart
        cases hx : x.dst with
        | none =>
          cases hy : y.dst with
          | none => rfl
          | some d => have := h3 d hy; simp [hx, this]
        | some d1 =>
          have a1 := h1 d1 hx
          cases hy : y.dst with
          | none => simp [a1]
          | some d =>
            have a2 := h3 d hy
            have a3 := h2 d1 hx
            rw [hy] at a3
            have a4 : d1 ≠ d := fun e => a3 (by rw [e])
            simp [a1, a2, hx, a4]
      rcases Nat.lt_or_gt_of_ne hne with hlt | hlt
      · have : decide (j < i) = true := by simpa using hlt
        rw [this]
        rcases (hpair j i oj o rj.b r.b hlt hoj ho hbj hbi).2 with h | ⟨h1, h2⟩
        · exact hpre j h
        · exfalso
          rcases hc with hc | hc | hc | hc
          · rw [h1] at hc; cases hc
          · rw [hsym2 _ _ h1] at hc; cases hc
          · rw [h2] at hc; cases hc
          · rw [hsym1, h2] at hc; cases hc
      · have : decide (j < i) = false := by simp; omega
        rw [this]
        rcases (hpair i j o oj r.b rj.b hlt ho hoj hbi hbj).2 with h | ⟨h1, h2⟩
        · cases hLj : L.getD j false with
          | false => rfl
          | true =>
            have := hclR j i h hLj
            rw [hLi] at this
            cases this
        · exfalso
          rcases hc with hc | hc | hc | hc
          · rw [hsym2 _ _ h1] at hc; cases hc
          · rw [h1] at hc; cases hc
          · rw [hsym1, h2] at hc; cases hc
          · rw [h2] at hc; cases hc
    have hops : ∀ (j : Nat) (rj : Rec), recs[j]? = some rj → ∃ oj : Oper, ops[j]? = some oj ∧ rj.dst = oj.dst := fun j rj hj => by
      have hlt : j < ops.size := by
        have : j < recs.length := by
          rcases Nat.lt_or_ge j recs.length with h | h
          · exact h
          · rw [List.getElem?_eq_none h] at hj; cases hj
        rw [← hlen] at this
        simpa using this
      obtain ⟨r', h1, h2, _⟩ := framedAll_at _ _ _ _ hF j ops[j] (by simp [hlt])
      rw [hj] at h1; cases h1
      exact ⟨ops[j], by simp [hlt], h2⟩
    have hself : L.getD i false = decide (i < i) := by rw [hLi]; simp
    have same : ∀ (c : Rec → Prop), (∀ (j : Nat) (rj : Rec) (oj : Oper), recs[j]? = some rj → ops[j]? = some oj → rj.dst = oj.dst → j ≠ i → c rj → oj.apart ops o = false ∨ o.apart ops oj = false ∨ rj.b.clash r.b = true ∨ r.b.clash rj.b = true) → ∀ (j : Nat) (rj : Rec), recs[j]? = some rj → c rj → L.getD (0 + j) false = decide (0 + j < i) := by
      intro c hc j rj hj hcj
      rw [Nat.zero_add]
      by_cases e : j = i
      · rw [e]; exact hself
      · obtain ⟨oj, hoj, hd⟩ := hops j rj hj
        exact key j rj oj hj hoj e (hc j rj oj hj hoj hd e hcj)
    have hag : Agree ops o r.b st.ss (foldR (fun j => decide (j < i)) recs 0 s0) := by
      rw [hs]
      refine ⟨by rw [foldR_n, foldR_n], fun t ht => foldR_tmp t recs 0 s0 s0 rfl (same (fun rj => rj.dst = some t) ?_), fun k hb => foldR_loc k recs 0 s0 s0 rfl (same (fun rj => rj.b.wL.elem k = true) ?_), fun k hk => ?_, fun hb => foldR_obj recs 0 s0 s0 ⟨rfl, rfl⟩ (same (fun rj => rj.b.wO = true) ?_), fun hb => foldR_own recs 0 s0 s0 ⟨rfl, rfl⟩ (same (fun rj => rj.b.wW = true) ?_)⟩
      · intro j rj oj hj hoj hd hne hdt
        refine .inl ?_
        have : oj.dst = some t := by rw [← hd]; exact hdt
        have hcont : (o.looksAt ops).contains t = true := by simpa using ht
        simp only [Oper.apart, this, hcont]
        rfl
      · intro j rj oj hj hoj hd hne hw
        exact .inr (.inr (.inl (clash_loc hw (.inl hb))))
      · have hrm : r ∈ recs := List.mem_of_getElem? hr
        refine foldR_noRefX (hds r hrm k hk) recs 0 s0 (hs0 k (hds r hrm k hk)) hsay fun j rj hj hl => ?_
        rw [Nat.zero_add] at hl
        have hne : j ≠ i := fun e => by rw [e, hLi] at hl; cases hl
        obtain ⟨oj, hoj, hd⟩ := hops j rj hj
        have hbj : (recs.map (·.b))[j]? = some rj.b := by simp [hj]
        have hbi : (recs.map (·.b))[i]? = some r.b := by simp [hr]
        have hmind : r.b.mind rj.b = false := by
          rcases Nat.lt_or_gt_of_ne hne with hlt | hlt
          · exact (hpair j i oj o rj.b r.b hlt hoj ho hbj hbi).1
          · rcases (hpair i j o oj r.b rj.b hlt ho hoj hbi hbj).2 with h | ⟨_, h2⟩
            · have := hclR j i h hl
              rw [hLi] at this
              cases this
            · simp only [Bits.clash, Bool.or_eq_false_iff] at h2
              exact h2.1.1.1.1.1.2
        cases hm : rj.b.mL.elem k with
        | false => rfl
        | true =>
          have : r.b.mind rj.b = true := by
            unfold Bits.mind
            rw [List.any_eq_true]
            exact ⟨k, by simpa using hk, hm⟩
          rw [this] at hmind; cases hmind
      · intro j rj oj hj hoj hd hne hw
        exact .inr (.inr (.inl (by simp [Bits.clash, hw, hb])))
      · intro j rj oj hj hoj hd hne hw
        exact .inr (.inr (.inl (by simp [Bits.clash, hw, hb])))
    refine hfr γ w a st hC hag _ (fun γ' w' a' st' hC' hE' hs' => ?_)
    have hLset : ∀ j, (L.setIfInBounds i true).getD j false = if j = i then true else L.getD j false := fun j => by
      by_cases e : j = i
      · subst e
        have : j < L.size := by omega
        simp [Array.getD_eq_getD_getElem?, this]
      · simp only [Array.getD_eq_getD_getElem?, if_neg e]
        rw [Array.getElem?_setIfInBounds_ne (fun e' => e e'.symm)]
    refine ih _ γ' w' a' st' (by simpa using hL) ?_ ?_ hC' (hE.trans hE') ?_
    · have := unl_set (L := L) (i := i) (by omega) hi2 ops.size hi1
      omega
    · intro j oj hoj hj e he
      rw [hLset] at hj ⊢
      by_cases ej : j = i
      · subst ej
        rw [ho] at hoj; cases hoj
        have := hed e he
        split
        · rfl
        · exact this
      · rw [if_neg ej] at hj
        have := hcl j oj hoj hj e he
        split
        · rfl
        · exact this
    · rw [hs', hs]
      have hsucc := foldR_succ recs 0 i s0 r hr
      simp only [Nat.zero_add] at hsucc
      -- of a component that the record leaves alone
      have off : ∀ (c : Rec → Prop), ¬ c r → ∀ j rj, recs[j]? = some rj → c rj → L.getD (0 + j) false = (L.setIfInBounds i true).getD (0 + j) false := fun c hc j rj hj hcj => by
        rw [Nat.zero_add, hLset]
        have : j ≠ i := fun e => by rw [e, hr] at hj; cases hj; exact hc hcj
        rw [if_neg this]
      -- of one that it turns
      have on : ∀ (c : Rec → Prop), (∀ (j : Nat) (rj : Rec) (oj : Oper), recs[j]? = some rj → ops[j]? = some oj → rj.dst = oj.dst → j ≠ i → c rj → oj.apart ops o = false ∨ o.apart ops oj = false ∨ rj.b.clash r.b = true ∨ r.b.clash rj.b = true) →
          ∀ (j : Nat) (rj : Rec), recs[j]? = some rj → c rj → decide (0 + j < i + 1) = (L.setIfInBounds i true).getD (0 + j) false := fun c hc j rj hj hcj => by
        rw [Nat.zero_add, hLset]
        by_cases e : j = i
        · subst e; simp
        · rw [if_neg e]
          obtain ⟨oj, hoj, hd⟩ := hops j rj hj
          rw [key j rj oj hj hoj e (hc j rj oj hj hoj hd e hcj)]
          have : j < i + 1 ↔ j < i := by omega
          simp [this]
      refine SS.ext' ?_ (fun t => ?_) (fun q => ?_) ?_ ?_
      · rw [apply_n, foldR_n, foldR_n]
      · by_cases hd : r.dst = some t
        · have h1 := foldR_tmp (L := fun j => decide (j < i + 1)) (L' := fun j => (L.setIfInBounds i true).getD j false) t recs 0 s0 s0 rfl (on (fun rj => rj.dst = some t) (fun j rj oj hj hoj hdj hne hdt => by
            refine .inl ?_
            have e1 : oj.dst = some t := by rw [← hdj]; exact hdt
            have e2 : o.dst = some t := by rw [← hrd]; exact hd
            simp only [Oper.apart, e1, e2]
            simp))
          rw [← h1, hsucc]
          simp [Rec.apply, hd]
        · have h1 := foldR_tmp (L := fun j => L.getD j false) (L' := fun j => (L.setIfInBounds i true).getD j false) t recs 0 s0 s0 rfl (off (fun rj => rj.dst = some t) hd)
          rw [← h1]
          cases hdd : r.dst with
          | none => simp [Rec.apply, hdd]
          | some d =>
            have : d ≠ t := fun e => hd (by rw [hdd, e])
            simp [Rec.apply, hdd, this]
      · by_cases hw : r.b.wL.elem q = true
        · have h1 := foldR_loc (L := fun j => decide (j < i + 1)) (L' := fun j => (L.setIfInBounds i true).getD j false) q recs 0 s0 s0 rfl (on (fun rj => rj.b.wL.elem q = true) (fun j rj oj hj hoj hdj hne hwj => .inr (.inr (.inl (clash_loc hwj (.inr hw))))))
          rw [← h1, hsucc]
          simp only [Rec.apply]
          rw [if_pos hw, if_pos hw]
        · have h1 := foldR_loc (L := fun j => L.getD j false) (L' := fun j => (L.setIfInBounds i true).getD j false) q recs 0 s0 s0 rfl (off (fun rj => rj.b.wL.elem q = true) hw)
          rw [← h1]
          simp only [Rec.apply]
          rw [if_neg hw]
      · by_cases hw : r.b.wO = true
        · have h1 := foldR_obj (L := fun j => decide (j < i + 1)) (L' := fun j => (L.setIfInBounds i true).getD j false) recs 0 s0 s0 ⟨rfl, rfl⟩ (on (fun rj => rj.b.wO = true) (fun j rj oj hj hoj hdj hne hwj => .inr (.inr (.inl (by simp [Bits.clash, hw, hwj])))))
          rw [← h1.1, ← h1.2, hsucc]
          simp [Rec.apply, hw]
        · have h1 := foldR_obj (L := fun j => L.getD j false) (L' := fun j => (L.setIfInBounds i true).getD j false) recs 0 s0 s0 ⟨rfl, rfl⟩ (off (fun rj => rj.b.wO = true) hw)
          rw [← h1.1, ← h1.2]
          simp [Rec.apply, hw]
      · by_cases hw : r.b.wW = true
        · have h1 := foldR_own (L := fun j => decide (j < i + 1)) (L' := fun j => (L.setIfInBounds i true).getD j false) recs 0 s0 s0 ⟨rfl, rfl⟩ (on (fun rj => rj.b.wW = true) (fun j rj oj hj hoj hdj hne hwj => .inr (.inr (.inl (by simp [Bits.clash, hw, hwj])))))
          rw [← h1.1, ← h1.2, hsucc]
          simp [Rec.apply, hw]
        · have h1 := foldR_own (L := fun j => L.getD j false) (L' := fun j => (L.setIfInBounds i true).getD j false) recs 0 s0 s0 ⟨rfl, rfl⟩ (off (fun rj => rj.b.wW = true) hw)
          rw [← h1.1, ← h1.2]
          simp [Rec.apply, hw]

end
end Go.AL
