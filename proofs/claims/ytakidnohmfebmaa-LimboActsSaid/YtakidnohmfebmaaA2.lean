/-
  The abstract layer, part 2: objects, stores, states; the invariant and its upkeep under allocations, stores, draws.
-/
import Derived.Test.YtakidnohmfebmaaA1
import Derived.Test.YtakidnohmfebmaaA0
set_option linter.unusedSimpArgs false
set_option linter.unusedVariables false
namespace Go.AL

inductive AObj where
  | cells (cs : List AVal)
  | map (es : List (AVal × AVal))
  | siter (s : List UInt8) (pos : Nat)
  | buf (es : List AVal) (s g : Nat)

structure Sto where
  nobj : Nat
  obj : Nat → Option AObj
  nown : Nat
  own : Nat → Option Nat

def lookup {β : Type} : List (Nat × β) → Nat → Option β
  | [], _ => none
  | x :: r, j => if x.1 = j then some x.2 else lookup r j

def insertAt {β : Type} (j : Nat) (v : β) : List (Nat × β) → List (Nat × β)
  | [] => [(j, v)]
  | x :: r => if x.1 = j then (j, v) :: r else x :: insertAt j v r

theorem lookup_insertAt {β : Type} (j : Nat) (v : β) : ∀ (l : List (Nat × β)) (i : Nat), lookup (insertAt j v l) i = if j = i then some v else lookup l i
  | [], i => by simp [insertAt, lookup]
  | x :: r, i => by
    unfold insertAt
    split
    · rename_i h
      subst h
      simp only [lookup]
      split <;> rfl
    · rename_i h
      simp only [lookup, lookup_insertAt j v r i]
      split
      · rename_i h2
        subst h2
        rw [if_neg (fun e => h e.symm)]
      · rfl

structure St where
  n : Nat
  fr : List (Nat × AVal)
  tm : List (Nat × AVal)
  loc : List (Nat × AObj)
  σ : Sto

def St.get (st : St) (t : Nat) : AVal :=
  match lookup st.fr t with
  | some v => v
  | none => (lookup st.tm t).getD .undef

def St.objAt (st : St) : Oid → Option AObj
  | .loc k => lookup st.loc k
  | .out n => st.σ.obj n

def St.put (keep : List Nat) (st : St) (d : Nat) (v : AVal) : St :=
  if keep.elem d then { st with fr := insertAt d v st.fr }
  else match lookup st.fr d with
    | some _ => { st with fr := insertAt d v st.fr }
    | none => { st with tm := (d, v) :: st.tm }

theorem St.get_put (keep : List Nat) (st : St) (d : Nat) (v : AVal) (t : Nat) : (st.put keep d v).get t = if d = t then v else st.get t := by
  unfold St.put
  by_cases h0 : keep.elem d = true
  · rw [if_pos h0]
    simp only [St.get, lookup_insertAt]
    by_cases e : d = t
    · simp [e]
    · simp [e]
  · rw [if_neg h0]
    cases h : lookup st.fr d with
    | some u =>
      simp only [St.get, lookup_insertAt]
      by_cases e : d = t
      · simp [e]
      · simp [e]
    | none =>
      simp only [St.get, lookup]
      by_cases e : d = t
      · subst e; simp [h]
      · simp [e]

@[simp] theorem St.put_n (keep : List Nat) (st : St) (d : Nat) (v : AVal) : (st.put keep d v).n = st.n := by unfold St.put; split <;> (try rfl); split <;> rfl
@[simp] theorem St.put_loc (keep : List Nat) (st : St) (d : Nat) (v : AVal) : (st.put keep d v).loc = st.loc := by unfold St.put; split <;> (try rfl); split <;> rfl
@[simp] theorem St.put_σ (keep : List Nat) (st : St) (d : Nat) (v : AVal) : (st.put keep d v).σ = st.σ := by unfold St.put; split <;> (try rfl); split <;> rfl
theorem St.put_objAt (keep : List Nat) (st : St) (d : Nat) (v : AVal) : (st.put keep d v).objAt = st.objAt := by funext i; cases i <;> simp [St.objAt]

def RepE (γ : Gh) (w : World) (l : Bool) (es : List (AVal × AVal)) (ents : List MapEntry) : Prop :=
  es.length = ents.length ∧ ∀ (i : Nat) (x : AVal × AVal) (e : MapEntry), es[i]? = some x → ents[i]? = some e → Rep γ w l x.1 e.key ∧ Rep γ w l x.2 e.val

theorem RepE.mono {γ γ' : Gh} {w w' : World} {l : Bool} (x : Ext l γ w γ' w') {es : List (AVal × AVal)} {ents : List MapEntry} (h : RepE γ w l es ents) : RepE γ' w' l es ents :=
  ⟨h.1, fun i a e h1 h2 => ⟨Rep.mono x (h.2 i a e h1 h2).1, Rep.mono x (h.2 i a e h1 h2).2⟩⟩

/-- What block b is for the object. -/
def objOk (γ : Gh) (w : World) (l : Bool) (b : Nat) : AObj → Prop
  | .cells cs => ∃ vs T, w.heap[b]? = some (.cells vs.toArray T (0, 0)) ∧ RepL γ w l cs vs ∧ (∀ v ∈ vs, v.oneCell' = true) ∧ ∀ o, ¬ γ.imm b o
  | .map es => ∃ ents clock, w.heap[b]? = some (.map ents clock) ∧ RepE γ w l es ents.toList ∧ (∀ e ∈ ents.toList, e.born < clock) ∧ (ents.toList.map (·.born)).Nodup ∧ ∀ o, ¬ γ.imm b o
  | .siter s pos => w.heap[b]? = some (.stringIter ⟨s.toArray⟩ pos) ∧ ∀ o, ¬ γ.imm b o
  | .buf es s g => ∃ vs junk T cap, w.heap[b]? = some (.cells (vs ++ junk).toArray T (0, 0)) ∧ RepL γ w l (flat es) vs ∧ (∀ e ∈ es, e.cells.length = s) ∧ (∀ v ∈ vs ++ junk, v.oneCell' = true) ∧ γ.obj (.out g) = some cap ∧ (vs ++ junk).length = cap * s ∧ 0 < s ∧ cap ≤ maxLen ∧ ∀ o, ¬ γ.imm b o

/-- A mutable row without room: it need not have a block. -/
def hole (γ : Gh) (i : Oid) (x : AObj) : Prop := ∃ k s, i = .out k ∧ x = .buf [] s (k + 1) ∧ γ.obj (.out k) = none ∧ γ.obj (.out (k + 1)) = some 0

def Own.blk : Own → Option Nat
  | .row b _ _ _ => some b
  | _ => none

def ownOk (γ : Gh) (w : World) : Own → Nat → Prop
  | .full n', n => n' = n
  | .row b cap n' s, n => n' = n ∧ 0 < s ∧ n ≤ cap ∧ cap ≤ maxLen ∧ (∃ cur T, w.heap[b]? = some (.cells cur T (0, 0)) ∧ cur.size = cap * s) ∧ ∀ o, n * s ≤ o → ¬ γ.imm b o
  | _, _ => False

/-- What is known of cells when a law begins. -/
def Known (w : World) : Prop := (∀ x ∈ tabs, w.cell? ⟨x.1, x.2.1, none⟩ = some x.2.2) ∧ (∀ x ∈ tabsP, ∃ v, w.cell? ⟨x.1, x.2.1, none⟩ = some v ∧ x.2.2 v) ∧
  ∀ x ∈ tabsB, x.1 < w.heap.size ∧ ∀ o, x.2 ≤ o → w.cell? ⟨x.1, o, none⟩ = none
/-- The cells that are known: they are where they were, and never change. -/
def Amb (γ : Gh) (w : World) : Prop := Known w ∧ (∀ x ∈ tabs, γ.imm x.1 x.2.1) ∧ (∀ x ∈ tabsP, γ.imm x.1 x.2.1) ∧ ∀ x ∈ tabsB, ∀ o, x.2 ≤ o → γ.imm x.1 o
theorem Amb.mono {l : Bool} {γ γ' : Gh} {w w' : World} (x : Ext l γ w γ' w') (h : Amb γ w) (hs : w.heap.size ≤ w'.heap.size) : Amb γ' w' :=
  ⟨⟨fun y hy => (x.imm _ _ (h.2.1 y hy)).2.trans (h.1.1 y hy), fun y hy => by
    obtain ⟨v, h1, h2⟩ := h.1.2.1 y hy
    exact ⟨v, (x.imm _ _ (h.2.2.1 y hy)).2.trans h1, h2⟩, fun y hy => ⟨Nat.lt_of_lt_of_le (h.1.2.2 y hy).1 hs, fun o ho => (x.imm _ _ (h.2.2.2 y hy o ho)).2.trans ((h.1.2.2 y hy).2 o ho)⟩⟩,
    fun y hy => (x.imm _ _ (h.2.1 y hy)).1, fun y hy => (x.imm _ _ (h.2.2.1 y hy)).1, fun y hy o ho => (x.imm _ _ (h.2.2.2 y hy o ho)).1⟩

structure Inv (γ : Gh) (w : World) (O : Oid → Option AObj) (W : Nat → Option Nat) (no nw : Nat) : Prop where
  imm : ∀ b o, γ.imm b o → b < w.heap.size
  obj : ∀ i x, O i = some x → hole γ i x ∨ ∃ b, γ.obj i = some b ∧ objOk γ w (!i.isOut) b x
  inj : ∀ i j x y b, O i = some x → O j = some y → γ.obj i = some b → γ.obj j = some b → i = j
  own : ∀ p n, W p = some n → ownOk γ w (γ.own p) n
  ownInj : ∀ p q n m b, W p = some n → W q = some m → (γ.own p).blk = some b → (γ.own q).blk = some b → p = q
  apart : ∀ i x p n b, O i = some x → W p = some n → γ.obj i = some b → (γ.own p).blk = some b → False
  freshO : ∀ n, no ≤ n → γ.obj (.out n) = none
  freshW : ∀ p, nw ≤ p → γ.own p = .free
  amb : Amb γ w

theorem hole.noblk {γ : Gh} {i : Oid} {x : AObj} (h : hole γ i x) {b : Nat} (hb : γ.obj i = some b) : False := by
  obtain ⟨k, s, rfl, _, h1, _⟩ := h
  rw [h1] at hb; cases hb

/-- The object's block, where it has one. -/
theorem Inv.objb {γ : Gh} {w : World} {O : Oid → Option AObj} {W : Nat → Option Nat} {no nw : Nat} (h : Inv γ w O W no nw) {i : Oid} {x : AObj} {b : Nat} (hx : O i = some x) (hb : γ.obj i = some b) : objOk γ w (!i.isOut) b x := by
  rcases h.obj i x hx with h1 | ⟨b', hb', hok⟩
  · exact (h1.noblk hb).elim
  · rw [hb] at hb'; cases hb'; exact hok

/-- An object that is not a mutable row has a block. -/
theorem Inv.objc {γ : Gh} {w : World} {O : Oid → Option AObj} {W : Nat → Option Nat} {no nw : Nat} (h : Inv γ w O W no nw) {i : Oid} {x : AObj} (hx : O i = some x) (hn : ∀ s g, x ≠ .buf [] s g) : ∃ b, γ.obj i = some b ∧ objOk γ w (!i.isOut) b x := by
  rcases h.obj i x hx with ⟨k, s, _, h1, _⟩ | h1
  · exact (hn _ _ h1).elim
  · exact h1

def Mut (γ : Gh) (O : Oid → Option AObj) (W : Nat → Option Nat) (b : Nat) : Prop :=
  (∃ i x, O i = some x ∧ γ.obj i = some b) ∨ (∃ p n, W p = some n ∧ (γ.own p).blk = some b)

structure Evo (γ : Gh) (w : World) (O : Oid → Option AObj) (W : Nat → Option Nat) (γ' : Gh) (w' : World) (O' : Oid → Option AObj) (W' : Nat → Option Nat) : Prop where
  os : w'.os = w.os
  tape : w'.tape = w.tape
  output : w'.output = w.output
  size : w.heap.size ≤ w'.heap.size
  old : ∀ b, b < w.heap.size → ¬ Mut γ O W b → w'.heap[b]? = w.heap[b]?
  ext : Ext false γ w γ' w'
  new : ∀ b o, γ'.imm b o → γ.imm b o ∨ w.heap.size ≤ b ∨ Mut γ O W b
  mutd : ∀ b, Mut γ' O' W' b → Mut γ O W b ∨ w.heap.size ≤ b

theorem Evo.refl (γ : Gh) (w : World) (O : Oid → Option AObj) (W : Nat → Option Nat) : Evo γ w O W γ w O W :=
  ⟨rfl, rfl, rfl, Nat.le_refl _, fun _ _ _ => rfl, Ext.refl _ _ _, fun _ _ h => .inl h, fun _ h => .inl h⟩

theorem Evo.trans {γ γ1 γ2 : Gh} {w w1 w2 : World} {O O1 O2 : Oid → Option AObj} {W W1 W2 : Nat → Option Nat} (h : Evo γ w O W γ1 w1 O1 W1) (k : Evo γ1 w1 O1 W1 γ2 w2 O2 W2) : Evo γ w O W γ2 w2 O2 W2 where
  os := k.os.trans h.os
  tape := k.tape.trans h.tape
  output := k.output.trans h.output
  size := Nat.le_trans h.size k.size
  old b hb hm := by
    rw [k.old b (Nat.lt_of_lt_of_le hb h.size) (fun hm1 => (h.mutd b hm1).elim hm (fun hle => by omega))]
    exact h.old b hb hm
  ext := h.ext.trans k.ext
  new b o hi := by
    rcases k.new b o hi with h1 | h1 | h1
    · exact h.new b o h1
    · exact .inr (.inl (Nat.le_trans h.size h1))
    · rcases h.mutd b h1 with h2 | h2
      · exact .inr (.inr h2)
      · exact .inr (.inl h2)
  mutd b hm := by
    rcases k.mutd b hm with h1 | h1
    · exact h.mutd b h1
    · exact .inr (Nat.le_trans h.size h1)

structure Conc (γ : Gh) (w : World) (a : Act) (st : St) : Prop where
  size : a.tmps.size = st.n
  fr : ∀ t, Rep γ w true (st.get t) (a.tmps.getD t undef)
  defers : a.defers = []
  inv : Inv γ w st.objAt st.σ.own st.σ.nobj st.σ.nown

abbrev EvoS (γ : Gh) (w : World) (st : St) (γ' : Gh) (w' : World) (st' : St) : Prop := Evo γ w st.objAt st.σ.own γ' w' st'.objAt st'.σ.own

theorem Conc.put {γ : Gh} {w : World} {a : Act} {st : St} (h : Conc γ w a st) (keep : List Nat) {d : Nat} (hd : d < st.n) {x : AVal} {v : Value} (hx : Rep γ w true x v) :
    Conc γ w (a.put (some d) v) (st.put keep d x) where
  size := by simp [Act.put, h.size]
  fr t := by
    rw [St.get_put]
    simp only [Act.put]
    by_cases e : d = t
    · subst e
      rw [if_pos rfl]
      have : (a.tmps.setIfInBounds d v).getD d undef = v := by
        have : d < a.tmps.size := by rw [h.size]; exact hd
        simp [Array.getD, this]
      rw [this]
      exact hx
    · rw [if_neg e]
      have : (a.tmps.setIfInBounds d v).getD t undef = a.tmps.getD t undef := by
        simp only [Array.getD_eq_getD_getElem?]
        rw [Array.getElem?_setIfInBounds_ne e]
      rw [this]
      exact h.fr t
  defers := h.defers
  inv := by
    rw [St.put_objAt, St.put_σ]
    exact h.inv

/-! ### The heap -/

theorem cell?_heap {w w' : World} {a : Addr} (h : w'.heap[a.block]? = w.heap[a.block]?) : w'.cell? a = w.cell? a := World.cell?_of_block h

theorem block_lt {w : World} {b : Nat} {x : Obj} (h : w.heap[b]? = some x) : b < w.heap.size := (Array.getElem?_eq_some_iff.1 h).1

theorem Inv.imm_lt {γ : Gh} {w : World} {O : Oid → Option AObj} {W : Nat → Option Nat} {no nw : Nat} (h : Inv γ w O W no nw) {b o : Nat} (hi : γ.imm b o) : b < w.heap.size := h.imm b o hi

theorem objOk.lt {γ : Gh} {w : World} {l : Bool} {b : Nat} {x : AObj} (h : objOk γ w l b x) : b < w.heap.size := by
  cases x with
  | cells cs => obtain ⟨vs, T, hb, _⟩ := h; exact block_lt hb
  | map es => obtain ⟨vs, T, hb, _⟩ := h; exact block_lt hb
  | siter s pos => exact block_lt h.1
  | buf es s g => obtain ⟨vs, junk, T, cap, hb, _⟩ := h; exact block_lt hb

theorem objOk.notImm {γ : Gh} {w : World} {l : Bool} {b : Nat} {x : AObj} (h : objOk γ w l b x) : ∀ o, ¬ γ.imm b o := by
  cases x with
  | cells cs => obtain ⟨vs, T, _, _, _, h⟩ := h; exact h
  | map es => obtain ⟨vs, T, _, _, _, _, h⟩ := h; exact h
  | siter s pos => exact h.2
  | buf es s g => obtain ⟨vs, junk, T, cap, _, _, _, _, _, _, _, _, h⟩ := h; exact h

theorem ownOk.lt {γ : Gh} {w : World} {x : Own} {n b : Nat} (h : ownOk γ w x n) (hb : x.blk = some b) : b < w.heap.size := by
  cases x with
  | row b' cap n' s =>
    simp only [Own.blk, Option.some.injEq] at hb
    subst hb
    obtain ⟨_, _, _, _, ⟨cur, T, hh, _⟩, _⟩ := h
    exact block_lt hh
  | _ => simp [Own.blk] at hb

theorem Inv.mut_lt {γ : Gh} {w : World} {O : Oid → Option AObj} {W : Nat → Option Nat} {no nw : Nat} (h : Inv γ w O W no nw) {b : Nat} (hm : Mut γ O W b) : b < w.heap.size := by
  rcases hm with ⟨i, x, hx, hb⟩ | ⟨p, n, hp, hb⟩
  · exact (h.objb hx hb).lt
  · exact (h.own p n hp).lt hb

/-- An object's block is as it was, what it leads to still reads. -/
theorem objOk.mono {γ γ' : Gh} {w w' : World} {l : Bool} {b : Nat} {x : AObj} (h : objOk γ w l b x) (e : Ext l γ w γ' w') (hb : w'.heap[b]? = w.heap[b]?) (hn : ∀ o, ¬ γ'.imm b o) : objOk γ' w' l b x := by
  cases x with
  | cells cs => obtain ⟨vs, T, h1, h2, h3, _⟩ := h; exact ⟨vs, T, hb.trans h1, RepL.mono e h2, h3, hn⟩
  | map es => obtain ⟨vs, T, h1, h2, h3, h4, _⟩ := h; exact ⟨vs, T, hb.trans h1, h2.mono e, h3, h4, hn⟩
  | siter s pos => exact ⟨hb.trans h.1, hn⟩
  | buf es s g => obtain ⟨vs, junk, T, cap, h1, h2, h3, h4, h5, h6, h7, h8, _⟩ := h; exact ⟨vs, junk, T, cap, hb.trans h1, RepL.mono e h2, h3, h4, e.obj _ _ (.inr rfl) h5, h6, h7, h8, hn⟩

theorem ownOk.mono {γ γ' : Gh} {w w' : World} {x : Own} {n : Nat} (h : ownOk γ w x n) (hb : ∀ b, x.blk = some b → w'.heap[b]? = w.heap[b]?) (hn : ∀ b o, x.blk = some b → γ'.imm b o → γ.imm b o) : ownOk γ' w' x n := by
  cases x with
  | row b cap n' s =>
    obtain ⟨h1, h2, h3, h4, ⟨cur, T, h5, h6⟩, h7⟩ := h
    exact ⟨h1, h2, h3, h4, ⟨cur, T, (hb b rfl).trans h5, h6⟩, fun o ho hi => h7 o ho (hn b o rfl hi)⟩
  | full _ => exact h
  | free => exact h.elim
  | dead => exact h.elim

/-! ### Draws, and whatever leaves the heap alone -/

theorem Ext.ofHeap {l : Bool} {γ : Gh} {w w' : World} (hh : w'.heap = w.heap) : Ext l γ w γ w' :=
  ⟨fun b o hi => ⟨hi, by simp [World.cell?, hh]⟩, fun _ _ _ h => h, fun p => OwnStep.refl _⟩

theorem Conc.ofHeap {γ : Gh} {w w' : World} {a : Act} {st : St} (h : Conc γ w a st) (hh : w'.heap = w.heap) : Conc γ w' a st where
  size := h.size
  fr t := Rep.mono (Ext.ofHeap hh) (h.fr t)
  defers := h.defers
  inv := by
    have e : ∀ l, Ext l γ w γ w' := fun l => Ext.ofHeap hh
    refine ⟨fun b o hi => ?_, fun i x hx => ?_, h.inv.inj, fun p n hp => ?_, h.inv.ownInj, h.inv.apart, h.inv.freshO, h.inv.freshW, h.inv.amb.mono (e true) (by rw [hh]; exact Nat.le_refl _)⟩
    · rw [hh]; exact h.inv.imm b o hi
    · rcases h.inv.obj i x hx with h1 | ⟨b, hb, hok⟩
      · exact .inl h1
      exact .inr ⟨b, hb, hok.mono (e _) (by rw [hh]) hok.notImm⟩
    · exact (h.inv.own p n hp).mono (fun _ _ => by rw [hh]) (fun _ _ _ h => h)

theorem EvoS.ofHeap {γ : Gh} {w w' : World} {st : St} (hh : w'.heap = w.heap) (h1 : w'.os = w.os) (h2 : w'.tape = w.tape) (h3 : w'.output = w.output) : EvoS γ w st γ w' st :=
  ⟨h1, h2, h3, by rw [hh]; exact Nat.le_refl _, fun b _ _ => by rw [hh], Ext.ofHeap hh, fun _ _ h => .inl h, fun _ h => .inl h⟩

/-! ### A new block that never changes -/

def Gh.addImm (γ : Gh) (b n : Nat) : Gh := { γ with imm := fun b' o => γ.imm b' o ∨ (b' = b ∧ o < n) }

theorem alloc_size_le (w : World) (o : Obj) : w.heap.size ≤ (w.alloc o).heap.size := by show _ ≤ (w.heap.push o).size; simp

theorem heap_alloc_lt (w : World) (o : Obj) {b : Nat} (h : b < w.heap.size) : (w.alloc o).heap[b]? = w.heap[b]? := heap_alloc_old w o b h

theorem Ext.alloc {l : Bool} {γ γ' : Gh} {w : World} (o : Obj) (hlt : ∀ b o, γ.imm b o → b < w.heap.size) (h1 : ∀ b o, γ.imm b o → γ'.imm b o) (h2 : ∀ i b, (l = true ∨ i.isOut = true) → γ.obj i = some b → γ'.obj i = some b)
    (h3 : ∀ p, OwnStep (γ.own p) (γ'.own p)) : Ext l γ w γ' (w.alloc o) :=
  ⟨fun b o' hi => ⟨h1 b o' hi, cell?_heap (heap_alloc_lt w o (hlt b o' hi))⟩, h2, h3⟩

theorem cellsAt_new {γ : Gh} {w : World} (vs : List Value) (T : TypeId) (fz : Nat × Nat) : AL.cellsAt (γ.addImm w.heap.size vs.length) (w.alloc (.cells vs.toArray T fz)) w.heap.size 0 vs := by
  intro j v hj
  have hlt : j < vs.length := by
    rcases Nat.lt_or_ge j vs.length with h | h
    · exact h
    · rw [List.getElem?_eq_none h] at hj; cases hj
  refine ⟨.inr ⟨rfl, by omega⟩, ?_⟩
  have := heap_alloc_new w (.cells vs.toArray T fz)
  simp only [World.cell?, this]
  simpa using hj

theorem Conc.allocImm {γ : Gh} {w : World} {a : Act} {st : St} (h : Conc γ w a st) (vs : List Value) (T : TypeId) (fz : Nat × Nat) :
    Conc (γ.addImm w.heap.size vs.length) (w.alloc (.cells vs.toArray T fz)) a st ∧ EvoS γ w st (γ.addImm w.heap.size vs.length) (w.alloc (.cells vs.toArray T fz)) st ∧
      Ext true γ w (γ.addImm w.heap.size vs.length) (w.alloc (.cells vs.toArray T fz)) := by
  have e : ∀ l, Ext l γ w (γ.addImm w.heap.size vs.length) (w.alloc (.cells vs.toArray T fz)) := fun l =>
    Ext.alloc _ (fun b o hi => h.inv.imm_lt hi) (fun b o hi => .inl hi) (fun _ _ _ hi => hi) (fun p => OwnStep.refl _)
  have nimm : ∀ b o, b < w.heap.size → (γ.addImm w.heap.size vs.length).imm b o → γ.imm b o := fun b o hb hi => hi.elim id (fun hh => by omega)
  refine ⟨⟨h.size, fun t => Rep.mono (e true) (h.fr t), h.defers, ⟨fun b o hi => ?_, fun i x hx => ?_, h.inv.inj, fun p n hp => ?_, h.inv.ownInj, h.inv.apart, h.inv.freshO, h.inv.freshW, h.inv.amb.mono (e true) (alloc_size_le w _)⟩⟩,
    ⟨rfl, rfl, rfl, alloc_size_le w _, fun b hb _ => heap_alloc_lt w _ hb, e false, fun b o hi => hi.elim .inl (fun hh => .inr (.inl (by omega))), fun b hm => .inl hm⟩, e true⟩
  · rcases hi with hi | ⟨rfl, ho⟩
    · exact Nat.lt_of_lt_of_le (h.inv.imm b o hi) (alloc_size_le w _)
    · show w.heap.size < (w.heap.push _).size
      rw [Array.size_push]; omega
  · rcases h.inv.obj i x hx with h1 | ⟨b, hb, hok⟩
    · exact .inl h1
    exact .inr ⟨b, hb, hok.mono (e _) (heap_alloc_lt w _ hok.lt) (fun o hi => hok.notImm o (nimm b o hok.lt hi))⟩
  · have hok := h.inv.own p n hp
    exact hok.mono (fun b hb => heap_alloc_lt w _ (hok.lt hb)) (fun b o hb hi => nimm b o (hok.lt hb) hi)

/-! ### A new object of the activation's own -/

def AObj.noRef (k : Nat) : AObj → Bool
  | .cells cs => noRefL k cs
  | .map es => es.all fun x => x.1.noRef k && x.2.noRef k
  | .siter _ _ => true
  | .buf es _ _ => noRefL k (flat es)

def frNoRef (k : Nat) : List (Nat × AVal) → Bool
  | [] => true
  | x :: r => x.2.noRef k && frNoRef k r

def locNoRef (k : Nat) : List (Nat × AObj) → Bool
  | [] => true
  | x :: r => (x.1 == k || x.2.noRef k) && locNoRef k r

def St.noRef (st : St) (k : Nat) : Bool := frNoRef k st.fr && frNoRef k st.tm && locNoRef k st.loc

theorem frNoRef_lookup {k : Nat} : ∀ {l : List (Nat × AVal)}, frNoRef k l = true → ∀ {t : Nat} {v : AVal}, lookup l t = some v → v.noRef k = true
  | [], _, _, _, h => by cases h
  | x :: r, h, t, v, e => by
    simp only [frNoRef, Bool.and_eq_true] at h
    simp only [lookup] at e
    split at e
    · cases e; exact h.1
    · exact frNoRef_lookup h.2 e

theorem locNoRef_lookup {k : Nat} : ∀ {l : List (Nat × AObj)}, locNoRef k l = true → ∀ {t : Nat} {v : AObj}, lookup l t = some v → t ≠ k → v.noRef k = true
  | [], _, _, _, h, _ => by cases h
  | x :: r, h, t, v, e, hne => by
    simp only [locNoRef, Bool.and_eq_true, Bool.or_eq_true, beq_iff_eq] at h
    simp only [lookup] at e
    split at e
    · rename_i e2
      cases e
      exact h.1.resolve_left (by omega)
    · exact locNoRef_lookup h.2 e hne

theorem St.noRef_get {st : St} {k : Nat} (h : st.noRef k = true) (t : Nat) : (st.get t).noRef k = true := by
  simp only [St.noRef, Bool.and_eq_true] at h
  unfold St.get
  split
  · rename_i v e; exact frNoRef_lookup h.1.1 e
  · cases e : lookup st.tm t with
    | none => rfl
    | some v => exact frNoRef_lookup h.1.2 e

/-- Nothing refers to an object of the activation's own. -/
def St.NoRef (st : St) (k : Nat) : Prop := (∀ t, (st.get t).noRef k = true) ∧ ∀ j v, lookup st.loc j = some v → j ≠ k → v.noRef k = true
theorem St.noRef_sem {st : St} {k : Nat} (h : st.noRef k = true) : st.NoRef k :=
  ⟨fun t => St.noRef_get h t, fun j v hv hj => by
    simp only [St.noRef, Bool.and_eq_true] at h
    exact locNoRef_lookup h.2 hv hj⟩

theorem objOk.setLoc {γ : Gh} {w : World} {l : Bool} {b : Nat} {x : AObj} (h : objOk γ w l b x) (k : Nat) (y : Option Nat) (hx : l = false ∨ x.noRef k = true) : objOk (γ.setObj (.loc k) y) w l b x := by
  cases x with
  | cells cs =>
    obtain ⟨vs, T, h1, h2, h3, h4⟩ := h
    refine ⟨vs, T, h1, ?_, h3, h4⟩
    rcases hx with rfl | hx
    · exact RepL.setLocF' h2 rfl
    · exact RepL.setLoc h2 hx
  | map es =>
    obtain ⟨ents, c, h1, h2, h3, h4, h5⟩ := h
    refine ⟨ents, c, h1, ⟨h2.1, fun i a e ha he => ?_⟩, h3, h4, h5⟩
    have := h2.2 i a e ha he
    rcases hx with rfl | hx
    · exact ⟨Rep.setLocF' this.1 rfl, Rep.setLocF' this.2 rfl⟩
    · simp only [AObj.noRef, List.all_eq_true, Bool.and_eq_true] at hx
      have := hx a (List.mem_of_getElem? ha)
      exact ⟨Rep.setLoc (h2.2 i a e ha he).1 this.1, Rep.setLoc (h2.2 i a e ha he).2 this.2⟩
  | siter s pos => exact h
  | buf es s g =>
    obtain ⟨vs, junk, T, cap, h1, h2, h3, h4, h5, h6, h7, h8, h9⟩ := h
    refine ⟨vs, junk, T, cap, h1, ?_, h3, h4, by simpa [Gh.setObj] using h5, h6, h7, h8, h9⟩
    rcases hx with rfl | hx
    · exact RepL.setLocF' h2 rfl
    · exact RepL.setLoc h2 hx

theorem hole.setLoc {γ : Gh} {i : Oid} {x : AObj} (h : hole γ i x) (k : Nat) (y : Option Nat) : hole (γ.setObj (.loc k) y) i x := by
  obtain ⟨j, s, h1, h2, h3, h4⟩ := h
  exact ⟨j, s, h1, h2, by simpa [Gh.setObj] using h3, by simpa [Gh.setObj] using h4⟩

def St.setLoc (st : St) (k : Nat) (x : AObj) : St := { st with loc := insertAt k x st.loc }

theorem St.setLoc_objAt (st : St) (k : Nat) (x : AObj) (i : Oid) : (st.setLoc k x).objAt i = if i = .loc k then some x else st.objAt i := by
  cases i with
  | loc j =>
    simp only [St.objAt, St.setLoc, lookup_insertAt, Oid.loc.injEq]
    by_cases e : k = j <;> simp [e, eq_comm]
  | out n => simp [St.objAt, St.setLoc]

theorem Conc.allocLoc {γ : Gh} {w : World} {a : Act} {st : St} (h : Conc γ w a st) (k : Nat) (hk : st.NoRef k) (o : Obj) (x : AObj)
    (hx : ∀ γ' w', Ext false γ w γ' w' → Ext true (γ.setObj (.loc k) none) w γ' w' → w'.heap[w.heap.size]? = some o → (∀ o, ¬ γ'.imm w.heap.size o) → objOk γ' w' true w.heap.size x) :
    ∃ γ', Conc γ' (w.alloc o) a (st.setLoc k x) ∧ EvoS γ w st γ' (w.alloc o) (st.setLoc k x) ∧ γ'.obj (.loc k) = some w.heap.size := by
  refine ⟨γ.setObj (.loc k) (some w.heap.size), ?_, ?_, by simp [Gh.setObj]⟩
  · have e : ∀ l, Ext l (γ.setObj (.loc k) (some w.heap.size)) w (γ.setObj (.loc k) (some w.heap.size)) (w.alloc o) := fun l =>
      Ext.alloc _ (fun b o hi => h.inv.imm_lt hi) (fun b o hi => hi) (fun _ _ _ hi => hi) (fun p => OwnStep.refl _)
    have hne : ∀ i x, st.objAt i = some x → ∀ b, γ.obj i = some b → b < w.heap.size := fun i x hx b hb => (h.inv.objb hx hb).lt
    refine ⟨h.size, fun t => Rep.mono (e true) (Rep.setLoc (h.fr t) (hk.1 t)), h.defers, ⟨fun b o' hi => ?_, fun i y hy => ?_, fun i j y z b hy hz hbi hbj => ?_, fun p n hp => ?_, h.inv.ownInj, fun i y p n b hy hp hbi hbp => ?_, fun n hn => ?_, h.inv.freshW, Amb.mono (e true) h.inv.amb (alloc_size_le w _)⟩⟩
    · exact Nat.lt_of_lt_of_le (h.inv.imm b o' hi) (alloc_size_le w _)
    · rw [St.setLoc_objAt] at hy
      split at hy
      · rename_i e1
        cases hy
        subst e1
        refine .inr ⟨w.heap.size, by simp [Gh.setObj], ?_⟩
        refine hx _ _ ⟨fun b o' hi => ⟨hi, ((e true).imm b o' hi).2⟩, fun i b hl hi => ?_, fun p => OwnStep.refl _⟩ ⟨fun b o' hi => ⟨hi, ((e true).imm b o' hi).2⟩, fun i b hl hi => ?_, fun p => OwnStep.refl _⟩ (heap_alloc_new w o) (fun o' hi => ?_)
        · have : i ≠ .loc k := by rintro rfl; simp [Oid.isOut] at hl
          simpa [Gh.setObj, this] using hi
        · by_cases e2 : i = .loc k
          · subst e2; simp [Gh.setObj] at hi
          · simpa [Gh.setObj, e2] using hi
        · have := h.inv.imm_lt hi; omega
      · rename_i e1
        rcases h.inv.obj i y hy with h1 | ⟨b, hb, hok⟩
        · exact .inl (h1.setLoc _ _)
        refine .inr ⟨b, by simpa [Gh.setObj, e1] using hb, ?_⟩
        refine (hok.setLoc k (some w.heap.size) ?_).mono (e _) (heap_alloc_lt w _ hok.lt) hok.notImm
        cases i with
        | out n => exact .inl rfl
        | loc j =>
          refine .inr ?_
          exact hk.2 _ _ hy (fun ej => e1 (by rw [ej]))
    · rw [St.setLoc_objAt] at hy hz
      simp only [Gh.setObj] at hbi hbj
      by_cases e1 : i = .loc k <;> by_cases e2 : j = .loc k
      · rw [e1, e2]
      · rw [if_pos e1] at hbi; rw [if_neg e2] at hbj hz
        have := hne j z hz b hbj
        cases hbi; omega
      · rw [if_neg e1] at hbi hy; rw [if_pos e2] at hbj
        have := hne i y hy b hbi
        cases hbj; omega
      · rw [if_neg e1] at hbi hy; rw [if_neg e2] at hbj hz
        exact h.inv.inj i j y z b hy hz hbi hbj
    · have hok := h.inv.own p n hp
      exact hok.mono (fun b hb => heap_alloc_lt w _ (hok.lt hb)) (fun b o hb hi => hi)
    · rw [St.setLoc_objAt] at hy
      simp only [Gh.setObj] at hbi
      by_cases e1 : i = .loc k
      · rw [if_pos e1] at hbi
        cases hbi
        have := (h.inv.own p n hp).lt hbp
        omega
      · rw [if_neg e1] at hbi hy
        exact h.inv.apart i y p n b hy hp hbi hbp
    · simpa [Gh.setObj] using h.inv.freshO n hn
  · refine ⟨rfl, rfl, rfl, alloc_size_le w _, fun b hb _ => heap_alloc_lt w _ hb, ⟨fun b o' hi => ⟨hi, cell?_heap (heap_alloc_lt w o (h.inv.imm_lt hi))⟩, fun i b hl hi => ?_, fun p => OwnStep.refl _⟩, fun b o hi => .inl hi, fun b hm => ?_⟩
    · have : i ≠ .loc k := by rintro rfl; simp [Oid.isOut] at hl
      simpa [Gh.setObj, this] using hi
    · rcases hm with ⟨i, x', hx', hb⟩ | hm
      · rw [St.setLoc_objAt] at hx'
        simp only [Gh.setObj] at hb
        by_cases e1 : i = .loc k
        · rw [if_pos e1] at hb; cases hb; exact .inr (Nat.le_refl _)
        · rw [if_neg e1] at hb hx'
          exact .inl (.inl ⟨i, x', hx', hb⟩)
      · exact .inl (.inr hm)

/-! ### A new object that others may see -/

def Sto.push (σ : Sto) (x : AObj) : Sto := { σ with nobj := σ.nobj + 1, obj := fun n => if n = σ.nobj then some x else σ.obj n }
def Sto.set (σ : Sto) (o : Nat) (x : AObj) : Sto := { σ with obj := fun n => if n = o then some x else σ.obj n }

theorem hole.setOut {γ : Gh} {i : Oid} {x : AObj} (h : hole γ i x) {no n : Nat} (hf : ∀ n, no ≤ n → γ.obj (.out n) = none) (hn : no ≤ n := by exact Nat.le_refl _) {y : Option Nat} : hole (γ.setObj (.out n) y) i x := by
  obtain ⟨j, s, h1, h2, h3, h4⟩ := h
  have hj : j + 1 < no := by
    rcases Nat.lt_or_ge (j + 1) no with h5 | h5
    · exact h5
    · rw [hf _ h5] at h4; cases h4
  have e1 : j ≠ n := by omega
  have e2 : j + 1 ≠ n := by omega
  exact ⟨j, s, h1, h2, by simpa [Gh.setObj, e1] using h3, by simpa [Gh.setObj, e2] using h4⟩

theorem Conc.allocOut {γ : Gh} {w : World} {a : Act} {st : St} (h : Conc γ w a st) (o : Obj) (x : AObj)
    (hx : ∀ γ' w', Ext true γ w γ' w' → w'.heap[w.heap.size]? = some o → (∀ o, ¬ γ'.imm w.heap.size o) → objOk γ' w' false w.heap.size x) :
    ∃ γ', Conc γ' (w.alloc o) a { st with σ := st.σ.push x } ∧ EvoS γ w st γ' (w.alloc o) { st with σ := st.σ.push x } ∧ γ'.obj (.out st.σ.nobj) = some w.heap.size ∧ Ext true γ w γ' (w.alloc o) := by
  have hfree := h.inv.freshO st.σ.nobj (Nat.le_refl _)
  have eq : ∀ i, St.objAt { st with σ := st.σ.push x } i = if i = .out st.σ.nobj then some x else st.objAt i := fun i => by
    cases i <;> simp [St.objAt, Sto.push]
  have e : ∀ l, Ext l γ w (γ.setObj (.out st.σ.nobj) (some w.heap.size)) (w.alloc o) := fun l =>
    Ext.alloc _ (fun b o hi => h.inv.imm_lt hi) (fun b o hi => hi) (fun i b _ hi => by
      have : i ≠ .out st.σ.nobj := by rintro rfl; rw [hfree] at hi; cases hi
      simpa [Gh.setObj, this] using hi) (fun p => OwnStep.refl _)
  have hne : ∀ i x, st.objAt i = some x → ∀ b, γ.obj i = some b → b < w.heap.size := fun i x hx b hb => (h.inv.objb hx hb).lt
  refine ⟨γ.setObj (.out st.σ.nobj) (some w.heap.size), ⟨h.size, fun t => Rep.mono (e true) (h.fr t), h.defers, ⟨fun b o' hi => ?_, fun i y hy => ?_, fun i j y z b hy hz hbi hbj => ?_, fun p n hp => ?_, h.inv.ownInj, fun i y p n b hy hp hbi hbp => ?_, fun n hn => ?_, h.inv.freshW, h.inv.amb.mono (e true) (alloc_size_le w _)⟩⟩, ?_, by simp [Gh.setObj], e true⟩
  · exact Nat.lt_of_lt_of_le (h.inv.imm b o' hi) (alloc_size_le w _)
  · rw [eq] at hy
    split at hy
    · rename_i e1
      cases hy
      subst e1
      refine .inr ⟨w.heap.size, by simp [Gh.setObj], hx _ _ (e true) (heap_alloc_new w o) (fun o' hi => ?_)⟩
      have := h.inv.imm_lt hi; omega
    · rename_i e1
      rcases h.inv.obj i y hy with h1 | ⟨b, hb, hok⟩
      · exact .inl (h1.setOut h.inv.freshO)
      exact .inr ⟨b, by simpa [Gh.setObj, e1] using hb, hok.mono (e _) (heap_alloc_lt w _ hok.lt) hok.notImm⟩
  · rw [eq] at hy hz
    simp only [Gh.setObj] at hbi hbj
    by_cases e1 : i = .out st.σ.nobj <;> by_cases e2 : j = .out st.σ.nobj
    · rw [e1, e2]
    · rw [if_pos e1] at hbi; rw [if_neg e2] at hbj hz
      have := hne j z hz b hbj
      cases hbi; omega
    · rw [if_neg e1] at hbi hy; rw [if_pos e2] at hbj
      have := hne i y hy b hbi
      cases hbj; omega
    · rw [if_neg e1] at hbi hy; rw [if_neg e2] at hbj hz
      exact h.inv.inj i j y z b hy hz hbi hbj
  · have hok := h.inv.own p n hp
    exact hok.mono (fun b hb => heap_alloc_lt w _ (hok.lt hb)) (fun b o hb hi => hi)
  · rw [eq] at hy
    simp only [Gh.setObj] at hbi
    by_cases e1 : i = .out st.σ.nobj
    · rw [if_pos e1] at hbi
      cases hbi
      have := (h.inv.own p n hp).lt hbp
      omega
    · rw [if_neg e1] at hbi hy
      exact h.inv.apart i y p n b hy hp hbi hbp
  · have hn : st.σ.nobj + 1 ≤ n := hn
    have := h.inv.freshO n (by omega)
    have hne : n ≠ st.σ.nobj := by omega
    simpa [Gh.setObj, hne] using this
  · refine ⟨rfl, rfl, rfl, alloc_size_le w _, fun b hb _ => heap_alloc_lt w _ hb, e false, fun b o hi => .inl hi, fun b hm => ?_⟩
    rcases hm with ⟨i, x', hx', hb⟩ | hm
    · rw [eq] at hx'
      simp only [Gh.setObj] at hb
      by_cases e1 : i = .out st.σ.nobj
      · rw [if_pos e1] at hb; cases hb; exact .inr (Nat.le_refl _)
      · rw [if_neg e1] at hb hx'
        exact .inl (.inl ⟨i, x', hx', hb⟩)
    · exact .inl (.inr hm)

/-! ### An object's block is written -/

def St.setObj (st : St) (i : Oid) (x : AObj) : St :=
  match i with
  | .loc k => st.setLoc k x
  | .out n => { st with σ := st.σ.set n x }

theorem St.setObj_objAt (st : St) (i : Oid) (x : AObj) (j : Oid) : (st.setObj i x).objAt j = if j = i then some x else st.objAt j := by
  cases i with
  | loc k => exact st.setLoc_objAt k x j
  | out n => cases j <;> simp [St.objAt, St.setObj, Sto.set]

@[simp] theorem St.setObj_own (st : St) (i : Oid) (x : AObj) : (st.setObj i x).σ.own = st.σ.own := by cases i <;> rfl
@[simp] theorem St.setObj_nown (st : St) (i : Oid) (x : AObj) : (st.setObj i x).σ.nown = st.σ.nown := by cases i <;> rfl
@[simp] theorem St.setObj_nobj (st : St) (i : Oid) (x : AObj) : (st.setObj i x).σ.nobj = st.σ.nobj := by cases i <;> rfl
@[simp] theorem St.setObj_n (st : St) (i : Oid) (x : AObj) : (st.setObj i x).n = st.n := by cases i <;> rfl
theorem St.setObj_get (st : St) (i : Oid) (x : AObj) (t : Nat) : (st.setObj i x).get t = st.get t := by cases i <;> rfl

theorem Conc.setBlock {γ : Gh} {w w' : World} {a : Act} {st : St} (h : Conc γ w a st) {i : Oid} {y x : AObj} {b : Nat} (hy : st.objAt i = some y) (hb : γ.obj i = some b)
    (h1 : ∀ b', b' ≠ b → w'.heap[b']? = w.heap[b']?) (hsz : w'.heap.size = w.heap.size) (hos : w'.os = w.os) (htp : w'.tape = w.tape) (hou : w'.output = w.output)
    (hx : Ext true γ w γ w' → (∀ o, ¬ γ.imm b o) → objOk γ w' (!i.isOut) b x) :
    Conc γ w' a (st.setObj i x) ∧ EvoS γ w st γ w' (st.setObj i x) := by
  have hok0 : objOk γ w (!i.isOut) b y := h.inv.objb hy hb
  have e : ∀ l, Ext l γ w γ w' := fun l => ⟨fun b' o hi => ⟨hi, cell?_heap (h1 b' (fun e => hok0.notImm o (e ▸ hi)))⟩, fun _ _ _ h => h, fun p => OwnStep.refl _⟩
  refine ⟨⟨h.size.trans (St.setObj_n st i x).symm, fun t => ?_, h.defers, ⟨fun b' o hi => ?_, fun j z hz => ?_, fun j k z u b' hz hu hbj hbk => ?_, fun p n hp => ?_, ?_, fun j z p n b' hz hp hbj hbp => ?_, ?_, ?_, h.inv.amb.mono (e true) (by rw [hsz]; exact Nat.le_refl _)⟩⟩, ?_⟩
  · rw [St.setObj_get]; exact Rep.mono (e true) (h.fr t)
  · rw [hsz]; exact h.inv.imm b' o hi
  · rw [St.setObj_objAt] at hz
    split at hz
    · rename_i e1
      cases hz
      subst e1
      exact .inr ⟨b, hb, hx (e true) hok0.notImm⟩
    · rename_i e1
      rcases h.inv.obj j z hz with hh | ⟨b', hb', hok⟩
      · exact .inl hh
      refine .inr ⟨b', hb', hok.mono (e _) (h1 b' (fun eb => e1 ?_)) hok.notImm⟩
      subst eb
      exact h.inv.inj j i z y b' hz hy hb' hb
  · have : ∀ j z, (st.setObj i x).objAt j = some z → ∃ z', st.objAt j = some z' := fun j z hz => by
      rw [St.setObj_objAt] at hz
      split at hz
      · rename_i e1; exact ⟨y, e1 ▸ hy⟩
      · exact ⟨z, hz⟩
    obtain ⟨z', hz'⟩ := this j z hz
    obtain ⟨u', hu'⟩ := this k u hu
    exact h.inv.inj j k z' u' b' hz' hu' hbj hbk
  · rw [St.setObj_own] at hp
    have hok := h.inv.own p n hp
    exact hok.mono (fun b' hb' => h1 b' (fun eb => h.inv.apart i y p n b hy hp hb (eb ▸ hb'))) (fun _ _ _ hi => hi)
  · rw [St.setObj_own]; exact h.inv.ownInj
  · rw [St.setObj_own] at hp
    rw [St.setObj_objAt] at hz
    split at hz
    · rename_i e1
      exact h.inv.apart j y p n b' (e1 ▸ hy) hp hbj hbp
    · exact h.inv.apart j z p n b' hz hp hbj hbp
  · rw [St.setObj_nobj]; exact h.inv.freshO
  · rw [St.setObj_nown]; exact h.inv.freshW
  · refine ⟨hos, htp, hou, by omega, fun b' hb' hm => h1 b' (fun eb => hm (.inl ⟨i, y, hy, eb ▸ hb⟩)), e false, fun b' o hi => .inl hi, fun b' hm => .inl ?_⟩
    rcases hm with ⟨j, z, hz, hbj⟩ | ⟨p, n, hp, hbp⟩
    · rw [St.setObj_objAt] at hz
      split at hz
      · rename_i e1; exact .inl ⟨j, y, e1 ▸ hy, hbj⟩
      · exact .inl ⟨j, z, hz, hbj⟩
    · exact .inr ⟨p, n, by simpa using hp, hbp⟩

end Go.AL
