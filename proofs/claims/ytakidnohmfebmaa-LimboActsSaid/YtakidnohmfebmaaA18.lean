/-
  The abstract layer, part 18: a store of the layer's held through a walk of the kit's: what the walk does elsewhere leaves it.
-/
import Derived.Test.YtakidnohmfebmaaA17
namespace Go.AL
set_option linter.unusedSimpArgs false
set_option linter.unusedVariables false

theorem Mut.lt {γ : Gh} {w : World} {O : Oid → Option AObj} {W : Nat → Option Nat} {no nw b : Nat} (h : Inv γ w O W no nw) (hm : Mut γ O W b) : b < w.heap.size := by
  rcases hm with ⟨i, x, hx, hb⟩ | ⟨p, n, hp, hb⟩
  · exact (h.objb hx hb).lt
  · exact (h.own p n hp).lt hb
theorem Mut.notImm {γ : Gh} {w : World} {O : Oid → Option AObj} {W : Nat → Option Nat} {no nw b : Nat} (h : Inv γ w O W no nw) {i : Oid} {x : AObj} (hx : O i = some x) (hb : γ.obj i = some b) : ∀ o, ¬ γ.imm b o := (h.objb hx hb).notImm
/-- What is done elsewhere leaves the store. -/
theorem Inv.frame {γ : Gh} {w w' : World} {O : Oid → Option AObj} {W : Nat → Option Nat} {no nw : Nat} (h : Inv γ w O W no nw) (hs : w.heap.size ≤ w'.heap.size)
    (hi : ∀ b o, γ.imm b o → w'.heap[b]? = w.heap[b]?) (hm : ∀ b, Mut γ O W b → w'.heap[b]? = w.heap[b]?) : Inv γ w' O W no nw := by
  have e : ∀ l, Ext l γ w γ w' := fun l => ⟨fun b o hb => ⟨hb, cell?_heap (hi b o hb)⟩, fun _ _ _ h => h, fun p => OwnStep.refl _⟩
  refine ⟨fun b o hb => Nat.lt_of_lt_of_le (h.imm b o hb) hs, fun i x hx => ?_, h.inj, fun p n hp => ?_, h.ownInj, h.apart, h.freshO, h.freshW, h.amb.mono (e true) hs⟩
  · rcases h.obj i x hx with h1 | ⟨b, hbk, hok⟩
    · exact .inl h1
    · exact .inr ⟨b, hbk, hok.mono (e _) (hm b (.inl ⟨i, x, hx, hbk⟩)) hok.notImm⟩
  · exact (h.own p n hp).mono (fun b hbk => hm b (.inr ⟨p, n, hp, hbk⟩)) (fun b o _ hi => hi)
/-- Blocks that are nobody's become still. -/
theorem Inv.froze {γ : Gh} {w : World} {O : Oid → Option AObj} {W : Nat → Option Nat} {no nw : Nat} (h : Inv γ w O W no nw) (b : Nat) (hb : b < w.heap.size) (hm : ¬ Mut γ O W b) :
    Inv { γ with imm := fun c o => γ.imm c o ∨ c = b } w O W no nw ∧ ∀ l, Ext l γ w { γ with imm := fun c o => γ.imm c o ∨ c = b } w := by
  have e : ∀ l, Ext l γ w { γ with imm := fun c o => γ.imm c o ∨ c = b } w := fun l => ⟨fun c o hc => ⟨.inl hc, rfl⟩, fun _ _ _ h => h, fun p => OwnStep.refl _⟩
  refine ⟨⟨fun c o hc => ?_, fun i x hx => ?_, h.inj, fun p n hp => ?_, h.ownInj, h.apart, h.freshO, h.freshW, h.amb.mono (e true) (Nat.le_refl _)⟩, e⟩
  · rcases hc with hc | rfl
    · exact h.imm c o hc
    · exact hb
  · rcases h.obj i x hx with h1 | ⟨c, hbk, hok⟩
    · exact .inl h1
    · refine .inr ⟨c, hbk, hok.mono (e _) rfl fun o ho => ?_⟩
      rcases ho with ho | rfl
      · exact hok.notImm o ho
      · exact hm (.inl ⟨i, x, hx, hbk⟩)
  · refine (h.own p n hp).mono (fun _ _ => rfl) fun c o hbk ho => ?_
    rcases ho with ho | rfl
    · exact ho
    · exact (hm (.inr ⟨p, n, hp, hbk⟩)).elim

/-- A contract that says 'the same below', of what is known, too. -/
theorem PCall.ofBelowK {P : Program} {g : FuncId} {xs : List AVal} {v : AVal}
    (h : ∀ γ w vs, Known w → RepL γ w false xs vs → Calls P g vs.toArray w fun e w' => ∃ u, e = .returned u ∧ Rep γ w' false v u ∧ Go.RowKit.Below w.heap.size w w') : PCall P g xs v :=
  fun σ γ w vs hi hr => (h γ w vs hi.amb.1 hr).mono fun e w' ⟨u, h1, h2, h3⟩ =>
    ⟨u, v, γ, σ, h1, h2, hi.below h3, Evo.below (fun b o hm => hi.imm_lt hm) h3, rfl, rfl⟩
/-- A store of the layer's that lies in the world w, all since the world w0; the blocks X are others'. -/
structure Held (w0 : World) (γ : Gh) (w : World) (σ : Sto) (X : Nat → Prop) : Prop where
  inv : Inv γ w σ.O σ.own σ.nobj σ.nown
  ext : Ext false (Gh.top w0) w0 γ w
  below : Go.RowKit.Below w0.heap.size w0 w
  muts : ∀ b, Mut γ σ.O σ.own b → w0.heap.size ≤ b
  apart : ∀ b, X b → w0.heap.size ≤ b ∧ b < w.heap.size ∧ ¬ Mut γ σ.O σ.own b ∧ ∀ o, ¬ γ.imm b o

theorem Held.start (w : World) (hA : Known w) : Held w (Gh.top w) w Sto.empty fun _ => False := by
  refine ⟨Inv.top w hA, Ext.refl _ _ _, Go.RowKit.Below.refl _ _, ?_, fun b h => h.elim⟩
  rintro b (⟨i, x, hx, _⟩ | ⟨p, n, hp, _⟩)
  · cases i <;> cases hx
  · cases hp
/-- What the walk did elsewhere. -/
theorem Held.out {w0 w w' : World} {γ : Gh} {σ : Sto} {X X' : Nat → Prop} (h : Held w0 γ w σ X) (ho : w'.os = w.os) (ht : w'.tape = w.tape) (hp : w'.output = w.output) (hs : w.heap.size ≤ w'.heap.size)
    (hb : ∀ b, b < w.heap.size → ¬ X b → w'.heap[b]? = w.heap[b]?) (hX : ∀ b, X' b → X b ∨ (w.heap.size ≤ b ∧ b < w'.heap.size)) : Held w0 γ w' σ X' := by
  have h0 := h.below.size
  have himm : ∀ b o, γ.imm b o → w'.heap[b]? = w.heap[b]? := fun b o hi => hb b (h.inv.imm b o hi) fun hx => (h.apart b hx).2.2.2 o hi
  have hmut : ∀ b, Mut γ σ.O σ.own b → w'.heap[b]? = w.heap[b]? := fun b hm => hb b (hm.lt h.inv) fun hx => (h.apart b hx).2.2.1 hm
  refine ⟨h.inv.frame hs himm hmut, h.ext.trans ⟨fun b o hi => ⟨hi, cell?_heap (himm b o hi)⟩, fun _ _ _ h => h, fun p => OwnStep.refl _⟩, ?_, h.muts, fun b hx => ?_⟩
  · exact ⟨ho.trans h.below.os, ht.trans h.below.tape, hp.trans h.below.output, Nat.le_trans h.below.size hs, fun b hlt =>
      (hb b (by omega) (fun hx => by have := (h.apart b hx).1; omega)).trans (h.below.block b hlt)⟩
  · rcases hX b hx with h1 | ⟨h1, h2⟩
    · obtain ⟨a1, a2, a3, a4⟩ := h.apart b h1
      exact ⟨a1, by omega, a3, a4⟩
    · exact ⟨by omega, h2, fun hm => by have := hm.lt h.inv; omega, fun o hi => by have := h.inv.imm b o hi; omega⟩
theorem Held.grow {w0 w w' : World} {γ : Gh} {σ : Sto} {X : Nat → Prop} (h : Held w0 γ w σ X) (hb : Go.RowKit.Below w.heap.size w w') : Held w0 γ w' σ X :=
  h.out hb.os hb.tape hb.output hb.size (fun b hlt _ => hb.block b hlt) fun b hx => .inl hx
/-- A call that the layer has a contract of. -/
theorem Held.call {P : Program} {f : FuncId} {args : List AVal} {Q : AVal → Sto → Prop} {w0 w : World} {γ : Gh} {σ : Sto} {X : Nat → Prop} (h : Held w0 γ w σ X) (hc : ACall P f args σ Q) {vs : List Value} (hr : RepL γ w false args vs) :
    Calls P f vs.toArray w fun e w' => ∃ v r γ' τ, e = .returned v ∧ Rep γ' w' false r v ∧ Q r τ ∧ Held w0 γ' w' τ X ∧ Ext false γ w γ' w' ∧ (∀ b, X b → w'.heap[b]? = w.heap[b]?) ∧ w.heap.size ≤ w'.heap.size := by
  refine (hc γ w vs h.inv hr).mono fun e w' ⟨v, r, γ', τ, h1, h2, h3, h4, h5⟩ => ⟨v, r, γ', τ, h1, h2, h5, ⟨h3, h.ext.trans h4.ext, ?_, fun b hm => ?_, fun b hx => ?_⟩, h4.ext, fun b hx => ?_, h4.size⟩
  · exact ⟨h4.os.trans h.below.os, h4.tape.trans h.below.tape, h4.output.trans h.below.output, Nat.le_trans h.below.size h4.size, fun b hlt =>
      (h4.old b (Nat.lt_of_lt_of_le hlt h.below.size) (fun hm => by have := h.muts b hm; omega)).trans (h.below.block b hlt)⟩
  · rcases h4.mutd b hm with h6 | h6
    · exact h.muts b h6
    · exact Nat.le_trans h.below.size h6
  · obtain ⟨a1, a2, a3, a4⟩ := h.apart b hx
    refine ⟨a1, Nat.lt_of_lt_of_le a2 h4.size, fun hm => ?_, fun o hi => ?_⟩
    · rcases h4.mutd b hm with h6 | h6
      · exact a3 h6
      · omega
    · rcases h4.new b o hi with h6 | h6 | h6
      · exact a4 o h6
      · omega
      · exact a3 h6
  · obtain ⟨a1, a2, a3, a4⟩ := h.apart b hx
    exact h4.old b a2 a3
/-- A block of the walk's becomes still. -/
theorem Held.froze {w0 w : World} {γ : Gh} {σ : Sto} {X X' : Nat → Prop} (h : Held w0 γ w σ X) (b : Nat) (hb : b < w.heap.size) (hm : ¬ Mut γ σ.O σ.own b) (hX : ∀ c, X' c → X c ∧ c ≠ b) :
    Held w0 { γ with imm := fun c o => γ.imm c o ∨ c = b } w σ X' := by
  obtain ⟨h1, h2⟩ := h.inv.froze b hb hm
  refine ⟨h1, h.ext.trans (h2 _), h.below, h.muts, fun c hx => ?_⟩
  obtain ⟨h3, h4⟩ := hX c hx
  obtain ⟨a1, a2, a3, a4⟩ := h.apart c h3
  refine ⟨a1, a2, a3, fun o ho => ?_⟩
  rcases ho with ho | ho
  · exact a4 o ho
  · exact h4 ho
theorem Held.new {w0 w : World} {γ : Gh} {σ : Sto} {X : Nat → Prop} (h : Held w0 γ w σ X) {b : Nat} (hb : w.heap.size ≤ b) : ¬ Mut γ σ.O σ.own b := fun hm => by have := hm.lt h.inv; omega
end Go.AL
