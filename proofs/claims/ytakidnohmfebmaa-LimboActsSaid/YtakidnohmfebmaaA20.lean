/-
  The abstract layer, part 20: two stores of the layer's, side by side in a walk of the kit's.
-/
import Derived.Test.YtakidnohmfebmaaA19
namespace Go.AL
set_option linter.unusedSimpArgs false
set_option linter.unusedVariables false
/-- What a store stands on, of what is new since w0. -/
def Foot (w0 : World) (γ : Gh) (σ : Sto) (b : Nat) : Prop := w0.heap.size ≤ b ∧ (Mut γ σ.O σ.own b ∨ ∃ o, γ.imm b o)
structure Two (w0 : World) (γ1 : Gh) (σ1 : Sto) (γ2 : Gh) (σ2 : Sto) (w : World) (X : Nat → Prop) : Prop where
  l : Held w0 γ1 w σ1 fun b => Foot w0 γ2 σ2 b ∨ X b
  r : Held w0 γ2 w σ2 fun b => Foot w0 γ1 σ1 b ∨ X b
theorem Two.flip {w0 w : World} {γ1 γ2 : Gh} {σ1 σ2 : Sto} {X : Nat → Prop} (h : Two w0 γ1 σ1 γ2 σ2 w X) : Two w0 γ2 σ2 γ1 σ1 w X := ⟨h.r, h.l⟩
theorem Two.out {w0 w w' : World} {γ1 γ2 : Gh} {σ1 σ2 : Sto} {X X' : Nat → Prop} (h : Two w0 γ1 σ1 γ2 σ2 w X) (ho : w'.os = w.os) (ht : w'.tape = w.tape) (hp : w'.output = w.output) (hs : w.heap.size ≤ w'.heap.size)
    (hb : ∀ b, b < w.heap.size → ¬ X b → w'.heap[b]? = w.heap[b]?) (hX : ∀ b, X' b → X b ∨ (w.heap.size ≤ b ∧ b < w'.heap.size)) : Two w0 γ1 σ1 γ2 σ2 w' X' :=
  ⟨h.l.out ho ht hp hs (fun b hl hn => hb b hl fun hx => hn (.inr hx)) fun b hx => hx.elim (fun h => .inl (.inl h)) fun h => (hX b h).elim (fun h => .inl (.inr h)) .inr,
   h.r.out ho ht hp hs (fun b hl hn => hb b hl fun hx => hn (.inr hx)) fun b hx => hx.elim (fun h => .inl (.inl h)) fun h => (hX b h).elim (fun h => .inl (.inr h)) .inr⟩
theorem Two.grow {w0 w w' : World} {γ1 γ2 : Gh} {σ1 σ2 : Sto} {X : Nat → Prop} (h : Two w0 γ1 σ1 γ2 σ2 w X) (hb : Go.RowKit.Below w.heap.size w w') : Two w0 γ1 σ1 γ2 σ2 w' X :=
  h.out hb.os hb.tape hb.output hb.size (fun b hlt _ => hb.block b hlt) fun b hx => .inl hx
/-- Fewer blocks are the walk's own. -/
theorem Two.less {w0 w : World} {γ1 γ2 : Gh} {σ1 σ2 : Sto} {X X' : Nat → Prop} (h : Two w0 γ1 σ1 γ2 σ2 w X) (hX : ∀ b, X' b → X b) : Two w0 γ1 σ1 γ2 σ2 w X' :=
  h.out rfl rfl rfl (Nat.le_refl _) (fun _ _ _ => rfl) fun b hx => .inl (hX b hx)
theorem Two.known {w0 w : World} {γ1 γ2 : Gh} {σ1 σ2 : Sto} {X : Nat → Prop} (h : Two w0 γ1 σ1 γ2 σ2 w X) : Known w := h.l.inv.amb.1
/-- A call on the one store. -/
theorem Two.call {P : Program} {f : FuncId} {args : List AVal} {Q : AVal → Sto → Prop} {w0 w : World} {γ1 γ2 : Gh} {σ1 σ2 : Sto} {X : Nat → Prop} (h : Two w0 γ1 σ1 γ2 σ2 w X) (hc : ACall P f args σ1 Q) {vs : List Value} (hr : RepL γ1 w false args vs) :
    Calls P f vs.toArray w fun e w' => ∃ v r γ' τ, e = .returned v ∧ Rep γ' w' false r v ∧ Q r τ ∧ Two w0 γ' τ γ2 σ2 w' X ∧ Ext false γ1 w γ' w' ∧ (∀ b, X b → w'.heap[b]? = w.heap[b]?) ∧ (∀ l, Ext l γ2 w γ2 w') ∧ w.heap.size ≤ w'.heap.size := by
  refine (h.l.call hc hr).mono ?_
  rintro e w' ⟨v, r, γ', τ, h1, h2, h3, H, h4, h5, h6⟩
  have himm : ∀ b o, γ2.imm b o → w'.heap[b]? = w.heap[b]? := fun b o hi => by
    rcases Nat.lt_or_ge b w0.heap.size with hlt | hge
    · exact (H.below.block b hlt).trans (h.l.below.block b hlt).symm
    · exact h5 b (.inl ⟨hge, .inr ⟨o, hi⟩⟩)
  have hmut : ∀ b, Mut γ2 σ2.O σ2.own b → w'.heap[b]? = w.heap[b]? := fun b hm => h5 b (.inl ⟨h.r.muts b hm, .inl hm⟩)
  have hE : ∀ l, Ext l γ2 w γ2 w' := fun l => ⟨fun b o hi => ⟨hi, cell?_heap (himm b o hi)⟩, fun _ _ _ h => h, fun p => OwnStep.refl _⟩
  refine ⟨v, r, γ', τ, h1, h2, h3, ⟨H, ⟨h.r.inv.frame h6 himm hmut, h.r.ext.trans (hE _), H.below, h.r.muts, fun b hx => ?_⟩⟩, h4, fun b hx => h5 b (.inr hx), hE, h6⟩
  rcases hx with ⟨hge, hf⟩ | hx
  · have hlt : b < w'.heap.size := by
      rcases hf with hf | ⟨o, hf⟩
      · exact hf.lt H.inv
      · exact H.inv.imm b o hf
    have key : Foot w0 γ2 σ2 b → False := fun hF => by
      obtain ⟨_, _, a3, a4⟩ := H.apart b (.inl hF)
      rcases hf with hf | ⟨o, hf⟩
      · exact a3 hf
      · exact a4 o hf
    exact ⟨hge, hlt, fun hm => key ⟨hge, .inl hm⟩, fun o hi => key ⟨hge, .inr ⟨o, hi⟩⟩⟩
  · obtain ⟨a1, a2, a3, a4⟩ := h.r.apart b (.inr hx)
    exact ⟨a1, Nat.lt_of_lt_of_le a2 h6, a3, a4⟩
end Go.AL
