/-
  The abstract layer, part 17: contracts of the library that say 'the same below' are pure calls.
-/
import Derived.Test.YtakidnohmfebmaaA16
namespace Go.AL
set_option linter.unusedSimpArgs false
set_option linter.unusedVariables false

theorem Known.below {w W : World} (hb : Go.RowKit.Below w.heap.size w W) (h : Known w) : Known W := by
  have key : ∀ b o v, w.cell? ⟨b, o, none⟩ = some v → W.cell? ⟨b, o, none⟩ = some v := fun b o v h1 => by
    have hlt : b < w.heap.size := by
      rcases Nat.lt_or_ge b w.heap.size with h' | h'
      · exact h'
      · simp [World.cell?, Array.getElem?_eq_none h'] at h1
    rw [hb.cell (p := ⟨b, o, none⟩) hlt]; exact h1
  exact ⟨fun x hx => key _ _ _ (h.1 x hx), fun x hx => let ⟨v, h1, h2⟩ := h.2.1 x hx; ⟨v, key _ _ _ h1, h2⟩, fun x hx => ⟨Nat.lt_of_lt_of_le (h.2.2 x hx).1 hb.size, fun o ho => by
    rw [hb.cell (p := ⟨x.1, o, none⟩) (h.2.2 x hx).1]; exact (h.2.2 x hx).2 o ho⟩⟩
theorem Ext.below {l : Bool} {γ : Gh} {w w' : World} (hlt : ∀ b o, γ.imm b o → b < w.heap.size) (hb : Go.RowKit.Below w.heap.size w w') : Ext l γ w γ w' :=
  ⟨fun b o hi => ⟨hi, cell?_heap (hb.block b (hlt b o hi))⟩, fun _ _ _ h => h, fun p => OwnStep.refl _⟩
theorem Inv.below {γ : Gh} {w w' : World} {O : Oid → Option AObj} {W : Nat → Option Nat} {no nw : Nat} (h : Inv γ w O W no nw) (hb : Go.RowKit.Below w.heap.size w w') : Inv γ w' O W no nw := by
  have e : ∀ l, Ext l γ w γ w' := fun l => Ext.below (fun b o hi => h.imm_lt hi) hb
  refine ⟨fun b o hi => ?_, fun i x hx => ?_, h.inj, fun p n hp => ?_, h.ownInj, h.apart, h.freshO, h.freshW, h.amb.mono (e true) hb.size⟩
  · exact Nat.lt_of_lt_of_le (h.imm b o hi) hb.size
  · rcases h.obj i x hx with h1 | ⟨b, hbk, hok⟩
    · exact .inl h1
    · exact .inr ⟨b, hbk, hok.mono (e _) (hb.block b hok.lt) hok.notImm⟩
  · have hok := h.own p n hp
    exact hok.mono (fun b hbk => hb.block b (hok.lt hbk)) (fun b o hbk hi => hi)
theorem Evo.below {γ : Gh} {w w' : World} {O : Oid → Option AObj} {W : Nat → Option Nat} (hlt : ∀ b o, γ.imm b o → b < w.heap.size) (hb : Go.RowKit.Below w.heap.size w w') : Evo γ w O W γ w' O W :=
  ⟨hb.os, hb.tape, hb.output, hb.size, fun b h _ => hb.block b h, Ext.below hlt hb, fun _ _ h => .inl h, fun _ h => .inl h⟩
/-- A contract of the library's: it yields a value, and what was there is as it was. -/
theorem PCall.ofBelow {P : Program} {g : FuncId} {xs : List AVal} {v : AVal}
    (h : ∀ γ w vs, RepL γ w false xs vs → Calls P g vs.toArray w fun e w' => ∃ u, e = .returned u ∧ Rep γ w' false v u ∧ Go.RowKit.Below w.heap.size w w') : PCall P g xs v :=
  fun σ γ w vs hi hr => (h γ w vs hr).mono fun e w' ⟨u, h1, h2, h3⟩ =>
    ⟨u, v, γ, σ, h1, h2, hi.below h3, Evo.below (fun b o hm => hi.imm_lt hm) h3, rfl, rfl⟩
theorem PCall.ofSame {P : Program} {g : FuncId} {xs : List AVal} {v : AVal}
    (h : ∀ γ w vs, RepL γ w false xs vs → Calls P g vs.toArray w fun e w' => ∃ u, e = .returned u ∧ Rep γ w false v u ∧ w' = w) : PCall P g xs v :=
  .ofBelow fun γ w vs hr => (h γ w vs hr).mono fun e w' ⟨u, h1, h2, h3⟩ => by subst h3; exact ⟨u, h1, h2, Go.RowKit.Below.refl _ _⟩
theorem repStr {γ : Gh} {w : World} {l : Bool} {s : List UInt8} {u : Value} (h : Rep γ w l (.str s) u) : u = .string ⟨s.toArray⟩ := by cases h; rfl
theorem repL1 {γ : Gh} {w : World} {l : Bool} {a : AVal} {vs : List Value} (h : RepL γ w l [a] vs) : ∃ u, vs = [u] ∧ Rep γ w l a u := by
  cases h with
  | cons h1 h2 => cases h2; exact ⟨_, rfl, h1⟩
theorem repL2 {γ : Gh} {w : World} {l : Bool} {a b : AVal} {vs : List Value} (h : RepL γ w l [a, b] vs) : ∃ u v, vs = [u, v] ∧ Rep γ w l a u ∧ Rep γ w l b v := by
  cases h with
  | cons h1 h2 => obtain ⟨v, rfl, h3⟩ := repL1 h2; exact ⟨_, _, rfl, h1, h3⟩
/-- A slice without room that is handed back is said to bear a permission. -/
theorem ACall.growRes {P : Program} {f : FuncId} {args : List AVal} {σ : Sto} {Q : AVal → Sto → Prop} {n : Nat}
    (h : ACall P f args σ fun r τ => (∃ s, r = .slice [] s .nil ∧ Q (.slice [] n (.own τ.nown)) (τ.pushOwn 0)) ∨ (∃ es s, r = .slice es s .full ∧ Q (.slice es s (.own τ.nown)) (τ.pushOwn es.length)) ∨ Q r τ) : ACall P f args σ Q := by
  intro γ w0 vs hi hr
  refine (h γ w0 vs hi hr).mono fun e w' ⟨v, r, γ', τ, he, hrep, hinv, hev, hq⟩ => ?_
  have hO : ∀ τ : Sto, St.objAt { n := 0, fr := [], tm := [], loc := [], σ := τ } = τ.O := fun τ => by funext i; cases i <;> rfl
  have hC : Conc γ' w' { tmps := #[], defers := [] } { n := 0, fr := [], tm := [], loc := [], σ := τ } := ⟨rfl, fun t => .undef _ _, rfl, by rw [hO]; exact hinv⟩
  have fin : ∀ m : Nat, Inv { γ' with own := fun q => if q = τ.nown then .full m else γ'.own q } w' (τ.pushOwn m).O (τ.pushOwn m).own (τ.pushOwn m).nobj (τ.pushOwn m).nown ∧
      Evo γ w0 σ.O σ.own { γ' with own := fun q => if q = τ.nown then .full m else γ'.own q } w' (τ.pushOwn m).O (τ.pushOwn m).own := fun m => by
    obtain ⟨c1, c2, c3⟩ := hC.ownFull m
    refine ⟨?_, ?_⟩
    · have := c1.inv
      rw [hO (τ.pushOwn m)] at this
      exact this
    · have e1 := c2
      unfold EvoS at e1
      rw [hO τ, hO (τ.pushOwn m)] at e1
      exact hev.trans e1
  rcases hq with ⟨s, rfl, hq⟩ | ⟨es, s, rfl, hq⟩ | hq
  · refine ⟨v, _, _, _, he, ?_, (fin 0).1, (fin 0).2, hq⟩
    generalize hes : ([] : List AVal) = es at hrep
    cases hrep with
    | sliceRow _ _ _ _ _ _ ht => exact ht.elim
    | sliceNil ht ho => exact .sliceNil (by simp [AL.tagNil, Own.isNil]) (.inr rfl)
  · refine ⟨v, _, _, _, he, ?_, (fin es.length).1, (fin es.length).2, hq⟩
    obtain ⟨c1, c2, c3⟩ := hC.ownFull es.length
    cases hrep with
    | @sliceRow _ _ _ _ b off cap vs h1 h2 h3 h4 h5 h6 h7 =>
      refine .sliceRow (RepL.mono c3.weak h1) h2 (c3.cellsAt h3) h4 h5 h6 ?_
      have : AL.tagRow { γ' with own := fun q => if q = τ.nown then .full es.length else γ'.own q } (.own τ.nown) es.length b off cap s := by
        simp only [AL.tagRow, if_true, Own.isRow]
        exact ⟨Nat.le_refl _, fun _ => h7⟩
      exact this
    | sliceNil ht ho => exact .sliceNil (by simp [AL.tagNil, Own.isNil]) (.inr rfl)
  · exact ⟨v, r, γ', τ, he, hrep, hinv, hev, hq⟩
end Go.AL
