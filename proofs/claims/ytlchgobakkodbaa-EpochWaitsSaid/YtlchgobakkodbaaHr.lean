/-
  The abstract layer, helpers: a contract over one object of the caller's, called by the kit.
-/
import Derived.Test.YtlchgobakkodbaaA17
import Derived.Test.YtlchgobakkodbaaHc
namespace Go.AL
set_option linter.unusedVariables false
/-- Every block is never changed, but one; that one is the object 0. -/
def Gh.row (w : World) (g : Nat) : Gh := { imm := fun b _ => b < w.heap.size ∧ b ≠ g, obj := fun i => if i = .out 0 then some g else none, own := fun _ => .free }

theorem Inv.row {w : World} {g : Nat} {cs : List AVal} {vs : List Value} {T : TypeId} (hamb : Amb (Gh.row w g) w) (hg : w.heap[g]? = some (.cells vs.toArray T (0, 0)))
    (hr : RepL (Gh.row w g) w false cs vs) (h1 : ∀ v ∈ vs, v.oneCell' = true) : Inv (Gh.row w g) w (Sto.one (.cells cs)).O (Sto.one (.cells cs)).own (Sto.one (.cells cs)).nobj (Sto.one (.cells cs)).nown := by
  have ho : ∀ i x, (Sto.one (.cells cs)).O i = some x → i = .out 0 ∧ x = .cells cs := fun i x h => by
    cases i with
    | loc k => cases h
    | out n =>
      simp only [Sto.O, Sto.one] at h
      split at h
      · rename_i e; subst e; cases h; exact ⟨rfl, rfl⟩
      · cases h
  refine ⟨fun b o h => h.1, fun i x h => ?_, fun i j x y b h k _ _ => (ho i x h).1.trans (ho j y k).1.symm, fun p n h => (by cases h), fun p q n m b h => (by cases h), fun i x p n b _ h => (by cases h), fun n hn => ?_, fun p _ => rfl, hamb⟩
  · obtain ⟨rfl, rfl⟩ := ho i x h
    exact .inr ⟨g, (if_pos rfl : (if Oid.out 0 = .out 0 then some g else none) = some g), vs, T, hg, hr, h1, fun o h => h.2 rfl⟩
  · have hn : 1 ≤ n := hn
    show (if (Oid.out n) = .out 0 then some g else none) = none
    rw [if_neg (fun e => by cases e; omega)]

/-- What is known at some block below the row's stays known. -/
theorem Amb.row {w : World} {g : Nat} (hA : Known w) (h1 : ∀ x ∈ tabs, x.1 ≠ g) (h2 : ∀ x ∈ tabsP, x.1 ≠ g) (h3 : ∀ x ∈ tabsB, x.1 ≠ g) : Amb (Gh.row w g) w :=
  ⟨hA, fun x hx => ⟨World.block_lt_of_cell? w ⟨x.1, x.2.1, none⟩ (hA.1 x hx), h1 x hx⟩, fun x hx => let ⟨_, h, _⟩ := hA.2.1 x hx; ⟨World.block_lt_of_cell? w ⟨x.1, x.2.1, none⟩ h, h2 x hx⟩, fun x hx _ _ => ⟨(hA.2.2 x hx).1, h3 x hx⟩⟩

/-- A contract over the row: what it gives, for the kit. -/
theorem ACall.topRow {P : Program} {f : FuncId} {args : List AVal} {cs : List AVal} {Q : AVal → Sto → Prop} (h : ACall P f args (Sto.one (.cells cs)) Q) {w : World} {g : Nat} {vs : List Value} {T : TypeId}
    (hamb : Amb (Gh.row w g) w) (hg : w.heap[g]? = some (.cells vs.toArray T (0, 0))) (hr : RepL (Gh.row w g) w false cs vs) (h1 : ∀ v ∈ vs, v.oneCell' = true) {us : List Value} (hu : RepL (Gh.row w g) w false args us) :
    Calls P f us.toArray w fun e w' => ∃ v r γ' σ', e = .returned v ∧ Rep γ' w' false r v ∧ Q r σ' ∧ Go.RowKit.Below g w w' ∧
      ∀ o cells, σ'.obj o = some (.cells cells) → ∃ b vs' T', γ'.obj (.out o) = some b ∧ w'.heap[b]? = some (.cells vs'.toArray T' (0, 0)) ∧ RepL γ' w' false cells vs' ∧ (∀ v ∈ vs', v.oneCell' = true) ∧ (b = g ∨ w.heap.size ≤ b) := by
  have hm : ∀ b, Mut (Gh.row w g) (Sto.one (.cells cs)).O (Sto.one (.cells cs)).own b → b = g := fun b hb => by
    rcases hb with ⟨i, x, _, hx⟩ | ⟨p, n, hp, _⟩
    · have hx : (if i = .out 0 then some g else none) = some b := hx
      split at hx
      · cases hx; rfl
      · cases hx
    · cases hp
  refine (h (Gh.row w g) w us (Inv.row hamb hg hr h1) hu).mono fun e w' ⟨v, r, γ', σ', e1, e2, e3, e4, e5⟩ => ⟨v, r, γ', σ', e1, e2, e5, ⟨e4.os, e4.tape, e4.output, e4.size, fun k hk => ?_⟩, fun o cells ho => ?_⟩
  · have hgs : g < w.heap.size := (Array.getElem?_eq_some_iff.1 hg).1
    exact e4.old k (by omega) fun hk' => by have := hm k hk'; omega
  · obtain ⟨b, hb, vs', T', g1, g2, g3, _⟩ := e3.objc (i := .out o) (x := .cells cells) ho (fun s g hh => by cases hh)
    exact ⟨b, vs', T', hb, g1, g2, g3, (e4.mutd b (.inl ⟨.out o, .cells cells, ho, hb⟩)).imp (hm b) id⟩
/-- A contract over nothing: what it gives and what it has made, for the kit. -/
theorem ACall.topMade {P : Program} {f : FuncId} {args : List AVal} {Q : AVal → Sto → Prop} (h : ACall P f args Sto.empty Q) {w : World} (hA : Known w) {us : List Value} (hu : RepL (Gh.top w) w false args us) :
    Calls P f us.toArray w fun e w' => ∃ v r γ' σ', e = .returned v ∧ Rep γ' w' false r v ∧ Q r σ' ∧ Go.RowKit.Below w.heap.size w w' ∧
      ∀ o cells, σ'.obj o = some (.cells cells) → ∃ b vs' T', γ'.obj (.out o) = some b ∧ w'.heap[b]? = some (.cells vs'.toArray T' (0, 0)) ∧ RepL γ' w' false cells vs' ∧ (∀ v ∈ vs', v.oneCell' = true) ∧ w.heap.size ≤ b := by
  have hm : ∀ b, ¬ Mut (Gh.top w) Sto.empty.O Sto.empty.own b := fun b hb => by
    rcases hb with ⟨i, x, hx, _⟩ | ⟨p, n, hp, _⟩
    · exact top_none i x hx
    · cases hp
  refine (h (Gh.top w) w us (Inv.top w hA) hu).mono fun e w' ⟨v, r, γ', σ', e1, e2, e3, e4, e5⟩ => ⟨v, r, γ', σ', e1, e2, e5, ⟨e4.os, e4.tape, e4.output, e4.size, fun k hk => e4.old k hk (hm k)⟩, fun o cells ho => ?_⟩
  obtain ⟨b, hb, vs', T', g1, g2, g3, _⟩ := e3.objc (i := .out o) (x := .cells cells) ho (fun s g hh => by cases hh)
  exact ⟨b, vs', T', hb, g1, g2, g3, ((e4.mutd b (.inl ⟨.out o, .cells cells, ho, hb⟩)).resolve_left (hm b))⟩
end Go.AL
