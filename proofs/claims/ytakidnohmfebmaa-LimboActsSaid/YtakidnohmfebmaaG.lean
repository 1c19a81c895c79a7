/-
  Small lemmas for the use of the abstract layer.
-/
import Derived.Test.YtakidnohmfebmaaA15
import Derived.Laws.BitsAllLaws
namespace Go.AL

theorem wrap_i64 {n : Int} (h0 : -9223372036854775808 ≤ n) (h1 : n ≤ 9223372036854775807) : IntKind.i64.wrap n = n := by
  have e1 : IntKind.i64.min = -9223372036854775808 := by decide
  have e2 : IntKind.i64.max = 9223372036854775807 := by decide
  simp only [IntKind.wrap, IntKind.signed, IntKind.bits]
  simp
  omega

/-- A value that the kernel does not look into. -/
noncomputable def holdA {α : Type} (a : α) : α := Classical.choose (⟨a, rfl⟩ : ∃ b : α, b = a)
@[simp] theorem holdA_eq {α : Type} (a : α) : holdA a = a := Classical.choose_spec (⟨a, rfl⟩ : ∃ b : α, b = a)

theorem elemAt_get {es : List AVal} {i : Nat} (h : i < es.length) : elemAt es (i : Int) = es[i].cells := by
  simp [elemAt, List.getD, h]

theorem elemAt_int {es : List AVal} {i : Nat} {k : IntKind} (h : i < es.length) (hok : etaOk (.int k) es[i] = true) : elemAt es (i : Int) = [.int k ((es.map AVal.intOf)[i]'(by simpa using h))] := by
  rw [elemAt_get h]
  simp only [List.getElem_map]
  generalize es[i] = v at hok
  cases v <;> simp [etaOk] at hok
  subst hok
  rfl

theorem foldl_drop {α β : Type} (f : β → α → β) (l : List α) (i : Nat) (h : i < l.length) (b : β) : (l.drop i).foldl f b = (l.drop (i + 1)).foldl f (f b l[i]) := by
  rw [List.drop_eq_getElem_cons h, List.foldl_cons]

@[simp] theorem own_setOwn (σ : Sto) (p n q : Nat) : (σ.setOwn p n).own q = if q = p then some n else σ.own q := rfl
@[simp] theorem own_pushOwn (σ : Sto) (n q : Nat) : (σ.pushOwn n).own q = if q = σ.nown then some n else σ.own q := rfl
@[simp] theorem nown_setOwn (σ : Sto) (p n : Nat) : (σ.setOwn p n).nown = σ.nown := rfl
@[simp] theorem nown_pushOwn (σ : Sto) (n : Nat) : (σ.pushOwn n).nown = σ.nown + 1 := rfl
@[simp] theorem obj_setOwn (σ : Sto) (p n : Nat) : (σ.setOwn p n).obj = σ.obj := rfl
@[simp] theorem obj_pushOwn (σ : Sto) (n : Nat) : (σ.pushOwn n).obj = σ.obj := rfl
@[simp] theorem nobj_setOwn (σ : Sto) (p n : Nat) : (σ.setOwn p n).nobj = σ.nobj := rfl
@[simp] theorem nobj_pushOwn (σ : Sto) (n : Nat) : (σ.pushOwn n).nobj = σ.nobj := rfl

theorem leaveTo {id : Nat} {f : St → Prop} {K : Exit → St → Prop} {st : St} (h : f st) : blockK id (thenK f K) (.exit id) st := by
  simp only [blockK, if_true]
  exact h

theorem leaveK {id : Nat} {K : Exit → St → Prop} {st : St} (h : K .normal st) : blockK id K (.exit id) st := by
  simp only [blockK, if_true]
  exact h

theorem inBlock {id : Nat} {f : St → Prop} {K : Exit → St → Prop} {st : St} (h : f st) : blockK id (thenK f K) .normal st := h

theorem toCut {X : St → Prop} {s : St} (h : X s) : cutV X s := h

/-! ### The empty store, with permissions pushed -/
theorem setOwn_e1 (n m : Nat) : (Sto.pushOwn Sto.empty n).setOwn 0 m = Sto.pushOwn Sto.empty m := by
  simp only [Sto.setOwn, Sto.pushOwn, Sto.empty, Sto.mk.injEq, true_and]
  funext q; by_cases h : q = 0 <;> simp [h]
theorem setOwn_e20 (a b m : Nat) : (Sto.pushOwn (Sto.pushOwn Sto.empty a) b).setOwn 0 m = Sto.pushOwn (Sto.pushOwn Sto.empty m) b := by
  simp only [Sto.setOwn, Sto.pushOwn, Sto.empty, Sto.mk.injEq, true_and]
  funext q; by_cases h : q = 0 <;> by_cases h1 : q = 1 <;> simp [h, h1]
theorem setOwn_e21 (a b m : Nat) : (Sto.pushOwn (Sto.pushOwn Sto.empty a) b).setOwn 1 m = Sto.pushOwn (Sto.pushOwn Sto.empty a) m := by
  simp only [Sto.setOwn, Sto.pushOwn, Sto.empty, Sto.mk.injEq, true_and]
  funext q; by_cases h : q = 0 <;> by_cases h1 : q = 1 <;> simp [h, h1]
theorem own_e1 (n : Nat) : (Sto.pushOwn Sto.empty n).own 0 = some n := rfl
theorem own_e20 (a b : Nat) : (Sto.pushOwn (Sto.pushOwn Sto.empty a) b).own 0 = some a := rfl
theorem own_e21 (a b : Nat) : (Sto.pushOwn (Sto.pushOwn Sto.empty a) b).own 1 = some b := rfl
theorem gb_eq (b : Bool) (X : Prop) : gb b X = (b = true ∧ X) := propext gb_iff
/-- What each element of a list is, the list is. -/
theorem map_of {α β : Type} {f : β → α} {P : β → Prop} : ∀ {es : List α}, (∀ x ∈ es, ∃ y, x = f y ∧ P y) → ∃ ys : List β, es = ys.map f ∧ ∀ y ∈ ys, P y
  | [], _ => ⟨[], rfl, fun _ h => by cases h⟩
  | e :: es, h => by
    obtain ⟨y, rfl, hy⟩ := h e (by simp)
    obtain ⟨ys, rfl, hys⟩ := map_of (es := es) fun x hx => h x (by simp [hx])
    exact ⟨y :: ys, rfl, fun z hz => by
      rcases List.mem_cons.1 hz with rfl | hz
      · exact hy
      · exact hys z hz⟩
end Go.AL
