/-
  Small lemmas for the use of the abstract layer.
-/
import Derived.Test.YtickkgdphdkodaaA15
import Derived.Laws.BitsAllLaws
namespace Go.AL

theorem wrap_i64 {n : Int} (h0 : -9223372036854775808 ≤ n) (h1 : n ≤ 9223372036854775807) : IntKind.i64.wrap n = n := by
  have e1 : IntKind.i64.min = -9223372036854775808 := by decide
  have e2 : IntKind.i64.max = 9223372036854775807 := by decide
  simp only [IntKind.wrap, IntKind.signed, IntKind.bits]
  simp
  omega

theorem elemAt_get {es : List AVal} {i : Nat} (h : i < es.length) : elemAt es (i : Int) = es[i].cells := by
  simp [elemAt, List.getD, h]

theorem elemAt_int {es : List AVal} {i : Nat} {k : IntKind} (h : i < es.length) (hok : etaOk (.int k) es[i] = true) : elemAt es (i : Int) = [.int k ((es.map AVal.intOf)[i]'(by simpa using h))] := by
  rw [elemAt_get h]
  simp only [List.getElem_map]
  generalize es[i] = v at hok
  cases v <;> simp [etaOk] at hok
  subst hok
  rfl

theorem foldl_drop {α β : Type} (f : β → α → β) (l : List α) (i : Nat) (h : i < l.length) (b : β) : (l.drop i).foldl f b = (l.drop (i + 1)).foldl f (f b l[i]) := by
  rw [List.drop_eq_getElem_cons h, List.foldl_cons]

@[simp] theorem own_setOwn (σ : Sto) (p n q : Nat) : (σ.setOwn p n).own q = if q = p then some n else σ.own q := rfl
@[simp] theorem own_pushOwn (σ : Sto) (n q : Nat) : (σ.pushOwn n).own q = if q = σ.nown then some n else σ.own q := rfl
@[simp] theorem nown_setOwn (σ : Sto) (p n : Nat) : (σ.setOwn p n).nown = σ.nown := rfl
@[simp] theorem nown_pushOwn (σ : Sto) (n : Nat) : (σ.pushOwn n).nown = σ.nown + 1 := rfl
@[simp] theorem obj_setOwn (σ : Sto) (p n : Nat) : (σ.setOwn p n).obj = σ.obj := rfl
@[simp] theorem obj_pushOwn (σ : Sto) (n : Nat) : (σ.pushOwn n).obj = σ.obj := rfl
@[simp] theorem nobj_setOwn (σ : Sto) (p n : Nat) : (σ.setOwn p n).nobj = σ.nobj := rfl
@[simp] theorem nobj_pushOwn (σ : Sto) (n : Nat) : (σ.pushOwn n).nobj = σ.nobj := rfl

theorem leaveTo {id : Nat} {f : St → Prop} {K : Exit → St → Prop} {st : St} (h : f st) : blockK id (thenK f K) (.exit id) st := by
  simp only [blockK, if_true]
  exact h

theorem leaveK {id : Nat} {K : Exit → St → Prop} {st : St} (h : K .normal st) : blockK id K (.exit id) st := by
  simp only [blockK, if_true]
  exact h

theorem toCut {X : St → Prop} {s : St} (h : X s) : cutV X s := h

end Go.AL
