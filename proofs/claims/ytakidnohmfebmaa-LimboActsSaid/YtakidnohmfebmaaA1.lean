/-
  The abstract layer, part 1: abstract values (AVal), what they mean in a world (Rep), what is held between two moments of a run (Ext, Evo), the state's invariant (Inv).
  No program's text is spoken of: the same text serves every seat.
-/
import Derived.Orders
import Derived.Laws.World
import Derived.Laws.Sem
import Derived.Laws.AppendOwn
import Derived.Below
set_option linter.unusedSimpArgs false
set_option linter.unusedVariables false
namespace Go.AL

inductive Tag where
  | nil | ro | full | own (p : Nat)

inductive Oid where
  | loc (k : Nat) | out (n : Nat)
  deriving DecidableEq

def Oid.isOut : Oid → Bool
  | .loc _ => false
  | .out _ => true

inductive AVal where
  | undef
  | bool (b : Bool)
  | int (k : IntKind) (n : Int)
  | str (s : List UInt8)
  | agg (cs : List AVal)
  | tuple (vs : List AVal)
  | slice (es : List AVal) (s : Nat) (t : Tag)
  | arr (o : Oid) (off len cap : Nat)
  | mrow (k len : Nat)
  | iptr (cs : List AVal)
  | ptr (o : Oid) (off : Nat)
  | nilptr
  | map (o : Oid)
  | nilmap
  | func (fn : Fn) (first cap : List AVal)
  | nilfunc
  | iface (t : TypeId) (v : AVal)
  | nilIface

def Tag.isNil : Tag → Bool
  | .nil => true
  | _ => false

def AVal.cells : AVal → List AVal
  | .agg cs => cs
  | v => [v]

def flat (es : List AVal) : List AVal := es.flatMap AVal.cells

/-- What has become of a permission to append. 'full n': the n elements leave no room. 'row b cap n s': block b, room for cap elements of s cells each, n of them are claimed. -/
inductive Own where
  | free | dead | full (n : Nat) | row (b cap n s : Nat)

/-- The ghost: which cells never change again; where an object lies; permissions. -/
structure Gh where
  imm : Nat → Nat → Prop
  obj : Oid → Option Nat
  own : Nat → Own

def cellsAt (γ : Gh) (w : World) (b off : Nat) (vs : List Value) : Prop :=
  ∀ j v, vs[j]? = some v → γ.imm b (off + j) ∧ w.cell? ⟨b, off + j, none⟩ = some v

def Own.isRow : Own → (n b off cap s : Nat) → Prop
  | .free, _, _, _, _, _ => False
  | .full n', n, _, _, cap, _ => n ≤ n' ∧ (n = n' → cap = n)
  | .dead, _, _, _, _, _ => True
  | .row b' cap' n' s', n, b, off, cap, s => n ≤ n' ∧ (n = n' → b = b' ∧ off = 0 ∧ cap = cap' ∧ s = s')

def Own.isNil : Own → Prop
  | .free => False
  | .full _ => True
  | .dead => True
  | .row _ _ n _ => 0 < n

def tagRow (γ : Gh) : Tag → (n b off cap s : Nat) → Prop
  | .nil, _, _, _, _, _ => False
  | .ro, _, _, _, _, _ => True
  | .full, n, _, _, cap, _ => cap = n
  | .own p, n, b, off, cap, s => (γ.own p).isRow n b off cap s

def tagNil (γ : Gh) : Tag → Prop
  | .own p => (γ.own p).isNil
  | _ => True

mutual
inductive Rep (γ : Gh) (w : World) : Bool → AVal → Value → Prop
  | undef (l : Bool) (v : Value) : Rep γ w l .undef v
  | bool (l : Bool) (b : Bool) : Rep γ w l (.bool b) (.bool b)
  | int (l : Bool) (k : IntKind) (n : Int) : Rep γ w l (.int k n) (.int k n)
  | str (l : Bool) (s : List UInt8) : Rep γ w l (.str s) (.string ⟨s.toArray⟩)
  | agg {l : Bool} {cs : List AVal} {vs : List Value} (h : RepL γ w l cs vs) (h1 : ∀ v ∈ vs, v.oneCell' = true) : Rep γ w l (.agg cs) (.agg vs.toArray)
  | tuple {l : Bool} {cs : List AVal} {vs : List Value} (h : RepL γ w l cs vs) : Rep γ w l (.tuple cs) (.tuple vs.toArray)
  | sliceRow {l : Bool} {es : List AVal} {s : Nat} {tag : Tag} {b off cap : Nat} {vs : List Value} (h : RepL γ w false (flat es) vs) (hs : ∀ e ∈ es, e.cells.length = s)
      (hc : cellsAt γ w b off vs) (h1 : ∀ v ∈ vs, v.oneCell' = true) (hn : es.length ≤ cap) (hm : cap ≤ maxLen) (ht : tagRow γ tag es.length b off cap s) : Rep γ w l (.slice es s tag) (.slice (some ⟨b, off, none⟩) es.length cap)
  | sliceNil {l : Bool} {s : Nat} {tag : Tag} {o : Option Addr} (ht : tagNil γ tag) (ho : o = none ∨ tag.isNil = false) : Rep γ w l (.slice [] s tag) (.slice o 0 0)
  | arr {l : Bool} {o : Oid} {off off' len cap b : Nat} (hb : γ.obj o = some b) (ho : l = true ∨ o.isOut = true) (hn : len ≤ cap) (h0 : 0 < cap → off' = off) : Rep γ w l (.arr o off len cap) (.slice (some ⟨b, off', none⟩) len cap)
  | mrow {l : Bool} {k len cap : Nat} {a : Option Addr} (hc : γ.obj (.out (k + 1)) = some cap) (hn : len ≤ cap) (hb : 0 < cap → ∃ b, a = some ⟨b, 0, none⟩ ∧ γ.obj (.out k) = some b) : Rep γ w l (.mrow k len) (.slice a len cap)
  | iptr {l : Bool} {cs : List AVal} {vs : List Value} {b off : Nat} (h : RepL γ w false cs vs) (h1 : ∀ v ∈ vs, v.oneCell' = true) (hc : cellsAt γ w b off vs) : Rep γ w l (.iptr cs) (.pointer (some ⟨b, off, none⟩))
  | ptr {l : Bool} {o : Oid} {off b : Nat} (hb : γ.obj o = some b) (ho : l = true ∨ o.isOut = true) : Rep γ w l (.ptr o off) (.pointer (some ⟨b, off, none⟩))
  | nilptr (l : Bool) : Rep γ w l .nilptr (.pointer none)
  | map {l : Bool} {o : Oid} {b : Nat} (hb : γ.obj o = some b) (ho : l = true ∨ o.isOut = true) : Rep γ w l (.map o) (.map (some b))
  | nilmap (l : Bool) : Rep γ w l .nilmap (.map none)
  | func {l : Bool} {fn : Fn} {f c : List AVal} {fs cs : List Value} (hf : RepL γ w l f fs) (hc : RepL γ w l c cs) : Rep γ w l (.func fn f c) (.func fn fs.toArray cs.toArray)
  | nilfunc (l : Bool) : Rep γ w l .nilfunc .nilFunc
  | iface {l : Bool} {t : TypeId} {a : AVal} {v : Value} (h : Rep γ w l a v) : Rep γ w l (.iface t a) (.iface t v)
  | nilIface (l : Bool) : Rep γ w l .nilIface .nilIface
inductive RepL (γ : Gh) (w : World) : Bool → List AVal → List Value → Prop
  | nil (l : Bool) : RepL γ w l [] []
  | cons {l : Bool} {a : AVal} {v : Value} {as : List AVal} {vs : List Value} (h : Rep γ w l a v) (t : RepL γ w l as vs) : RepL γ w l (a :: as) (v :: vs)
end

/-! ### Lists of values -/

theorem RepL.length {γ : Gh} {w : World} {l : Bool} : ∀ {as : List AVal} {vs : List Value}, RepL γ w l as vs → as.length = vs.length
  | _, _, .nil _ => rfl
  | _, _, .cons _ t => by simp [RepL.length t]

theorem RepL.append {γ : Gh} {w : World} {l : Bool} {bs : List AVal} {us : List Value} (h2 : RepL γ w l bs us) : ∀ {as : List AVal} {vs : List Value}, RepL γ w l as vs → RepL γ w l (as ++ bs) (vs ++ us)
  | _, _, .nil _ => h2
  | _, _, .cons h t => .cons h (RepL.append h2 t)

theorem RepL.split {γ : Gh} {w : World} {l : Bool} : ∀ {as : List AVal} {bs : List AVal} {vs : List Value}, RepL γ w l (as ++ bs) vs → RepL γ w l as (vs.take as.length) ∧ RepL γ w l bs (vs.drop as.length)
  | [], _, _, h => by simpa using ⟨RepL.nil l, h⟩
  | a :: as, bs, _, .cons h t => by
    have := RepL.split (as := as) (bs := bs) t
    exact ⟨.cons h this.1, this.2⟩

theorem RepL.take {γ : Gh} {w : World} {l : Bool} (n : Nat) : ∀ {as : List AVal} {vs : List Value}, RepL γ w l as vs → RepL γ w l (as.take n) (vs.take n) := by
  induction n with
  | zero => intros; exact .nil _
  | succ n ih =>
    intro as vs h
    cases h with
    | nil => exact .nil _
    | cons h t => exact .cons h (ih t)

theorem RepL.drop {γ : Gh} {w : World} {l : Bool} (n : Nat) : ∀ {as : List AVal} {vs : List Value}, RepL γ w l as vs → RepL γ w l (as.drop n) (vs.drop n) := by
  induction n with
  | zero => intro as vs h; exact h
  | succ n ih =>
    intro as vs h
    cases h with
    | nil => exact .nil _
    | cons h t => exact ih t

theorem RepL.get {γ : Gh} {w : World} {l : Bool} : ∀ {as : List AVal} {vs : List Value}, RepL γ w l as vs → ∀ {i : Nat} {a : AVal}, as[i]? = some a → ∃ v, vs[i]? = some v ∧ Rep γ w l a v
  | _, _, .cons (v := v) h t, 0, a, e => ⟨v, rfl, by cases e; exact h⟩
  | _, _, .cons h t, i + 1, a, e => RepL.get t e

theorem RepL.get' {γ : Gh} {w : World} {l : Bool} : ∀ {as : List AVal} {vs : List Value}, RepL γ w l as vs → ∀ {i : Nat} {v : Value}, vs[i]? = some v → ∃ a, as[i]? = some a ∧ Rep γ w l a v
  | _, _, .cons (a := a) h t, 0, v, e => ⟨a, rfl, by cases e; exact h⟩
  | _, _, .cons h t, i + 1, v, e => RepL.get' t e

theorem RepL.set {γ : Gh} {w : World} {l : Bool} {x : AVal} {u : Value} (hx : Rep γ w l x u) : ∀ {as : List AVal} {vs : List Value}, RepL γ w l as vs → ∀ {i : Nat}, RepL γ w l (as.set i x) (vs.set i u)
  | _, _, .nil _, i => by cases i <;> exact .nil _
  | _, _, .cons h t, 0 => .cons hx t
  | _, _, .cons h t, i + 1 => .cons h (RepL.set hx t)

theorem cellsAt.append {γ : Gh} {w : World} {b off : Nat} {us vs : List Value} (h1 : cellsAt γ w b off us) (h2 : cellsAt γ w b (off + us.length) vs) : cellsAt γ w b off (us ++ vs) := by
  intro j v hj
  by_cases hlt : j < us.length
  · exact h1 j v (by rwa [List.getElem?_append_left hlt] at hj)
  · rw [List.getElem?_append_right (by omega)] at hj
    have := h2 _ v hj
    rwa [show off + us.length + (j - us.length) = off + j by omega] at this

theorem cellsAt.take {γ : Gh} {w : World} {b off : Nat} {vs : List Value} (h : cellsAt γ w b off vs) (n : Nat) : cellsAt γ w b off (vs.take n) := by
  intro j v hj
  rw [List.getElem?_take] at hj
  split at hj
  · exact h j v hj
  · cases hj

theorem cellsAt.drop {γ : Gh} {w : World} {b off : Nat} {vs : List Value} (h : cellsAt γ w b off vs) (n : Nat) : cellsAt γ w b (off + n) (vs.drop n) := by
  intro j v hj
  rw [List.getElem?_drop] at hj
  have := h _ v hj
  rwa [← Nat.add_assoc] at this

/-! ### What is held from one moment to a later one -/

def OwnStep : Own → Own → Prop
  | .free, _ => True
  | .dead, q => q = .dead
  | .full m, q => q = .full m ∨ q = .dead ∨ ∃ b cap n s, q = .row b cap n s ∧ m < n
  | .row b cap n s, q => q = .row b cap n s ∨ q = .dead ∨ ∃ b' cap' n' s', q = .row b' cap' n' s' ∧ n < n'

theorem OwnStep.refl (a : Own) : OwnStep a a := by cases a <;> simp [OwnStep]

theorem OwnStep.trans {a b c : Own} (h : OwnStep a b) (k : OwnStep b c) : OwnStep a c := by
  cases a with
  | free => trivial
  | dead => simp only [OwnStep] at h; subst h; exact k
  | full m =>
    simp only [OwnStep] at h
    rcases h with rfl | rfl | ⟨b', cap, n, s, rfl, hn⟩
    · exact k
    · simp only [OwnStep] at k; subst k; simp [OwnStep]
    · simp only [OwnStep] at k
      rcases k with rfl | rfl | ⟨_, _, n', _, rfl, hn'⟩
      · exact .inr (.inr ⟨_, _, _, _, rfl, hn⟩)
      · exact .inr (.inl rfl)
      · exact .inr (.inr ⟨_, _, _, _, rfl, by omega⟩)
  | row b0 cap0 n0 s0 =>
    simp only [OwnStep] at h
    rcases h with rfl | rfl | ⟨b', cap, n, s, rfl, hn⟩
    · exact k
    · simp only [OwnStep] at k; subst k; simp [OwnStep]
    · simp only [OwnStep] at k
      rcases k with rfl | rfl | ⟨_, _, n', _, rfl, hn'⟩
      · exact .inr (.inr ⟨_, _, _, _, rfl, hn⟩)
      · exact .inr (.inl rfl)
      · exact .inr (.inr ⟨_, _, _, _, rfl, by omega⟩)

structure Ext (l : Bool) (γ : Gh) (w : World) (γ' : Gh) (w' : World) : Prop where
  imm : ∀ b o, γ.imm b o → γ'.imm b o ∧ w'.cell? ⟨b, o, none⟩ = w.cell? ⟨b, o, none⟩
  obj : ∀ i b, (l = true ∨ i.isOut = true) → γ.obj i = some b → γ'.obj i = some b
  own : ∀ p, OwnStep (γ.own p) (γ'.own p)

theorem Ext.refl (l : Bool) (γ : Gh) (w : World) : Ext l γ w γ w := ⟨fun _ _ h => ⟨h, rfl⟩, fun _ _ _ h => h, fun p => OwnStep.refl _⟩

theorem Ext.trans {l : Bool} {γ γ1 γ2 : Gh} {w w1 w2 : World} (h : Ext l γ w γ1 w1) (k : Ext l γ1 w1 γ2 w2) : Ext l γ w γ2 w2 :=
  ⟨fun b o hi => ⟨(k.imm b o (h.imm b o hi).1).1, ((k.imm b o (h.imm b o hi).1).2).trans (h.imm b o hi).2⟩, fun i b hl hi => k.obj i b hl (h.obj i b hl hi), fun p => (h.own p).trans (k.own p)⟩

theorem Ext.weak {l : Bool} {γ γ' : Gh} {w w' : World} (h : Ext l γ w γ' w') : Ext false γ w γ' w' :=
  ⟨h.imm, fun i b hl hi => h.obj i b (hl.elim (fun e => by cases e) .inr) hi, h.own⟩

theorem Ext.cellsAt {l : Bool} {γ γ' : Gh} {w w' : World} (h : Ext l γ w γ' w') {b off : Nat} {vs : List Value} (hc : cellsAt γ w b off vs) : AL.cellsAt γ' w' b off vs :=
  fun j v hj => ⟨(h.imm _ _ (hc j v hj).1).1, ((h.imm _ _ (hc j v hj).1).2).trans (hc j v hj).2⟩

theorem OwnStep.isRow {a b : Own} (hp : OwnStep a b) {n b0 off cap s : Nat} (ht : a.isRow n b0 off cap s) : b.isRow n b0 off cap s := by
  cases a with
  | free => exact ht.elim
  | full m =>
    simp only [OwnStep] at hp
    rcases hp with rfl | rfl | ⟨b2, cap2, n2, s2, rfl, hn⟩
    · exact ht
    · trivial
    · simp only [Own.isRow] at ht ⊢
      exact ⟨by omega, fun e => by omega⟩
  | dead => simp only [OwnStep] at hp; subst hp; trivial
  | row b' cap' n' s' =>
    simp only [OwnStep] at hp
    rcases hp with rfl | rfl | ⟨b2, cap2, n2, s2, rfl, hn⟩
    · exact ht
    · trivial
    · simp only [Own.isRow] at ht ⊢
      exact ⟨by omega, fun e => by omega⟩

theorem OwnStep.isNil {a b : Own} (hp : OwnStep a b) (ht : a.isNil) : b.isNil := by
  cases a with
  | free => exact ht.elim
  | full m =>
    simp only [OwnStep] at hp
    rcases hp with rfl | rfl | ⟨b2, cap2, n2, s2, rfl, hn⟩
    · trivial
    · trivial
    · simp only [Own.isNil]; omega
  | dead => simp only [OwnStep] at hp; subst hp; trivial
  | row b' cap' n' s' =>
    simp only [OwnStep] at hp
    rcases hp with rfl | rfl | ⟨b2, cap2, n2, s2, rfl, hn⟩
    · exact ht
    · trivial
    · simp only [Own.isNil] at ht ⊢
      omega

theorem Ext.tagRow {l : Bool} {γ γ' : Gh} {w w' : World} (h : Ext l γ w γ' w') {t : Tag} {n b off cap s : Nat} (ht : tagRow γ t n b off cap s) : AL.tagRow γ' t n b off cap s := by
  cases t with
  | own p => exact (h.own p).isRow ht
  | _ => exact ht

theorem Ext.tagNil {l : Bool} {γ γ' : Gh} {w w' : World} (h : Ext l γ w γ' w') {t : Tag} (ht : tagNil γ t) : AL.tagNil γ' t := by
  cases t with
  | own p => exact (h.own p).isNil ht
  | _ => exact ht

mutual
theorem Rep.mono {γ γ' : Gh} {w w' : World} : ∀ {l : Bool} {a : AVal} {v : Value}, Ext l γ w γ' w' → Rep γ w l a v → Rep γ' w' l a v
  | _, _, _, _, .undef l v => .undef l v
  | _, _, _, _, .bool l b => .bool l b
  | _, _, _, _, .int l k n => .int l k n
  | _, _, _, _, .str l s => .str l s
  | _, _, _, e, .agg h h1 => .agg (RepL.mono e h) h1
  | _, _, _, e, .tuple h => .tuple (RepL.mono e h)
  | _, _, _, e, .sliceRow h hs hc h1 hn hm ht => .sliceRow (RepL.mono e.weak h) hs (e.cellsAt hc) h1 hn hm (e.tagRow ht)
  | _, _, _, e, .sliceNil ht ho => .sliceNil (e.tagNil ht) ho
  | _, _, _, e, .arr hb ho hn h0 => .arr (e.obj _ _ ho hb) ho hn h0
  | _, _, _, e, .mrow hc hn hb => .mrow (e.obj _ _ (.inr rfl) hc) hn fun h => by obtain ⟨b, h1, h2⟩ := hb h; exact ⟨b, h1, e.obj _ _ (.inr rfl) h2⟩
  | _, _, _, e, .iptr h h1 hc => .iptr (RepL.mono e.weak h) h1 (e.cellsAt hc)
  | _, _, _, e, .ptr hb ho => .ptr (e.obj _ _ ho hb) ho
  | _, _, _, _, .nilptr l => .nilptr l
  | _, _, _, e, .map hb ho => .map (e.obj _ _ ho hb) ho
  | _, _, _, _, .nilmap l => .nilmap l
  | _, _, _, e, .func hf hc => .func (RepL.mono e hf) (RepL.mono e hc)
  | _, _, _, _, .nilfunc l => .nilfunc l
  | _, _, _, e, .iface h => .iface (Rep.mono e h)
  | _, _, _, _, .nilIface l => .nilIface l
theorem RepL.mono {γ γ' : Gh} {w w' : World} : ∀ {l : Bool} {as : List AVal} {vs : List Value}, Ext l γ w γ' w' → RepL γ w l as vs → RepL γ' w' l as vs
  | _, _, _, _, .nil l => .nil l
  | _, _, _, e, .cons h t => .cons (Rep.mono e h) (RepL.mono e t)
end

/-! ### Values that lead to no object of the activation's own -/

mutual
def AVal.noLoc : AVal → Bool
  | .agg cs => noLocL cs
  | .tuple vs => noLocL vs
  | .arr o _ _ _ => o.isOut
  | .ptr o _ => o.isOut
  | .map o => o.isOut
  | .func _ f c => noLocL f && noLocL c
  | .iface _ v => v.noLoc
  | _ => true
def noLocL : List AVal → Bool
  | [] => true
  | a :: as => a.noLoc && noLocL as
end

mutual
theorem Rep.noLoc {γ : Gh} {w : World} : ∀ {l : Bool} {a : AVal} {v : Value}, Rep γ w l a v → a.noLoc = true → Rep γ w false a v
  | _, _, _, .undef l v, _ => .undef _ v
  | _, _, _, .bool l b, _ => .bool _ b
  | _, _, _, .int l k n, _ => .int _ k n
  | _, _, _, .str l s, _ => .str _ s
  | _, _, _, .agg h h1, e => .agg (RepL.noLoc h (by simpa [AVal.noLoc] using e)) h1
  | _, _, _, .tuple h, e => .tuple (RepL.noLoc h (by simpa [AVal.noLoc] using e))
  | _, _, _, .sliceRow h hs hc h1 hn hm ht, _ => .sliceRow h hs hc h1 hn hm ht
  | _, _, _, .sliceNil ht ho, _ => .sliceNil ht ho
  | _, _, _, .arr hb ho hn h0, e => .arr hb (.inr (by simpa [AVal.noLoc] using e)) hn h0
  | _, _, _, .mrow hc hn hb, _ => .mrow hc hn hb
  | _, _, _, .iptr h h1 hc, _ => .iptr h h1 hc
  | _, _, _, .ptr hb ho, e => .ptr hb (.inr (by simpa [AVal.noLoc] using e))
  | _, _, _, .nilptr l, _ => .nilptr _
  | _, _, _, .map hb ho, e => .map hb (.inr (by simpa [AVal.noLoc] using e))
  | _, _, _, .nilmap l, _ => .nilmap _
  | _, _, _, .func hf hc, e => by
    simp only [AVal.noLoc, Bool.and_eq_true] at e
    exact .func (RepL.noLoc hf e.1) (RepL.noLoc hc e.2)
  | _, _, _, .nilfunc l, _ => .nilfunc _
  | _, _, _, .iface h, e => .iface (Rep.noLoc h (by simpa [AVal.noLoc] using e))
  | _, _, _, .nilIface l, _ => .nilIface _
theorem RepL.noLoc {γ : Gh} {w : World} : ∀ {l : Bool} {as : List AVal} {vs : List Value}, RepL γ w l as vs → noLocL as = true → RepL γ w false as vs
  | _, _, _, .nil _, _ => .nil _
  | _, _, _, .cons h t, e => by
    simp only [noLocL, Bool.and_eq_true] at e
    exact .cons (Rep.noLoc h e.1) (RepL.noLoc t e.2)
end

mutual
theorem Rep.weaken {γ : Gh} {w : World} : ∀ {a : AVal} {v : Value}, Rep γ w false a v → ∀ l : Bool, Rep γ w l a v
  | _, _, .undef _ v, l => .undef l v
  | _, _, .bool _ b, l => .bool l b
  | _, _, .int _ k n, l => .int l k n
  | _, _, .str _ s, l => .str l s
  | _, _, .agg h h1, l => .agg (RepL.weaken h l) h1
  | _, _, .tuple h, l => .tuple (RepL.weaken h l)
  | _, _, .sliceRow h hs hc h1 hn hm ht, l => .sliceRow h hs hc h1 hn hm ht
  | _, _, .sliceNil ht ho, l => .sliceNil ht ho
  | _, _, .arr hb ho hn h0, l => .arr hb (ho.elim (fun e => by cases e) .inr) hn h0
  | _, _, .mrow hc hn hb, l => .mrow hc hn hb
  | _, _, .iptr h h1 hc, l => .iptr h h1 hc
  | _, _, .ptr hb ho, l => .ptr hb (ho.elim (fun e => by cases e) .inr)
  | _, _, .nilptr _, l => .nilptr l
  | _, _, .map hb ho, l => .map hb (ho.elim (fun e => by cases e) .inr)
  | _, _, .nilmap _, l => .nilmap l
  | _, _, .func hf hc, l => .func (RepL.weaken hf l) (RepL.weaken hc l)
  | _, _, .nilfunc _, l => .nilfunc l
  | _, _, .iface h, l => .iface (Rep.weaken h l)
  | _, _, .nilIface _, l => .nilIface l
theorem RepL.weaken {γ : Gh} {w : World} : ∀ {as : List AVal} {vs : List Value}, RepL γ w false as vs → ∀ l : Bool, RepL γ w l as vs
  | _, _, .nil _, l => .nil l
  | _, _, .cons h t, l => .cons (Rep.weaken h l) (RepL.weaken t l)
end

/-- A value that does not lead to the activation's object k (what it leads to through a slice's cells is not its own by itself). -/
def Oid.isLoc (k : Nat) : Oid → Bool
  | .loc j => j == k
  | .out _ => false

mutual
def AVal.noRef (k : Nat) : AVal → Bool
  | .agg cs => noRefL k cs
  | .tuple vs => noRefL k vs
  | .arr o _ _ _ => !o.isLoc k
  | .ptr o _ => !o.isLoc k
  | .map o => !o.isLoc k
  | .func _ f c => noRefL k f && noRefL k c
  | .iface _ v => v.noRef k
  | _ => true
def noRefL (k : Nat) : List AVal → Bool
  | [] => true
  | a :: as => a.noRef k && noRefL k as
end

/-- The ghost without an object. -/
def Gh.setObj (γ : Gh) (i : Oid) (x : Option Nat) : Gh := { γ with obj := fun j => if j = i then x else γ.obj j }

mutual
theorem Rep.setLocF' {γ : Gh} {w : World} {k : Nat} {x : Option Nat} : ∀ {l : Bool} {a : AVal} {v : Value}, Rep γ w l a v → l = false → Rep (γ.setObj (.loc k) x) w l a v
  | _, _, _, .undef l v, _ => .undef _ v
  | _, _, _, .bool l b, _ => .bool _ b
  | _, _, _, .int l k n, _ => .int _ k n
  | _, _, _, .str l s, _ => .str _ s
  | _, _, _, .agg h h1, e => .agg (RepL.setLocF' h e) h1
  | _, _, _, .tuple h, e => .tuple (RepL.setLocF' h e)
  | _, _, _, .sliceRow h hs hc h1 hn hm ht, _ => .sliceRow (RepL.setLocF' h rfl) hs hc h1 hn hm ht
  | _, _, _, .sliceNil ht ho, _ => .sliceNil ht ho
  | _, _, _, .arr (o := o) hb ho hn h0, e => .arr (by
      have : o ≠ .loc k := by rintro rfl; rw [e] at ho; simp [Oid.isOut] at ho
      simpa [Gh.setObj, this] using hb) ho hn h0
  | _, _, _, .mrow hc hn hb, _ => .mrow (by simpa [Gh.setObj] using hc) hn fun h => by simpa [Gh.setObj] using hb h
  | _, _, _, .iptr h h1 hc, _ => .iptr (RepL.setLocF' h rfl) h1 hc
  | _, _, _, .ptr (o := o) hb ho, e => .ptr (by
      have : o ≠ .loc k := by rintro rfl; rw [e] at ho; simp [Oid.isOut] at ho
      simpa [Gh.setObj, this] using hb) ho
  | _, _, _, .nilptr l, _ => .nilptr _
  | _, _, _, .map (o := o) hb ho, e => .map (by
      have : o ≠ .loc k := by rintro rfl; rw [e] at ho; simp [Oid.isOut] at ho
      simpa [Gh.setObj, this] using hb) ho
  | _, _, _, .nilmap l, _ => .nilmap _
  | _, _, _, .func hf hc, e => .func (RepL.setLocF' hf e) (RepL.setLocF' hc e)
  | _, _, _, .nilfunc l, _ => .nilfunc _
  | _, _, _, .iface h, e => .iface (Rep.setLocF' h e)
  | _, _, _, .nilIface l, _ => .nilIface _
theorem RepL.setLocF' {γ : Gh} {w : World} {k : Nat} {x : Option Nat} : ∀ {l : Bool} {as : List AVal} {vs : List Value}, RepL γ w l as vs → l = false → RepL (γ.setObj (.loc k) x) w l as vs
  | _, _, _, .nil _, _ => .nil _
  | _, _, _, .cons h t, e => .cons (Rep.setLocF' h e) (RepL.setLocF' t e)
end

mutual
theorem Rep.setLoc {γ : Gh} {w : World} {k : Nat} {x : Option Nat} : ∀ {l : Bool} {a : AVal} {v : Value}, Rep γ w l a v → a.noRef k = true → Rep (γ.setObj (.loc k) x) w l a v
  | _, _, _, .undef l v, _ => .undef _ v
  | _, _, _, .bool l b, _ => .bool _ b
  | _, _, _, .int l k n, _ => .int _ k n
  | _, _, _, .str l s, _ => .str _ s
  | _, _, _, .agg h h1, e => .agg (RepL.setLoc h (by simpa [AVal.noRef] using e)) h1
  | _, _, _, .tuple h, e => .tuple (RepL.setLoc h (by simpa [AVal.noRef] using e))
  | _, _, _, .sliceRow h hs hc h1 hn hm ht, _ => .sliceRow (RepL.setLocF' h rfl) hs hc h1 hn hm ht
  | _, _, _, .sliceNil ht ho, _ => .sliceNil ht ho
  | _, _, _, .arr (o := o) hb ho hn h0, e => .arr (by
      have : o ≠ .loc k := by rintro rfl; simp [AVal.noRef, Oid.isLoc] at e
      simpa [Gh.setObj, this] using hb) ho hn h0
  | _, _, _, .mrow hc hn hb, _ => .mrow (by simpa [Gh.setObj] using hc) hn fun h => by simpa [Gh.setObj] using hb h
  | _, _, _, .iptr h h1 hc, _ => .iptr (RepL.setLocF' h rfl) h1 hc
  | _, _, _, .ptr (o := o) hb ho, e => .ptr (by
      have : o ≠ .loc k := by rintro rfl; simp [AVal.noRef, Oid.isLoc] at e
      simpa [Gh.setObj, this] using hb) ho
  | _, _, _, .nilptr l, _ => .nilptr _
  | _, _, _, .map (o := o) hb ho, e => .map (by
      have : o ≠ .loc k := by rintro rfl; simp [AVal.noRef, Oid.isLoc] at e
      simpa [Gh.setObj, this] using hb) ho
  | _, _, _, .nilmap l, _ => .nilmap _
  | _, _, _, .func hf hc, e => by
    simp only [AVal.noRef, Bool.and_eq_true] at e
    exact .func (RepL.setLoc hf e.1) (RepL.setLoc hc e.2)
  | _, _, _, .nilfunc l, _ => .nilfunc _
  | _, _, _, .iface h, e => .iface (Rep.setLoc h (by simpa [AVal.noRef] using e))
  | _, _, _, .nilIface l, _ => .nilIface _
theorem RepL.setLoc {γ : Gh} {w : World} {k : Nat} {x : Option Nat} : ∀ {l : Bool} {as : List AVal} {vs : List Value}, RepL γ w l as vs → noRefL k as = true → RepL (γ.setObj (.loc k) x) w l as vs
  | _, _, _, .nil _, _ => .nil _
  | _, _, _, .cons h t, e => by
    simp only [noRefL, Bool.and_eq_true] at e
    exact .cons (Rep.setLoc h e.1) (RepL.setLoc t e.2)
end

end Go.AL
