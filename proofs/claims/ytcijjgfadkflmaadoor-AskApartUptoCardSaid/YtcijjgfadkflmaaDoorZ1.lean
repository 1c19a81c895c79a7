/-
  The texts A1, A0, A2, A3, A4, A5, A6, A7 of this seat, one behind the other.
-/
import Derived.Orders
import Derived.Laws.World
import Derived.Laws.Sem
import Derived.Laws.AppendOwn
import Derived.Below
import GoSem.Claim
import Derived.Lib.DecodeN
import Derived.WalkKit
import Derived.Laws.Cover4
import Derived.Deep.AppendSrc

section
set_option linter.unusedSimpArgs false
set_option linter.unusedVariables false
namespace Go.AL

inductive Tag where
  | nil | ro | full | own (p : Nat)

inductive Oid where
  | loc (k : Nat) | out (n : Nat)
  deriving DecidableEq

def Oid.isOut : Oid → Bool
  | .loc _ => false
  | .out _ => true

inductive AVal where
  | undef
  | bool (b : Bool)
  | int (k : IntKind) (n : Int)
  | str (s : List UInt8)
  | agg (cs : List AVal)
  | tuple (vs : List AVal)
  | slice (es : List AVal) (s : Nat) (t : Tag)
  | arr (o : Oid) (off len cap : Nat)
  | mrow (k len : Nat)
  | iptr (cs : List AVal)
  | ptr (o : Oid) (off : Nat)
  | nilptr
  | map (o : Oid)
  | nilmap
  | func (fn : Fn) (first cap : List AVal)
  | nilfunc
  | iface (t : TypeId) (v : AVal)
  | nilIface

def Tag.isNil : Tag → Bool
  | .nil => true
  | _ => false

def AVal.cells : AVal → List AVal
  | .agg cs => cs
  | v => [v]

def flat (es : List AVal) : List AVal := es.flatMap AVal.cells

inductive Own where
  | free | dead | full (n : Nat) | row (b cap n s : Nat)

structure Gh where
  imm : Nat → Nat → Prop
  obj : Oid → Option Nat
  own : Nat → Own

def cellsAt (γ : Gh) (w : World) (b off : Nat) (vs : List Value) : Prop :=
  ∀ j v, vs[j]? = some v → γ.imm b (off + j) ∧ w.cell? ⟨b, off + j, none⟩ = some v

def Own.isRow : Own → (n b off cap s : Nat) → Prop
  | .free, _, _, _, _, _ => False
  | .full n', n, _, _, cap, _ => n ≤ n' ∧ (n = n' → cap = n)
  | .dead, _, _, _, _, _ => True
  | .row b' cap' n' s', n, b, off, cap, s => n ≤ n' ∧ (n = n' → b = b' ∧ off = 0 ∧ cap = cap' ∧ s = s')

def Own.isNil : Own → Prop
  | .free => False
  | .full _ => True
  | .dead => True
  | .row _ _ n _ => 0 < n

def tagRow (γ : Gh) : Tag → (n b off cap s : Nat) → Prop
  | .nil, _, _, _, _, _ => False
  | .ro, _, _, _, _, _ => True
  | .full, n, _, _, cap, _ => cap = n
  | .own p, n, b, off, cap, s => (γ.own p).isRow n b off cap s

def tagNil (γ : Gh) : Tag → Prop
  | .own p => (γ.own p).isNil
  | _ => True

mutual
inductive Rep (γ : Gh) (w : World) : Bool → AVal → Value → Prop
  | undef (l : Bool) (v : Value) : Rep γ w l .undef v
  | bool (l : Bool) (b : Bool) : Rep γ w l (.bool b) (.bool b)
  | int (l : Bool) (k : IntKind) (n : Int) : Rep γ w l (.int k n) (.int k n)
  | str (l : Bool) (s : List UInt8) : Rep γ w l (.str s) (.string ⟨s.toArray⟩)
  | agg {l : Bool} {cs : List AVal} {vs : List Value} (h : RepL γ w l cs vs) (h1 : ∀ v ∈ vs, v.oneCell' = true) : Rep γ w l (.agg cs) (.agg vs.toArray)
  | tuple {l : Bool} {cs : List AVal} {vs : List Value} (h : RepL γ w l cs vs) : Rep γ w l (.tuple cs) (.tuple vs.toArray)
  | sliceRow {l : Bool} {es : List AVal} {s : Nat} {tag : Tag} {b off cap : Nat} {vs : List Value} (h : RepL γ w false (flat es) vs) (hs : ∀ e ∈ es, e.cells.length = s)
      (hc : cellsAt γ w b off vs) (h1 : ∀ v ∈ vs, v.oneCell' = true) (hn : es.length ≤ cap) (hm : cap ≤ maxLen) (ht : tagRow γ tag es.length b off cap s) : Rep γ w l (.slice es s tag) (.slice (some ⟨b, off, none⟩) es.length cap)
  | sliceNil {l : Bool} {s : Nat} {tag : Tag} {o : Option Addr} (ht : tagNil γ tag) (ho : o = none ∨ tag.isNil = false) : Rep γ w l (.slice [] s tag) (.slice o 0 0)
  | arr {l : Bool} {o : Oid} {off off' len cap b : Nat} (hb : γ.obj o = some b) (ho : l = true ∨ o.isOut = true) (hn : len ≤ cap) (h0 : 0 < cap → off' = off) : Rep γ w l (.arr o off len cap) (.slice (some ⟨b, off', none⟩) len cap)
  | mrow {l : Bool} {k len cap : Nat} {a : Option Addr} (hc : γ.obj (.out (k + 1)) = some cap) (hn : len ≤ cap) (hb : 0 < cap → ∃ b, a = some ⟨b, 0, none⟩ ∧ γ.obj (.out k) = some b) : Rep γ w l (.mrow k len) (.slice a len cap)
  | iptr {l : Bool} {cs : List AVal} {vs : List Value} {b off : Nat} (h : RepL γ w false cs vs) (h1 : ∀ v ∈ vs, v.oneCell' = true) (hc : cellsAt γ w b off vs) : Rep γ w l (.iptr cs) (.pointer (some ⟨b, off, none⟩))
  | ptr {l : Bool} {o : Oid} {off b : Nat} (hb : γ.obj o = some b) (ho : l = true ∨ o.isOut = true) : Rep γ w l (.ptr o off) (.pointer (some ⟨b, off, none⟩))
  | nilptr (l : Bool) : Rep γ w l .nilptr (.pointer none)
  | map {l : Bool} {o : Oid} {b : Nat} (hb : γ.obj o = some b) (ho : l = true ∨ o.isOut = true) : Rep γ w l (.map o) (.map (some b))
  | nilmap (l : Bool) : Rep γ w l .nilmap (.map none)
  | func {l : Bool} {fn : Fn} {f c : List AVal} {fs cs : List Value} (hf : RepL γ w l f fs) (hc : RepL γ w l c cs) : Rep γ w l (.func fn f c) (.func fn fs.toArray cs.toArray)
  | nilfunc (l : Bool) : Rep γ w l .nilfunc .nilFunc
  | iface {l : Bool} {t : TypeId} {a : AVal} {v : Value} (h : Rep γ w l a v) : Rep γ w l (.iface t a) (.iface t v)
  | nilIface (l : Bool) : Rep γ w l .nilIface .nilIface
inductive RepL (γ : Gh) (w : World) : Bool → List AVal → List Value → Prop
  | nil (l : Bool) : RepL γ w l [] []
  | cons {l : Bool} {a : AVal} {v : Value} {as : List AVal} {vs : List Value} (h : Rep γ w l a v) (t : RepL γ w l as vs) : RepL γ w l (a :: as) (v :: vs)
end

/-! ### Lists of values -/

theorem RepL.length {γ : Gh} {w : World} {l : Bool} : ∀ {as : List AVal} {vs : List Value}, RepL γ w l as vs → as.length = vs.length
  | _, _, .nil _ => rfl
  | _, _, .cons _ t => by simp [RepL.length t]

theorem RepL.append {γ : Gh} {w : World} {l : Bool} {bs : List AVal} {us : List Value} (h2 : RepL γ w l bs us) : ∀ {as : List AVal} {vs : List Value}, RepL γ w l as vs → RepL γ w l (as ++ bs) (vs ++ us)
  | _, _, .nil _ => h2
  | _, _, .cons h t => .cons h (RepL.append h2 t)

theorem RepL.split {γ : Gh} {w : World} {l : Bool} : ∀ {as : List AVal} {bs : List AVal} {vs : List Value}, RepL γ w l (as ++ bs) vs → RepL γ w l as (vs.take as.length) ∧ RepL γ w l bs (vs.drop as.length)
  | [], _, _, h => by simpa using ⟨RepL.nil l, h⟩
  | a :: as, bs, _, .cons h t => by
    have := RepL.split (as := as) (bs := bs) t
    exact ⟨.cons h this.1, this.2⟩

theorem RepL.take {γ : Gh} {w : World} {l : Bool} (n : Nat) : ∀ {as : List AVal} {vs : List Value}, RepL γ w l as vs → RepL γ w l (as.take n) (vs.take n) := by
  induction n with
  | zero => intros; exact .nil _
  | succ n ih =>
    intro as vs h
    cases h with
    | nil => exact .nil _
    | cons h t => exact .cons h (ih t)

theorem RepL.drop {γ : Gh} {w : World} {l : Bool} (n : Nat) : ∀ {as : List AVal} {vs : List Value}, RepL γ w l as vs → RepL γ w l (as.drop n) (vs.drop n) := by
  induction n with
  | zero => intro as vs h; exact h
  | succ n ih =>
    intro as vs h
    cases h with
    | nil => exact .nil _
    | cons h t => exact ih t

theorem RepL.get {γ : Gh} {w : World} {l : Bool} : ∀ {as : List AVal} {vs : List Value}, RepL γ w l as vs → ∀ {i : Nat} {a : AVal}, as[i]? = some a → ∃ v, vs[i]? = some v ∧ Rep γ w l a v
  | _, _, .cons (v := v) h t, 0, a, e => ⟨v, rfl, by cases e; exact h⟩
  | _, _, .cons h t, i + 1, a, e => RepL.get t e

theorem RepL.set {γ : Gh} {w : World} {l : Bool} {x : AVal} {u : Value} (hx : Rep γ w l x u) : ∀ {as : List AVal} {vs : List Value}, RepL γ w l as vs → ∀ {i : Nat}, RepL γ w l (as.set i x) (vs.set i u)
  | _, _, .nil _, i => by cases i <;> exact .nil _
  | _, _, .cons h t, 0 => .cons hx t
  | _, _, .cons h t, i + 1 => .cons h (RepL.set hx t)

theorem cellsAt.append {γ : Gh} {w : World} {b off : Nat} {us vs : List Value} (h1 : cellsAt γ w b off us) (h2 : cellsAt γ w b (off + us.length) vs) : cellsAt γ w b off (us ++ vs) := by
  intro j v hj
  by_cases hlt : j < us.length
  · exact h1 j v (by rwa [List.getElem?_append_left hlt] at hj)
  · rw [List.getElem?_append_right (by omega)] at hj
    have := h2 _ v hj
    rwa [show off + us.length + (j - us.length) = off + j by omega] at this

theorem cellsAt.take {γ : Gh} {w : World} {b off : Nat} {vs : List Value} (h : cellsAt γ w b off vs) (n : Nat) : cellsAt γ w b off (vs.take n) := by
  intro j v hj
  rw [List.getElem?_take] at hj
  split at hj
  · exact h j v hj
  · cases hj

theorem cellsAt.drop {γ : Gh} {w : World} {b off : Nat} {vs : List Value} (h : cellsAt γ w b off vs) (n : Nat) : cellsAt γ w b (off + n) (vs.drop n) := by
  intro j v hj
  rw [List.getElem?_drop] at hj
  have := h _ v hj
  rwa [← Nat.add_assoc] at this

/-! ### What is held from one moment to a later one -/

def OwnStep : Own → Own → Prop
  | .free, _ => True
  | .dead, q => q = .dead
  | .full m, q => q = .full m ∨ q = .dead ∨ ∃ b cap n s, q = .row b cap n s ∧ m < n
  | .row b cap n s, q => q = .row b cap n s ∨ q = .dead ∨ ∃ b' cap' n' s', q = .row b' cap' n' s' ∧ n < n'

theorem OwnStep.refl (a : Own) : OwnStep a a := by cases a <;> simp [OwnStep]

theorem OwnStep.trans {a b c : Own} (h : OwnStep a b) (k : OwnStep b c) : OwnStep a c := by
  cases a with
  | free => trivial
  | dead => simp only [OwnStep] at h; subst h; exact k
  | full m =>
    simp only [OwnStep] at h
    rcases h with rfl | rfl | ⟨b', cap, n, s, rfl, hn⟩
    · exact k
    · simp only [OwnStep] at k; subst k; simp [OwnStep]
    · simp only [OwnStep] at k
      rcases k with rfl | rfl | ⟨_, _, n', _, rfl, hn'⟩
      · exact .inr (.inr ⟨_, _, _, _, rfl, hn⟩)
      · exact .inr (.inl rfl)
      · exact .inr (.inr ⟨_, _, _, _, rfl, by omega⟩)
  | row b0 cap0 n0 s0 =>
    simp only [OwnStep] at h
    rcases h with rfl | rfl | ⟨b', cap, n, s, rfl, hn⟩
    · exact k
    · simp only [OwnStep] at k; subst k; simp [OwnStep]
    · simp only [OwnStep] at k
      rcases k with rfl | rfl | ⟨_, _, n', _, rfl, hn'⟩
      · exact .inr (.inr ⟨_, _, _, _, rfl, hn⟩)
      · exact .inr (.inl rfl)
      · exact .inr (.inr ⟨_, _, _, _, rfl, by omega⟩)

structure Ext (l : Bool) (γ : Gh) (w : World) (γ' : Gh) (w' : World) : Prop where
  imm : ∀ b o, γ.imm b o → γ'.imm b o ∧ w'.cell? ⟨b, o, none⟩ = w.cell? ⟨b, o, none⟩
  obj : ∀ i b, (l = true ∨ i.isOut = true) → γ.obj i = some b → γ'.obj i = some b
  own : ∀ p, OwnStep (γ.own p) (γ'.own p)

theorem Ext.refl (l : Bool) (γ : Gh) (w : World) : Ext l γ w γ w := ⟨fun _ _ h => ⟨h, rfl⟩, fun _ _ _ h => h, fun p => OwnStep.refl _⟩

theorem Ext.trans {l : Bool} {γ γ1 γ2 : Gh} {w w1 w2 : World} (h : Ext l γ w γ1 w1) (k : Ext l γ1 w1 γ2 w2) : Ext l γ w γ2 w2 :=
  ⟨fun b o hi => ⟨(k.imm b o (h.imm b o hi).1).1, ((k.imm b o (h.imm b o hi).1).2).trans (h.imm b o hi).2⟩, fun i b hl hi => k.obj i b hl (h.obj i b hl hi), fun p => (h.own p).trans (k.own p)⟩

theorem Ext.weak {l : Bool} {γ γ' : Gh} {w w' : World} (h : Ext l γ w γ' w') : Ext false γ w γ' w' :=
  ⟨h.imm, fun i b hl hi => h.obj i b (hl.elim (fun e => by cases e) .inr) hi, h.own⟩

theorem Ext.cellsAt {l : Bool} {γ γ' : Gh} {w w' : World} (h : Ext l γ w γ' w') {b off : Nat} {vs : List Value} (hc : cellsAt γ w b off vs) : AL.cellsAt γ' w' b off vs :=
  fun j v hj => ⟨(h.imm _ _ (hc j v hj).1).1, ((h.imm _ _ (hc j v hj).1).2).trans (hc j v hj).2⟩

theorem OwnStep.isRow {a b : Own} (hp : OwnStep a b) {n b0 off cap s : Nat} (ht : a.isRow n b0 off cap s) : b.isRow n b0 off cap s := by
  cases a with
  | free => exact ht.elim
  | full m =>
    simp only [OwnStep] at hp
    rcases hp with rfl | rfl | ⟨b2, cap2, n2, s2, rfl, hn⟩
    · exact ht
    · trivial
    · simp only [Own.isRow] at ht ⊢
      exact ⟨by omega, fun e => by omega⟩
  | dead => simp only [OwnStep] at hp; subst hp; trivial
  | row b' cap' n' s' =>
    simp only [OwnStep] at hp
    rcases hp with rfl | rfl | ⟨b2, cap2, n2, s2, rfl, hn⟩
    · exact ht
    · trivial
    · simp only [Own.isRow] at ht ⊢
      exact ⟨by omega, fun e => by omega⟩

theorem OwnStep.isNil {a b : Own} (hp : OwnStep a b) (ht : a.isNil) : b.isNil := by
  cases a with
  | free => exact ht.elim
  | full m =>
    simp only [OwnStep] at hp
    rcases hp with rfl | rfl | ⟨b2, cap2, n2, s2, rfl, hn⟩
    · trivial
    · trivial
    · simp only [Own.isNil]; omega
  | dead => simp only [OwnStep] at hp; subst hp; trivial
  | row b' cap' n' s' =>
    simp only [OwnStep] at hp
    rcases hp with rfl | rfl | ⟨b2, cap2, n2, s2, rfl, hn⟩
    · exact ht
    · trivial
    · simp only [Own.isNil] at ht ⊢
      omega

theorem Ext.tagRow {l : Bool} {γ γ' : Gh} {w w' : World} (h : Ext l γ w γ' w') {t : Tag} {n b off cap s : Nat} (ht : tagRow γ t n b off cap s) : AL.tagRow γ' t n b off cap s := by
  cases t with
  | own p => exact (h.own p).isRow ht
  | _ => exact ht

theorem Ext.tagNil {l : Bool} {γ γ' : Gh} {w w' : World} (h : Ext l γ w γ' w') {t : Tag} (ht : tagNil γ t) : AL.tagNil γ' t := by
  cases t with
  | own p => exact (h.own p).isNil ht
  | _ => exact ht

mutual
theorem Rep.mono {γ γ' : Gh} {w w' : World} : ∀ {l : Bool} {a : AVal} {v : Value}, Ext l γ w γ' w' → Rep γ w l a v → Rep γ' w' l a v
  | _, _, _, _, .undef l v => .undef l v
  | _, _, _, _, .bool l b => .bool l b
  | _, _, _, _, .int l k n => .int l k n
  | _, _, _, _, .str l s => .str l s
  | _, _, _, e, .agg h h1 => .agg (RepL.mono e h) h1
  | _, _, _, e, .tuple h => .tuple (RepL.mono e h)
  | _, _, _, e, .sliceRow h hs hc h1 hn hm ht => .sliceRow (RepL.mono e.weak h) hs (e.cellsAt hc) h1 hn hm (e.tagRow ht)
  | _, _, _, e, .sliceNil ht ho => .sliceNil (e.tagNil ht) ho
  | _, _, _, e, .arr hb ho hn h0 => .arr (e.obj _ _ ho hb) ho hn h0
  | _, _, _, e, .mrow hc hn hb => .mrow (e.obj _ _ (.inr rfl) hc) hn fun h => by obtain ⟨b, h1, h2⟩ := hb h; exact ⟨b, h1, e.obj _ _ (.inr rfl) h2⟩
  | _, _, _, e, .iptr h h1 hc => .iptr (RepL.mono e.weak h) h1 (e.cellsAt hc)
  | _, _, _, e, .ptr hb ho => .ptr (e.obj _ _ ho hb) ho
  | _, _, _, _, .nilptr l => .nilptr l
  | _, _, _, e, .map hb ho => .map (e.obj _ _ ho hb) ho
  | _, _, _, _, .nilmap l => .nilmap l
  | _, _, _, e, .func hf hc => .func (RepL.mono e hf) (RepL.mono e hc)
  | _, _, _, _, .nilfunc l => .nilfunc l
  | _, _, _, e, .iface h => .iface (Rep.mono e h)
  | _, _, _, _, .nilIface l => .nilIface l
theorem RepL.mono {γ γ' : Gh} {w w' : World} : ∀ {l : Bool} {as : List AVal} {vs : List Value}, Ext l γ w γ' w' → RepL γ w l as vs → RepL γ' w' l as vs
  | _, _, _, _, .nil l => .nil l
  | _, _, _, e, .cons h t => .cons (Rep.mono e h) (RepL.mono e t)
end

/-! ### Values that lead to no object of the activation's own -/

mutual
def AVal.noLoc : AVal → Bool
  | .agg cs => noLocL cs
  | .tuple vs => noLocL vs
  | .arr o _ _ _ => o.isOut
  | .ptr o _ => o.isOut
  | .map o => o.isOut
  | .func _ f c => noLocL f && noLocL c
  | .iface _ v => v.noLoc
  | _ => true
def noLocL : List AVal → Bool
  | [] => true
  | a :: as => a.noLoc && noLocL as
end

mutual
theorem Rep.noLoc {γ : Gh} {w : World} : ∀ {l : Bool} {a : AVal} {v : Value}, Rep γ w l a v → a.noLoc = true → Rep γ w false a v
  | _, _, _, .undef l v, _ => .undef _ v
  | _, _, _, .bool l b, _ => .bool _ b
  | _, _, _, .int l k n, _ => .int _ k n
  | _, _, _, .str l s, _ => .str _ s
  | _, _, _, .agg h h1, e => .agg (RepL.noLoc h (by simpa [AVal.noLoc] using e)) h1
  | _, _, _, .tuple h, e => .tuple (RepL.noLoc h (by simpa [AVal.noLoc] using e))
  | _, _, _, .sliceRow h hs hc h1 hn hm ht, _ => .sliceRow h hs hc h1 hn hm ht
  | _, _, _, .sliceNil ht ho, _ => .sliceNil ht ho
  | _, _, _, .arr hb ho hn h0, e => .arr hb (.inr (by simpa [AVal.noLoc] using e)) hn h0
  | _, _, _, .mrow hc hn hb, _ => .mrow hc hn hb
  | _, _, _, .iptr h h1 hc, _ => .iptr h h1 hc
  | _, _, _, .ptr hb ho, e => .ptr hb (.inr (by simpa [AVal.noLoc] using e))
  | _, _, _, .nilptr l, _ => .nilptr _
  | _, _, _, .map hb ho, e => .map hb (.inr (by simpa [AVal.noLoc] using e))
  | _, _, _, .nilmap l, _ => .nilmap _
  | _, _, _, .func hf hc, e => by
    simp only [AVal.noLoc, Bool.and_eq_true] at e
    exact .func (RepL.noLoc hf e.1) (RepL.noLoc hc e.2)
  | _, _, _, .nilfunc l, _ => .nilfunc _
  | _, _, _, .iface h, e => .iface (Rep.noLoc h (by simpa [AVal.noLoc] using e))
  | _, _, _, .nilIface l, _ => .nilIface _
theorem RepL.noLoc {γ : Gh} {w : World} : ∀ {l : Bool} {as : List AVal} {vs : List Value}, RepL γ w l as vs → noLocL as = true → RepL γ w false as vs
  | _, _, _, .nil _, _ => .nil _
  | _, _, _, .cons h t, e => by
    simp only [noLocL, Bool.and_eq_true] at e
    exact .cons (Rep.noLoc h e.1) (RepL.noLoc t e.2)
end

mutual
theorem Rep.weaken {γ : Gh} {w : World} : ∀ {a : AVal} {v : Value}, Rep γ w false a v → ∀ l : Bool, Rep γ w l a v
  | _, _, .undef _ v, l => .undef l v
  | _, _, .bool _ b, l => .bool l b
  | _, _, .int _ k n, l => .int l k n
  | _, _, .str _ s, l => .str l s
  | _, _, .agg h h1, l => .agg (RepL.weaken h l) h1
  | _, _, .tuple h, l => .tuple (RepL.weaken h l)
  | _, _, .sliceRow h hs hc h1 hn hm ht, l => .sliceRow h hs hc h1 hn hm ht
  | _, _, .sliceNil ht ho, l => .sliceNil ht ho
  | _, _, .arr hb ho hn h0, l => .arr hb (ho.elim (fun e => by cases e) .inr) hn h0
  | _, _, .mrow hc hn hb, l => .mrow hc hn hb
  | _, _, .iptr h h1 hc, l => .iptr h h1 hc
  | _, _, .ptr hb ho, l => .ptr hb (ho.elim (fun e => by cases e) .inr)
  | _, _, .nilptr _, l => .nilptr l
  | _, _, .map hb ho, l => .map hb (ho.elim (fun e => by cases e) .inr)
  | _, _, .nilmap _, l => .nilmap l
  | _, _, .func hf hc, l => .func (RepL.weaken hf l) (RepL.weaken hc l)
  | _, _, .nilfunc _, l => .nilfunc l
  | _, _, .iface h, l => .iface (Rep.weaken h l)
  | _, _, .nilIface _, l => .nilIface l
theorem RepL.weaken {γ : Gh} {w : World} : ∀ {as : List AVal} {vs : List Value}, RepL γ w false as vs → ∀ l : Bool, RepL γ w l as vs
  | _, _, .nil _, l => .nil l
  | _, _, .cons h t, l => .cons (Rep.weaken h l) (RepL.weaken t l)
end

def Oid.isLoc (k : Nat) : Oid → Bool
  | .loc j => j == k
  | .out _ => false

mutual
def AVal.noRef (k : Nat) : AVal → Bool
  | .agg cs => noRefL k cs
  | .tuple vs => noRefL k vs
  | .arr o _ _ _ => !o.isLoc k
  | .ptr o _ => !o.isLoc k
  | .map o => !o.isLoc k
  | .func _ f c => noRefL k f && noRefL k c
  | .iface _ v => v.noRef k
  | _ => true
def noRefL (k : Nat) : List AVal → Bool
  | [] => true
  | a :: as => a.noRef k && noRefL k as
end

def Gh.setObj (γ : Gh) (i : Oid) (x : Option Nat) : Gh := { γ with obj := fun j => if j = i then x else γ.obj j }

mutual
theorem Rep.setLocF' {γ : Gh} {w : World} {k : Nat} {x : Option Nat} : ∀ {l : Bool} {a : AVal} {v : Value}, Rep γ w l a v → l = false → Rep (γ.setObj (.loc k) x) w l a v
  | _, _, _, .undef l v, _ => .undef _ v
  | _, _, _, .bool l b, _ => .bool _ b
  | _, _, _, .int l k n, _ => .int _ k n
  | _, _, _, .str l s, _ => .str _ s
  | _, _, _, .agg h h1, e => .agg (RepL.setLocF' h e) h1
  | _, _, _, .tuple h, e => .tuple (RepL.setLocF' h e)
  | _, _, _, .sliceRow h hs hc h1 hn hm ht, _ => .sliceRow (RepL.setLocF' h rfl) hs hc h1 hn hm ht
  | _, _, _, .sliceNil ht ho, _ => .sliceNil ht ho
  | _, _, _, .arr (o := o) hb ho hn h0, e => .arr (by
      have : o ≠ .loc k := by rintro rfl; rw [e] at ho; simp [Oid.isOut] at ho
      simpa [Gh.setObj, this] using hb) ho hn h0
  | _, _, _, .mrow hc hn hb, _ => .mrow (by simpa [Gh.setObj] using hc) hn fun h => by simpa [Gh.setObj] using hb h
  | _, _, _, .iptr h h1 hc, _ => .iptr (RepL.setLocF' h rfl) h1 hc
  | _, _, _, .ptr (o := o) hb ho, e => .ptr (by
      have : o ≠ .loc k := by rintro rfl; rw [e] at ho; simp [Oid.isOut] at ho
      simpa [Gh.setObj, this] using hb) ho
  | _, _, _, .nilptr l, _ => .nilptr _
  | _, _, _, .map (o := o) hb ho, e => .map (by
      have : o ≠ .loc k := by rintro rfl; rw [e] at ho; simp [Oid.isOut] at ho
      simpa [Gh.setObj, this] using hb) ho
  | _, _, _, .nilmap l, _ => .nilmap _
  | _, _, _, .func hf hc, e => .func (RepL.setLocF' hf e) (RepL.setLocF' hc e)
  | _, _, _, .nilfunc l, _ => .nilfunc _
  | _, _, _, .iface h, e => .iface (Rep.setLocF' h e)
  | _, _, _, .nilIface l, _ => .nilIface _
theorem RepL.setLocF' {γ : Gh} {w : World} {k : Nat} {x : Option Nat} : ∀ {l : Bool} {as : List AVal} {vs : List Value}, RepL γ w l as vs → l = false → RepL (γ.setObj (.loc k) x) w l as vs
  | _, _, _, .nil _, _ => .nil _
  | _, _, _, .cons h t, e => .cons (Rep.setLocF' h e) (RepL.setLocF' t e)
end

mutual
theorem Rep.setLoc {γ : Gh} {w : World} {k : Nat} {x : Option Nat} : ∀ {l : Bool} {a : AVal} {v : Value}, Rep γ w l a v → a.noRef k = true → Rep (γ.setObj (.loc k) x) w l a v
  | _, _, _, .undef l v, _ => .undef _ v
  | _, _, _, .bool l b, _ => .bool _ b
  | _, _, _, .int l k n, _ => .int _ k n
  | _, _, _, .str l s, _ => .str _ s
  | _, _, _, .agg h h1, e => .agg (RepL.setLoc h (by simpa [AVal.noRef] using e)) h1
  | _, _, _, .tuple h, e => .tuple (RepL.setLoc h (by simpa [AVal.noRef] using e))
  | _, _, _, .sliceRow h hs hc h1 hn hm ht, _ => .sliceRow (RepL.setLocF' h rfl) hs hc h1 hn hm ht
  | _, _, _, .sliceNil ht ho, _ => .sliceNil ht ho
  | _, _, _, .arr (o := o) hb ho hn h0, e => .arr (by
      have : o ≠ .loc k := by rintro rfl; simp [AVal.noRef, Oid.isLoc] at e
      simpa [Gh.setObj, this] using hb) ho hn h0
  | _, _, _, .mrow hc hn hb, _ => .mrow (by simpa [Gh.setObj] using hc) hn fun h => by simpa [Gh.setObj] using hb h
  | _, _, _, .iptr h h1 hc, _ => .iptr (RepL.setLocF' h rfl) h1 hc
  | _, _, _, .ptr (o := o) hb ho, e => .ptr (by
      have : o ≠ .loc k := by rintro rfl; simp [AVal.noRef, Oid.isLoc] at e
      simpa [Gh.setObj, this] using hb) ho
  | _, _, _, .nilptr l, _ => .nilptr _
  | _, _, _, .map (o := o) hb ho, e => .map (by
      have : o ≠ .loc k := by rintro rfl; simp [AVal.noRef, Oid.isLoc] at e
      simpa [Gh.setObj, this] using hb) ho
  | _, _, _, .nilmap l, _ => .nilmap _
  | _, _, _, .func hf hc, e => by
    simp only [AVal.noRef, Bool.and_eq_true] at e
    exact .func (RepL.setLoc hf e.1) (RepL.setLoc hc e.2)
  | _, _, _, .nilfunc l, _ => .nilfunc _
  | _, _, _, .iface h, e => .iface (Rep.setLoc h (by simpa [AVal.noRef] using e))
  | _, _, _, .nilIface l, _ => .nilIface _
theorem RepL.setLoc {γ : Gh} {w : World} {k : Nat} {x : Option Nat} : ∀ {l : Bool} {as : List AVal} {vs : List Value}, RepL γ w l as vs → noRefL k as = true → RepL (γ.setObj (.loc k) x) w l as vs
  | _, _, _, .nil _, _ => .nil _
  | _, _, _, .cons h t, e => by
    simp only [noRefL, Bool.and_eq_true] at e
    exact .cons (Rep.setLoc h e.1) (RepL.setLoc t e.2)
end

end Go.AL
end

section
namespace Go.AL
def tabs : List (Nat × Nat × Value) :=
  ((List.range 256).map fun c => (1, c, Value.int .u8 (Lib.firstT c))) ++ ((List.range 16).flatMap fun i => [(2, 2 * i, Value.int .u8 (Lib.accLo i)), (2, 2 * i + 1, Value.int .u8 (Lib.accHi i))]) ++
  ((List.range 20).map fun i => (3, i, Value.int .u64 ((10 ^ i : Nat) : Int)))
def isErrV (v : Value) : Prop := ∃ t p, v = .iface t p
def tabsP : List (Nat × Nat × (Value → Prop)) := [(4, 0, isErrV), (5, 0, isErrV)]
def tabsB : List (Nat × Nat) := [(3, 20)]
end Go.AL
end

section
set_option linter.unusedSimpArgs false
set_option linter.unusedVariables false
namespace Go.AL

inductive AObj where
  | cells (cs : List AVal)
  | map (es : List (AVal × AVal))
  | siter (s : List UInt8) (pos : Nat)
  | buf (es : List AVal) (s g : Nat)

structure Sto where
  nobj : Nat
  obj : Nat → Option AObj
  nown : Nat
  own : Nat → Option Nat

def lookup {β : Type} : List (Nat × β) → Nat → Option β
  | [], _ => none
  | x :: r, j => if x.1 = j then some x.2 else lookup r j

def insertAt {β : Type} (j : Nat) (v : β) : List (Nat × β) → List (Nat × β)
  | [] => [(j, v)]
  | x :: r => if x.1 = j then (j, v) :: r else x :: insertAt j v r

theorem lookup_insertAt {β : Type} (j : Nat) (v : β) : ∀ (l : List (Nat × β)) (i : Nat), lookup (insertAt j v l) i = if j = i then some v else lookup l i
  | [], i => by simp [insertAt, lookup]
  | x :: r, i => by
    unfold insertAt
    split
    · rename_i h
      subst h
      simp only [lookup]
      split <;> rfl
    · rename_i h
      simp only [lookup, lookup_insertAt j v r i]
      split
      · rename_i h2
        subst h2
        rw [if_neg (fun e => h e.symm)]
      · rfl

structure St where
  n : Nat
  fr : List (Nat × AVal)
  tm : List (Nat × AVal)
  loc : List (Nat × AObj)
  σ : Sto

def St.get (st : St) (t : Nat) : AVal :=
  match lookup st.fr t with
  | some v => v
  | none => (lookup st.tm t).getD .undef

def St.objAt (st : St) : Oid → Option AObj
  | .loc k => lookup st.loc k
  | .out n => st.σ.obj n

def St.put (keep : List Nat) (st : St) (d : Nat) (v : AVal) : St :=
  if keep.elem d then { st with fr := insertAt d v st.fr }
  else match lookup st.fr d with
    | some _ => { st with fr := insertAt d v st.fr }
    | none => { st with tm := (d, v) :: st.tm }

theorem St.get_put (keep : List Nat) (st : St) (d : Nat) (v : AVal) (t : Nat) : (st.put keep d v).get t = if d = t then v else st.get t := by
  unfold St.put
  by_cases h0 : keep.elem d = true
  · rw [if_pos h0]
    simp only [St.get, lookup_insertAt]
    by_cases e : d = t
    · simp [e]
    · simp [e]
  · rw [if_neg h0]
    cases h : lookup st.fr d with
    | some u =>
      simp only [St.get, lookup_insertAt]
      by_cases e : d = t
      · simp [e]
      · simp [e]
    | none =>
      simp only [St.get, lookup]
      by_cases e : d = t
      · subst e; simp [h]
      · simp [e]

@[simp] theorem St.put_n (keep : List Nat) (st : St) (d : Nat) (v : AVal) : (st.put keep d v).n = st.n := by unfold St.put; split <;> (try rfl); split <;> rfl
@[simp] theorem St.put_loc (keep : List Nat) (st : St) (d : Nat) (v : AVal) : (st.put keep d v).loc = st.loc := by unfold St.put; split <;> (try rfl); split <;> rfl
@[simp] theorem St.put_σ (keep : List Nat) (st : St) (d : Nat) (v : AVal) : (st.put keep d v).σ = st.σ := by unfold St.put; split <;> (try rfl); split <;> rfl
theorem St.put_objAt (keep : List Nat) (st : St) (d : Nat) (v : AVal) : (st.put keep d v).objAt = st.objAt := by funext i; cases i <;> simp [St.objAt]

def RepE (γ : Gh) (w : World) (l : Bool) (es : List (AVal × AVal)) (ents : List MapEntry) : Prop :=
  es.length = ents.length ∧ ∀ (i : Nat) (x : AVal × AVal) (e : MapEntry), es[i]? = some x → ents[i]? = some e → Rep γ w l x.1 e.key ∧ Rep γ w l x.2 e.val

theorem RepE.mono {γ γ' : Gh} {w w' : World} {l : Bool} (x : Ext l γ w γ' w') {es : List (AVal × AVal)} {ents : List MapEntry} (h : RepE γ w l es ents) : RepE γ' w' l es ents :=
  ⟨h.1, fun i a e h1 h2 => ⟨Rep.mono x (h.2 i a e h1 h2).1, Rep.mono x (h.2 i a e h1 h2).2⟩⟩

def objOk (γ : Gh) (w : World) (l : Bool) (b : Nat) : AObj → Prop
  | .cells cs => ∃ vs T, w.heap[b]? = some (.cells vs.toArray T (0, 0)) ∧ RepL γ w l cs vs ∧ (∀ v ∈ vs, v.oneCell' = true) ∧ ∀ o, ¬ γ.imm b o
  | .map es => ∃ ents clock, w.heap[b]? = some (.map ents clock) ∧ RepE γ w l es ents.toList ∧ (∀ e ∈ ents.toList, e.born < clock) ∧ (ents.toList.map (·.born)).Nodup ∧ ∀ o, ¬ γ.imm b o
  | .siter s pos => w.heap[b]? = some (.stringIter ⟨s.toArray⟩ pos) ∧ ∀ o, ¬ γ.imm b o
  | .buf es s g => ∃ vs junk T cap, w.heap[b]? = some (.cells (vs ++ junk).toArray T (0, 0)) ∧ RepL γ w l (flat es) vs ∧ (∀ e ∈ es, e.cells.length = s) ∧ (∀ v ∈ vs ++ junk, v.oneCell' = true) ∧ γ.obj (.out g) = some cap ∧ (vs ++ junk).length = cap * s ∧ 0 < s ∧ cap ≤ maxLen ∧ ∀ o, ¬ γ.imm b o

def hole (γ : Gh) (i : Oid) (x : AObj) : Prop := ∃ k s, i = .out k ∧ x = .buf [] s (k + 1) ∧ γ.obj (.out k) = none ∧ γ.obj (.out (k + 1)) = some 0

def Own.blk : Own → Option Nat
  | .row b _ _ _ => some b
  | _ => none

def ownOk (γ : Gh) (w : World) : Own → Nat → Prop
  | .full n', n => n' = n
  | .row b cap n' s, n => n' = n ∧ 0 < s ∧ n ≤ cap ∧ cap ≤ maxLen ∧ (∃ cur T, w.heap[b]? = some (.cells cur T (0, 0)) ∧ cur.size = cap * s) ∧ ∀ o, n * s ≤ o → ¬ γ.imm b o
  | _, _ => False

def Known (w : World) : Prop := (∀ x ∈ tabs, w.cell? ⟨x.1, x.2.1, none⟩ = some x.2.2) ∧ (∀ x ∈ tabsP, ∃ v, w.cell? ⟨x.1, x.2.1, none⟩ = some v ∧ x.2.2 v) ∧
  ∀ x ∈ tabsB, x.1 < w.heap.size ∧ ∀ o, x.2 ≤ o → w.cell? ⟨x.1, o, none⟩ = none
def Amb (γ : Gh) (w : World) : Prop := Known w ∧ (∀ x ∈ tabs, γ.imm x.1 x.2.1) ∧ (∀ x ∈ tabsP, γ.imm x.1 x.2.1) ∧ ∀ x ∈ tabsB, ∀ o, x.2 ≤ o → γ.imm x.1 o
theorem Amb.mono {l : Bool} {γ γ' : Gh} {w w' : World} (x : Ext l γ w γ' w') (h : Amb γ w) (hs : w.heap.size ≤ w'.heap.size) : Amb γ' w' :=
  ⟨⟨fun y hy => (x.imm _ _ (h.2.1 y hy)).2.trans (h.1.1 y hy), fun y hy => by
    obtain ⟨v, h1, h2⟩ := h.1.2.1 y hy
    exact ⟨v, (x.imm _ _ (h.2.2.1 y hy)).2.trans h1, h2⟩, fun y hy => ⟨Nat.lt_of_lt_of_le (h.1.2.2 y hy).1 hs, fun o ho => (x.imm _ _ (h.2.2.2 y hy o ho)).2.trans ((h.1.2.2 y hy).2 o ho)⟩⟩,
    fun y hy => (x.imm _ _ (h.2.1 y hy)).1, fun y hy => (x.imm _ _ (h.2.2.1 y hy)).1, fun y hy o ho => (x.imm _ _ (h.2.2.2 y hy o ho)).1⟩

structure Inv (γ : Gh) (w : World) (O : Oid → Option AObj) (W : Nat → Option Nat) (no nw : Nat) : Prop where
  imm : ∀ b o, γ.imm b o → b < w.heap.size
  obj : ∀ i x, O i = some x → hole γ i x ∨ ∃ b, γ.obj i = some b ∧ objOk γ w (!i.isOut) b x
  inj : ∀ i j x y b, O i = some x → O j = some y → γ.obj i = some b → γ.obj j = some b → i = j
  own : ∀ p n, W p = some n → ownOk γ w (γ.own p) n
  ownInj : ∀ p q n m b, W p = some n → W q = some m → (γ.own p).blk = some b → (γ.own q).blk = some b → p = q
  apart : ∀ i x p n b, O i = some x → W p = some n → γ.obj i = some b → (γ.own p).blk = some b → False
  freshO : ∀ n, no ≤ n → γ.obj (.out n) = none
  freshW : ∀ p, nw ≤ p → γ.own p = .free
  amb : Amb γ w

theorem hole.noblk {γ : Gh} {i : Oid} {x : AObj} (h : hole γ i x) {b : Nat} (hb : γ.obj i = some b) : False := by
  obtain ⟨k, s, rfl, _, h1, _⟩ := h
  rw [h1] at hb; cases hb

theorem Inv.objb {γ : Gh} {w : World} {O : Oid → Option AObj} {W : Nat → Option Nat} {no nw : Nat} (h : Inv γ w O W no nw) {i : Oid} {x : AObj} {b : Nat} (hx : O i = some x) (hb : γ.obj i = some b) : objOk γ w (!i.isOut) b x := by
  rcases h.obj i x hx with h1 | ⟨b', hb', hok⟩
  · exact (h1.noblk hb).elim
  · rw [hb] at hb'; cases hb'; exact hok

theorem Inv.objc {γ : Gh} {w : World} {O : Oid → Option AObj} {W : Nat → Option Nat} {no nw : Nat} (h : Inv γ w O W no nw) {i : Oid} {x : AObj} (hx : O i = some x) (hn : ∀ s g, x ≠ .buf [] s g) : ∃ b, γ.obj i = some b ∧ objOk γ w (!i.isOut) b x := by
  rcases h.obj i x hx with ⟨k, s, _, h1, _⟩ | h1
  · exact (hn _ _ h1).elim
  · exact h1

def Mut (γ : Gh) (O : Oid → Option AObj) (W : Nat → Option Nat) (b : Nat) : Prop :=
  (∃ i x, O i = some x ∧ γ.obj i = some b) ∨ (∃ p n, W p = some n ∧ (γ.own p).blk = some b)

structure Evo (γ : Gh) (w : World) (O : Oid → Option AObj) (W : Nat → Option Nat) (γ' : Gh) (w' : World) (O' : Oid → Option AObj) (W' : Nat → Option Nat) : Prop where
  os : w'.os = w.os
  tape : w'.tape = w.tape
  output : w'.output = w.output
  size : w.heap.size ≤ w'.heap.size
  old : ∀ b, b < w.heap.size → ¬ Mut γ O W b → w'.heap[b]? = w.heap[b]?
  ext : Ext false γ w γ' w'
  new : ∀ b o, γ'.imm b o → γ.imm b o ∨ w.heap.size ≤ b ∨ Mut γ O W b
  mutd : ∀ b, Mut γ' O' W' b → Mut γ O W b ∨ w.heap.size ≤ b

theorem Evo.refl (γ : Gh) (w : World) (O : Oid → Option AObj) (W : Nat → Option Nat) : Evo γ w O W γ w O W :=
  ⟨rfl, rfl, rfl, Nat.le_refl _, fun _ _ _ => rfl, Ext.refl _ _ _, fun _ _ h => .inl h, fun _ h => .inl h⟩

theorem Evo.trans {γ γ1 γ2 : Gh} {w w1 w2 : World} {O O1 O2 : Oid → Option AObj} {W W1 W2 : Nat → Option Nat} (h : Evo γ w O W γ1 w1 O1 W1) (k : Evo γ1 w1 O1 W1 γ2 w2 O2 W2) : Evo γ w O W γ2 w2 O2 W2 where
  os := k.os.trans h.os
  tape := k.tape.trans h.tape
  output := k.output.trans h.output
  size := Nat.le_trans h.size k.size
  old b hb hm := by
    rw [k.old b (Nat.lt_of_lt_of_le hb h.size) (fun hm1 => (h.mutd b hm1).elim hm (fun hle => by omega))]
    exact h.old b hb hm
  ext := h.ext.trans k.ext
  new b o hi := by
    rcases k.new b o hi with h1 | h1 | h1
    · exact h.new b o h1
    · exact .inr (.inl (Nat.le_trans h.size h1))
    · rcases h.mutd b h1 with h2 | h2
      · exact .inr (.inr h2)
      · exact .inr (.inl h2)
  mutd b hm := by
    rcases k.mutd b hm with h1 | h1
    · exact h.mutd b h1
    · exact .inr (Nat.le_trans h.size h1)

structure Conc (γ : Gh) (w : World) (a : Act) (st : St) : Prop where
  size : a.tmps.size = st.n
  fr : ∀ t, Rep γ w true (st.get t) (a.tmps.getD t undef)
  defers : a.defers = []
  inv : Inv γ w st.objAt st.σ.own st.σ.nobj st.σ.nown

abbrev EvoS (γ : Gh) (w : World) (st : St) (γ' : Gh) (w' : World) (st' : St) : Prop := Evo γ w st.objAt st.σ.own γ' w' st'.objAt st'.σ.own

theorem Conc.put {γ : Gh} {w : World} {a : Act} {st : St} (h : Conc γ w a st) (keep : List Nat) {d : Nat} (hd : d < st.n) {x : AVal} {v : Value} (hx : Rep γ w true x v) :
    Conc γ w (a.put (some d) v) (st.put keep d x) where
  size := by simp [Act.put, h.size]
  fr t := by
    rw [St.get_put]
    simp only [Act.put]
    by_cases e : d = t
    · subst e
      rw [if_pos rfl]
      have : (a.tmps.setIfInBounds d v).getD d undef = v := by
        have : d < a.tmps.size := by rw [h.size]; exact hd
        simp [Array.getD, this]
      rw [this]
      exact hx
    · rw [if_neg e]
      have : (a.tmps.setIfInBounds d v).getD t undef = a.tmps.getD t undef := by
        simp only [Array.getD_eq_getD_getElem?]
        rw [Array.getElem?_setIfInBounds_ne e]
      rw [this]
      exact h.fr t
  defers := h.defers
  inv := by
    rw [St.put_objAt, St.put_σ]
    exact h.inv

/-! ### The heap -/

theorem cell?_heap {w w' : World} {a : Addr} (h : w'.heap[a.block]? = w.heap[a.block]?) : w'.cell? a = w.cell? a := World.cell?_of_block h

theorem block_lt {w : World} {b : Nat} {x : Obj} (h : w.heap[b]? = some x) : b < w.heap.size := (Array.getElem?_eq_some_iff.1 h).1

theorem Inv.imm_lt {γ : Gh} {w : World} {O : Oid → Option AObj} {W : Nat → Option Nat} {no nw : Nat} (h : Inv γ w O W no nw) {b o : Nat} (hi : γ.imm b o) : b < w.heap.size := h.imm b o hi

theorem objOk.lt {γ : Gh} {w : World} {l : Bool} {b : Nat} {x : AObj} (h : objOk γ w l b x) : b < w.heap.size := by
  cases x with
  | cells cs => obtain ⟨vs, T, hb, _⟩ := h; exact block_lt hb
  | map es => obtain ⟨vs, T, hb, _⟩ := h; exact block_lt hb
  | siter s pos => exact block_lt h.1
  | buf es s g => obtain ⟨vs, junk, T, cap, hb, _⟩ := h; exact block_lt hb

theorem objOk.notImm {γ : Gh} {w : World} {l : Bool} {b : Nat} {x : AObj} (h : objOk γ w l b x) : ∀ o, ¬ γ.imm b o := by
  cases x with
  | cells cs => obtain ⟨vs, T, _, _, _, h⟩ := h; exact h
  | map es => obtain ⟨vs, T, _, _, _, _, h⟩ := h; exact h
  | siter s pos => exact h.2
  | buf es s g => obtain ⟨vs, junk, T, cap, _, _, _, _, _, _, _, _, h⟩ := h; exact h

theorem ownOk.lt {γ : Gh} {w : World} {x : Own} {n b : Nat} (h : ownOk γ w x n) (hb : x.blk = some b) : b < w.heap.size := by
  cases x with
  | row b' cap n' s =>
    simp only [Own.blk, Option.some.injEq] at hb
    subst hb
    obtain ⟨_, _, _, _, ⟨cur, T, hh, _⟩, _⟩ := h
    exact block_lt hh
  | _ => simp [Own.blk] at hb

theorem objOk.mono {γ γ' : Gh} {w w' : World} {l : Bool} {b : Nat} {x : AObj} (h : objOk γ w l b x) (e : Ext l γ w γ' w') (hb : w'.heap[b]? = w.heap[b]?) (hn : ∀ o, ¬ γ'.imm b o) : objOk γ' w' l b x := by
  cases x with
  | cells cs => obtain ⟨vs, T, h1, h2, h3, _⟩ := h; exact ⟨vs, T, hb.trans h1, RepL.mono e h2, h3, hn⟩
  | map es => obtain ⟨vs, T, h1, h2, h3, h4, _⟩ := h; exact ⟨vs, T, hb.trans h1, h2.mono e, h3, h4, hn⟩
  | siter s pos => exact ⟨hb.trans h.1, hn⟩
  | buf es s g => obtain ⟨vs, junk, T, cap, h1, h2, h3, h4, h5, h6, h7, h8, _⟩ := h; exact ⟨vs, junk, T, cap, hb.trans h1, RepL.mono e h2, h3, h4, e.obj _ _ (.inr rfl) h5, h6, h7, h8, hn⟩

theorem ownOk.mono {γ γ' : Gh} {w w' : World} {x : Own} {n : Nat} (h : ownOk γ w x n) (hb : ∀ b, x.blk = some b → w'.heap[b]? = w.heap[b]?) (hn : ∀ b o, x.blk = some b → γ'.imm b o → γ.imm b o) : ownOk γ' w' x n := by
  cases x with
  | row b cap n' s =>
    obtain ⟨h1, h2, h3, h4, ⟨cur, T, h5, h6⟩, h7⟩ := h
    exact ⟨h1, h2, h3, h4, ⟨cur, T, (hb b rfl).trans h5, h6⟩, fun o ho hi => h7 o ho (hn b o rfl hi)⟩
  | full _ => exact h
  | free => exact h.elim
  | dead => exact h.elim

/-! ### Draws, and whatever leaves the heap alone -/

theorem Ext.ofHeap {l : Bool} {γ : Gh} {w w' : World} (hh : w'.heap = w.heap) : Ext l γ w γ w' :=
  ⟨fun b o hi => ⟨hi, by simp [World.cell?, hh]⟩, fun _ _ _ h => h, fun p => OwnStep.refl _⟩

theorem Conc.ofHeap {γ : Gh} {w w' : World} {a : Act} {st : St} (h : Conc γ w a st) (hh : w'.heap = w.heap) : Conc γ w' a st where
  size := h.size
  fr t := Rep.mono (Ext.ofHeap hh) (h.fr t)
  defers := h.defers
  inv := by
    have e : ∀ l, Ext l γ w γ w' := fun l => Ext.ofHeap hh
    refine ⟨fun b o hi => ?_, fun i x hx => ?_, h.inv.inj, fun p n hp => ?_, h.inv.ownInj, h.inv.apart, h.inv.freshO, h.inv.freshW, h.inv.amb.mono (e true) (by rw [hh]; exact Nat.le_refl _)⟩
    · rw [hh]; exact h.inv.imm b o hi
    · rcases h.inv.obj i x hx with h1 | ⟨b, hb, hok⟩
      · exact .inl h1
      exact .inr ⟨b, hb, hok.mono (e _) (by rw [hh]) hok.notImm⟩
    · exact (h.inv.own p n hp).mono (fun _ _ => by rw [hh]) (fun _ _ _ h => h)

theorem EvoS.ofHeap {γ : Gh} {w w' : World} {st : St} (hh : w'.heap = w.heap) (h1 : w'.os = w.os) (h2 : w'.tape = w.tape) (h3 : w'.output = w.output) : EvoS γ w st γ w' st :=
  ⟨h1, h2, h3, by rw [hh]; exact Nat.le_refl _, fun b _ _ => by rw [hh], Ext.ofHeap hh, fun _ _ h => .inl h, fun _ h => .inl h⟩

/-! ### A new block that never changes -/

def Gh.addImm (γ : Gh) (b n : Nat) : Gh := { γ with imm := fun b' o => γ.imm b' o ∨ (b' = b ∧ o < n) }

theorem alloc_size_le (w : World) (o : Obj) : w.heap.size ≤ (w.alloc o).heap.size := by show _ ≤ (w.heap.push o).size; simp

theorem heap_alloc_lt (w : World) (o : Obj) {b : Nat} (h : b < w.heap.size) : (w.alloc o).heap[b]? = w.heap[b]? := Go.RowKit.Below.heap_alloc w o b h

theorem Ext.alloc {l : Bool} {γ γ' : Gh} {w : World} (o : Obj) (hlt : ∀ b o, γ.imm b o → b < w.heap.size) (h1 : ∀ b o, γ.imm b o → γ'.imm b o) (h2 : ∀ i b, (l = true ∨ i.isOut = true) → γ.obj i = some b → γ'.obj i = some b)
    (h3 : ∀ p, OwnStep (γ.own p) (γ'.own p)) : Ext l γ w γ' (w.alloc o) :=
  ⟨fun b o' hi => ⟨h1 b o' hi, cell?_heap (heap_alloc_lt w o (hlt b o' hi))⟩, h2, h3⟩

theorem cellsAt_new {γ : Gh} {w : World} (vs : List Value) (T : TypeId) (fz : Nat × Nat) : AL.cellsAt (γ.addImm w.heap.size vs.length) (w.alloc (.cells vs.toArray T fz)) w.heap.size 0 vs := by
  intro j v hj
  have hlt : j < vs.length := by
    rcases Nat.lt_or_ge j vs.length with h | h
    · exact h
    · rw [List.getElem?_eq_none h] at hj; cases hj
  refine ⟨.inr ⟨rfl, by omega⟩, ?_⟩
  have := heap_alloc_new w (.cells vs.toArray T fz)
  simp only [World.cell?, this]
  simpa using hj

theorem Conc.allocImm {γ : Gh} {w : World} {a : Act} {st : St} (h : Conc γ w a st) (vs : List Value) (T : TypeId) (fz : Nat × Nat) :
    Conc (γ.addImm w.heap.size vs.length) (w.alloc (.cells vs.toArray T fz)) a st ∧ EvoS γ w st (γ.addImm w.heap.size vs.length) (w.alloc (.cells vs.toArray T fz)) st ∧
      Ext true γ w (γ.addImm w.heap.size vs.length) (w.alloc (.cells vs.toArray T fz)) := by
  have e : ∀ l, Ext l γ w (γ.addImm w.heap.size vs.length) (w.alloc (.cells vs.toArray T fz)) := fun l =>
    Ext.alloc _ (fun b o hi => h.inv.imm_lt hi) (fun b o hi => .inl hi) (fun _ _ _ hi => hi) (fun p => OwnStep.refl _)
  have nimm : ∀ b o, b < w.heap.size → (γ.addImm w.heap.size vs.length).imm b o → γ.imm b o := fun b o hb hi => hi.elim id (fun hh => by omega)
  refine ⟨⟨h.size, fun t => Rep.mono (e true) (h.fr t), h.defers, ⟨fun b o hi => ?_, fun i x hx => ?_, h.inv.inj, fun p n hp => ?_, h.inv.ownInj, h.inv.apart, h.inv.freshO, h.inv.freshW, h.inv.amb.mono (e true) (alloc_size_le w _)⟩⟩,
    ⟨rfl, rfl, rfl, alloc_size_le w _, fun b hb _ => heap_alloc_lt w _ hb, e false, fun b o hi => hi.elim .inl (fun hh => .inr (.inl (by omega))), fun b hm => .inl hm⟩, e true⟩
  · rcases hi with hi | ⟨rfl, ho⟩
    · exact Nat.lt_of_lt_of_le (h.inv.imm b o hi) (alloc_size_le w _)
    · show w.heap.size < (w.heap.push _).size
      rw [Array.size_push]; omega
  · rcases h.inv.obj i x hx with h1 | ⟨b, hb, hok⟩
    · exact .inl h1
    exact .inr ⟨b, hb, hok.mono (e _) (heap_alloc_lt w _ hok.lt) (fun o hi => hok.notImm o (nimm b o hok.lt hi))⟩
  · have hok := h.inv.own p n hp
    exact hok.mono (fun b hb => heap_alloc_lt w _ (hok.lt hb)) (fun b o hb hi => nimm b o (hok.lt hb) hi)

/-! ### A new object of the activation's own -/

def AObj.noRef (k : Nat) : AObj → Bool
  | .cells cs => noRefL k cs
  | .map es => es.all fun x => x.1.noRef k && x.2.noRef k
  | .siter _ _ => true
  | .buf es _ _ => noRefL k (flat es)

def frNoRef (k : Nat) : List (Nat × AVal) → Bool
  | [] => true
  | x :: r => x.2.noRef k && frNoRef k r

def locNoRef (k : Nat) : List (Nat × AObj) → Bool
  | [] => true
  | x :: r => (x.1 == k || x.2.noRef k) && locNoRef k r

def St.noRef (st : St) (k : Nat) : Bool := frNoRef k st.fr && frNoRef k st.tm && locNoRef k st.loc

theorem frNoRef_lookup {k : Nat} : ∀ {l : List (Nat × AVal)}, frNoRef k l = true → ∀ {t : Nat} {v : AVal}, lookup l t = some v → v.noRef k = true
  | [], _, _, _, h => by cases h
  | x :: r, h, t, v, e => by
    simp only [frNoRef, Bool.and_eq_true] at h
    simp only [lookup] at e
    split at e
    · cases e; exact h.1
    · exact frNoRef_lookup h.2 e

theorem locNoRef_lookup {k : Nat} : ∀ {l : List (Nat × AObj)}, locNoRef k l = true → ∀ {t : Nat} {v : AObj}, lookup l t = some v → t ≠ k → v.noRef k = true
  | [], _, _, _, h, _ => by cases h
  | x :: r, h, t, v, e, hne => by
    simp only [locNoRef, Bool.and_eq_true, Bool.or_eq_true, beq_iff_eq] at h
    simp only [lookup] at e
    split at e
    · rename_i e2
      cases e
      exact h.1.resolve_left (by omega)
    · exact locNoRef_lookup h.2 e hne

theorem St.noRef_get {st : St} {k : Nat} (h : st.noRef k = true) (t : Nat) : (st.get t).noRef k = true := by
  simp only [St.noRef, Bool.and_eq_true] at h
  unfold St.get
  split
  · rename_i v e; exact frNoRef_lookup h.1.1 e
  · cases e : lookup st.tm t with
    | none => rfl
    | some v => exact frNoRef_lookup h.1.2 e

def St.NoRef (st : St) (k : Nat) : Prop := (∀ t, (st.get t).noRef k = true) ∧ ∀ j v, lookup st.loc j = some v → j ≠ k → v.noRef k = true
theorem St.noRef_sem {st : St} {k : Nat} (h : st.noRef k = true) : st.NoRef k :=
  ⟨fun t => St.noRef_get h t, fun j v hv hj => by
    simp only [St.noRef, Bool.and_eq_true] at h
    exact locNoRef_lookup h.2 hv hj⟩

theorem objOk.setLoc {γ : Gh} {w : World} {l : Bool} {b : Nat} {x : AObj} (h : objOk γ w l b x) (k : Nat) (y : Option Nat) (hx : l = false ∨ x.noRef k = true) : objOk (γ.setObj (.loc k) y) w l b x := by
  cases x with
  | cells cs =>
    obtain ⟨vs, T, h1, h2, h3, h4⟩ := h
    refine ⟨vs, T, h1, ?_, h3, h4⟩
    rcases hx with rfl | hx
    · exact RepL.setLocF' h2 rfl
    · exact RepL.setLoc h2 hx
  | map es =>
    obtain ⟨ents, c, h1, h2, h3, h4, h5⟩ := h
    refine ⟨ents, c, h1, ⟨h2.1, fun i a e ha he => ?_⟩, h3, h4, h5⟩
    have := h2.2 i a e ha he
    rcases hx with rfl | hx
    · exact ⟨Rep.setLocF' this.1 rfl, Rep.setLocF' this.2 rfl⟩
    · simp only [AObj.noRef, List.all_eq_true, Bool.and_eq_true] at hx
      have := hx a (List.mem_of_getElem? ha)
      exact ⟨Rep.setLoc (h2.2 i a e ha he).1 this.1, Rep.setLoc (h2.2 i a e ha he).2 this.2⟩
  | siter s pos => exact h
  | buf es s g =>
    obtain ⟨vs, junk, T, cap, h1, h2, h3, h4, h5, h6, h7, h8, h9⟩ := h
    refine ⟨vs, junk, T, cap, h1, ?_, h3, h4, by simpa [Gh.setObj] using h5, h6, h7, h8, h9⟩
    rcases hx with rfl | hx
    · exact RepL.setLocF' h2 rfl
    · exact RepL.setLoc h2 hx

theorem hole.setLoc {γ : Gh} {i : Oid} {x : AObj} (h : hole γ i x) (k : Nat) (y : Option Nat) : hole (γ.setObj (.loc k) y) i x := by
  obtain ⟨j, s, h1, h2, h3, h4⟩ := h
  exact ⟨j, s, h1, h2, by simpa [Gh.setObj] using h3, by simpa [Gh.setObj] using h4⟩

def St.setLoc (st : St) (k : Nat) (x : AObj) : St := { st with loc := insertAt k x st.loc }

theorem St.setLoc_objAt (st : St) (k : Nat) (x : AObj) (i : Oid) : (st.setLoc k x).objAt i = if i = .loc k then some x else st.objAt i := by
  cases i with
  | loc j =>
    simp only [St.objAt, St.setLoc, lookup_insertAt, Oid.loc.injEq]
    by_cases e : k = j <;> simp [e, eq_comm]
  | out n => simp [St.objAt, St.setLoc]

theorem Conc.allocLoc {γ : Gh} {w : World} {a : Act} {st : St} (h : Conc γ w a st) (k : Nat) (hk : st.NoRef k) (o : Obj) (x : AObj)
    (hx : ∀ γ' w', Ext false γ w γ' w' → Ext true (γ.setObj (.loc k) none) w γ' w' → w'.heap[w.heap.size]? = some o → (∀ o, ¬ γ'.imm w.heap.size o) → objOk γ' w' true w.heap.size x) :
    ∃ γ', Conc γ' (w.alloc o) a (st.setLoc k x) ∧ EvoS γ w st γ' (w.alloc o) (st.setLoc k x) ∧ γ'.obj (.loc k) = some w.heap.size := by
  refine ⟨γ.setObj (.loc k) (some w.heap.size), ?_, ?_, by simp [Gh.setObj]⟩
  · have e : ∀ l, Ext l (γ.setObj (.loc k) (some w.heap.size)) w (γ.setObj (.loc k) (some w.heap.size)) (w.alloc o) := fun l =>
      Ext.alloc _ (fun b o hi => h.inv.imm_lt hi) (fun b o hi => hi) (fun _ _ _ hi => hi) (fun p => OwnStep.refl _)
    have hne : ∀ i x, st.objAt i = some x → ∀ b, γ.obj i = some b → b < w.heap.size := fun i x hx b hb => (h.inv.objb hx hb).lt
    refine ⟨h.size, fun t => Rep.mono (e true) (Rep.setLoc (h.fr t) (hk.1 t)), h.defers, ⟨fun b o' hi => ?_, fun i y hy => ?_, fun i j y z b hy hz hbi hbj => ?_, fun p n hp => ?_, h.inv.ownInj, fun i y p n b hy hp hbi hbp => ?_, fun n hn => ?_, h.inv.freshW, Amb.mono (e true) h.inv.amb (alloc_size_le w _)⟩⟩
    · exact Nat.lt_of_lt_of_le (h.inv.imm b o' hi) (alloc_size_le w _)
    · rw [St.setLoc_objAt] at hy
      split at hy
      · rename_i e1
        cases hy
        subst e1
        refine .inr ⟨w.heap.size, by simp [Gh.setObj], ?_⟩
        refine hx _ _ ⟨fun b o' hi => ⟨hi, ((e true).imm b o' hi).2⟩, fun i b hl hi => ?_, fun p => OwnStep.refl _⟩ ⟨fun b o' hi => ⟨hi, ((e true).imm b o' hi).2⟩, fun i b hl hi => ?_, fun p => OwnStep.refl _⟩ (heap_alloc_new w o) (fun o' hi => ?_)
        · have : i ≠ .loc k := by rintro rfl; simp [Oid.isOut] at hl
          simpa [Gh.setObj, this] using hi
        · by_cases e2 : i = .loc k
          · subst e2; simp [Gh.setObj] at hi
          · simpa [Gh.setObj, e2] using hi
        · have := h.inv.imm_lt hi; omega
      · rename_i e1
        rcases h.inv.obj i y hy with h1 | ⟨b, hb, hok⟩
        · exact .inl (h1.setLoc _ _)
        refine .inr ⟨b, by simpa [Gh.setObj, e1] using hb, ?_⟩
        refine (hok.setLoc k (some w.heap.size) ?_).mono (e _) (heap_alloc_lt w _ hok.lt) hok.notImm
        cases i with
        | out n => exact .inl rfl
        | loc j =>
          refine .inr ?_
          exact hk.2 _ _ hy (fun ej => e1 (by rw [ej]))
    · rw [St.setLoc_objAt] at hy hz
      simp only [Gh.setObj] at hbi hbj
      by_cases e1 : i = .loc k <;> by_cases e2 : j = .loc k
      · rw [e1, e2]
      · rw [if_pos e1] at hbi; rw [if_neg e2] at hbj hz
        have := hne j z hz b hbj
        cases hbi; omega
      · rw [if_neg e1] at hbi hy; rw [if_pos e2] at hbj
        have := hne i y hy b hbi
        cases hbj; omega
      · rw [if_neg e1] at hbi hy; rw [if_neg e2] at hbj hz
        exact h.inv.inj i j y z b hy hz hbi hbj
    · have hok := h.inv.own p n hp
      exact hok.mono (fun b hb => heap_alloc_lt w _ (hok.lt hb)) (fun b o hb hi => hi)
    · rw [St.setLoc_objAt] at hy
      simp only [Gh.setObj] at hbi
      by_cases e1 : i = .loc k
      · rw [if_pos e1] at hbi
        cases hbi
        have := (h.inv.own p n hp).lt hbp
        omega
      · rw [if_neg e1] at hbi hy
        exact h.inv.apart i y p n b hy hp hbi hbp
    · simpa [Gh.setObj] using h.inv.freshO n hn
  · refine ⟨rfl, rfl, rfl, alloc_size_le w _, fun b hb _ => heap_alloc_lt w _ hb, ⟨fun b o' hi => ⟨hi, cell?_heap (heap_alloc_lt w o (h.inv.imm_lt hi))⟩, fun i b hl hi => ?_, fun p => OwnStep.refl _⟩, fun b o hi => .inl hi, fun b hm => ?_⟩
    · have : i ≠ .loc k := by rintro rfl; simp [Oid.isOut] at hl
      simpa [Gh.setObj, this] using hi
    · rcases hm with ⟨i, x', hx', hb⟩ | hm
      · rw [St.setLoc_objAt] at hx'
        simp only [Gh.setObj] at hb
        by_cases e1 : i = .loc k
        · rw [if_pos e1] at hb; cases hb; exact .inr (Nat.le_refl _)
        · rw [if_neg e1] at hb hx'
          exact .inl (.inl ⟨i, x', hx', hb⟩)
      · exact .inl (.inr hm)

/-! ### A new object that others may see -/

def Sto.push (σ : Sto) (x : AObj) : Sto := { σ with nobj := σ.nobj + 1, obj := fun n => if n = σ.nobj then some x else σ.obj n }
def Sto.set (σ : Sto) (o : Nat) (x : AObj) : Sto := { σ with obj := fun n => if n = o then some x else σ.obj n }

theorem hole.setOut {γ : Gh} {i : Oid} {x : AObj} (h : hole γ i x) {no n : Nat} (hf : ∀ n, no ≤ n → γ.obj (.out n) = none) (hn : no ≤ n := by exact Nat.le_refl _) {y : Option Nat} : hole (γ.setObj (.out n) y) i x := by
  obtain ⟨j, s, h1, h2, h3, h4⟩ := h
  have hj : j + 1 < no := by
    rcases Nat.lt_or_ge (j + 1) no with h5 | h5
    · exact h5
    · rw [hf _ h5] at h4; cases h4
  have e1 : j ≠ n := by omega
  have e2 : j + 1 ≠ n := by omega
  exact ⟨j, s, h1, h2, by simpa [Gh.setObj, e1] using h3, by simpa [Gh.setObj, e2] using h4⟩

theorem Conc.allocOut {γ : Gh} {w : World} {a : Act} {st : St} (h : Conc γ w a st) (o : Obj) (x : AObj)
    (hx : ∀ γ' w', Ext true γ w γ' w' → w'.heap[w.heap.size]? = some o → (∀ o, ¬ γ'.imm w.heap.size o) → objOk γ' w' false w.heap.size x) :
    ∃ γ', Conc γ' (w.alloc o) a { st with σ := st.σ.push x } ∧ EvoS γ w st γ' (w.alloc o) { st with σ := st.σ.push x } ∧ γ'.obj (.out st.σ.nobj) = some w.heap.size ∧ Ext true γ w γ' (w.alloc o) := by
  have hfree := h.inv.freshO st.σ.nobj (Nat.le_refl _)
  have eq : ∀ i, St.objAt { st with σ := st.σ.push x } i = if i = .out st.σ.nobj then some x else st.objAt i := fun i => by
    cases i <;> simp [St.objAt, Sto.push]
  have e : ∀ l, Ext l γ w (γ.setObj (.out st.σ.nobj) (some w.heap.size)) (w.alloc o) := fun l =>
    Ext.alloc _ (fun b o hi => h.inv.imm_lt hi) (fun b o hi => hi) (fun i b _ hi => by
      have : i ≠ .out st.σ.nobj := by rintro rfl; rw [hfree] at hi; cases hi
      simpa [Gh.setObj, this] using hi) (fun p => OwnStep.refl _)
  have hne : ∀ i x, st.objAt i = some x → ∀ b, γ.obj i = some b → b < w.heap.size := fun i x hx b hb => (h.inv.objb hx hb).lt
  refine ⟨γ.setObj (.out st.σ.nobj) (some w.heap.size), ⟨h.size, fun t => Rep.mono (e true) (h.fr t), h.defers, ⟨fun b o' hi => ?_, fun i y hy => ?_, fun i j y z b hy hz hbi hbj => ?_, fun p n hp => ?_, h.inv.ownInj, fun i y p n b hy hp hbi hbp => ?_, fun n hn => ?_, h.inv.freshW, h.inv.amb.mono (e true) (alloc_size_le w _)⟩⟩, ?_, by simp [Gh.setObj], e true⟩
  · exact Nat.lt_of_lt_of_le (h.inv.imm b o' hi) (alloc_size_le w _)
  · rw [eq] at hy
    split at hy
    · rename_i e1
      cases hy
      subst e1
      refine .inr ⟨w.heap.size, by simp [Gh.setObj], hx _ _ (e true) (heap_alloc_new w o) (fun o' hi => ?_)⟩
      have := h.inv.imm_lt hi; omega
    · rename_i e1
      rcases h.inv.obj i y hy with h1 | ⟨b, hb, hok⟩
      · exact .inl (h1.setOut h.inv.freshO)
      exact .inr ⟨b, by simpa [Gh.setObj, e1] using hb, hok.mono (e _) (heap_alloc_lt w _ hok.lt) hok.notImm⟩
  · rw [eq] at hy hz
    simp only [Gh.setObj] at hbi hbj
    by_cases e1 : i = .out st.σ.nobj <;> by_cases e2 : j = .out st.σ.nobj
    · rw [e1, e2]
    · rw [if_pos e1] at hbi; rw [if_neg e2] at hbj hz
      have := hne j z hz b hbj
      cases hbi; omega
    · rw [if_neg e1] at hbi hy; rw [if_pos e2] at hbj
      have := hne i y hy b hbi
      cases hbj; omega
    · rw [if_neg e1] at hbi hy; rw [if_neg e2] at hbj hz
      exact h.inv.inj i j y z b hy hz hbi hbj
  · have hok := h.inv.own p n hp
    exact hok.mono (fun b hb => heap_alloc_lt w _ (hok.lt hb)) (fun b o hb hi => hi)
  · rw [eq] at hy
    simp only [Gh.setObj] at hbi
    by_cases e1 : i = .out st.σ.nobj
    · rw [if_pos e1] at hbi
      cases hbi
      have := (h.inv.own p n hp).lt hbp
      omega
    · rw [if_neg e1] at hbi hy
      exact h.inv.apart i y p n b hy hp hbi hbp
  · have hn : st.σ.nobj + 1 ≤ n := hn
    have := h.inv.freshO n (by omega)
    have hne : n ≠ st.σ.nobj := by omega
    simpa [Gh.setObj, hne] using this
  · refine ⟨rfl, rfl, rfl, alloc_size_le w _, fun b hb _ => heap_alloc_lt w _ hb, e false, fun b o hi => .inl hi, fun b hm => ?_⟩
    rcases hm with ⟨i, x', hx', hb⟩ | hm
    · rw [eq] at hx'
      simp only [Gh.setObj] at hb
      by_cases e1 : i = .out st.σ.nobj
      · rw [if_pos e1] at hb; cases hb; exact .inr (Nat.le_refl _)
      · rw [if_neg e1] at hb hx'
        exact .inl (.inl ⟨i, x', hx', hb⟩)
    · exact .inl (.inr hm)

/-! ### An object's block is written -/

def St.setObj (st : St) (i : Oid) (x : AObj) : St :=
  match i with
  | .loc k => st.setLoc k x
  | .out n => { st with σ := st.σ.set n x }

theorem St.setObj_objAt (st : St) (i : Oid) (x : AObj) (j : Oid) : (st.setObj i x).objAt j = if j = i then some x else st.objAt j := by
  cases i with
  | loc k => exact st.setLoc_objAt k x j
  | out n => cases j <;> simp [St.objAt, St.setObj, Sto.set]

@[simp] theorem St.setObj_own (st : St) (i : Oid) (x : AObj) : (st.setObj i x).σ.own = st.σ.own := by cases i <;> rfl
@[simp] theorem St.setObj_nown (st : St) (i : Oid) (x : AObj) : (st.setObj i x).σ.nown = st.σ.nown := by cases i <;> rfl
@[simp] theorem St.setObj_nobj (st : St) (i : Oid) (x : AObj) : (st.setObj i x).σ.nobj = st.σ.nobj := by cases i <;> rfl
@[simp] theorem St.setObj_n (st : St) (i : Oid) (x : AObj) : (st.setObj i x).n = st.n := by cases i <;> rfl
theorem St.setObj_get (st : St) (i : Oid) (x : AObj) (t : Nat) : (st.setObj i x).get t = st.get t := by cases i <;> rfl

theorem Conc.setBlock {γ : Gh} {w w' : World} {a : Act} {st : St} (h : Conc γ w a st) {i : Oid} {y x : AObj} {b : Nat} (hy : st.objAt i = some y) (hb : γ.obj i = some b)
    (h1 : ∀ b', b' ≠ b → w'.heap[b']? = w.heap[b']?) (hsz : w'.heap.size = w.heap.size) (hos : w'.os = w.os) (htp : w'.tape = w.tape) (hou : w'.output = w.output)
    (hx : Ext true γ w γ w' → (∀ o, ¬ γ.imm b o) → objOk γ w' (!i.isOut) b x) :
    Conc γ w' a (st.setObj i x) ∧ EvoS γ w st γ w' (st.setObj i x) := by
  have hok0 : objOk γ w (!i.isOut) b y := h.inv.objb hy hb
  have e : ∀ l, Ext l γ w γ w' := fun l => ⟨fun b' o hi => ⟨hi, cell?_heap (h1 b' (fun e => hok0.notImm o (e ▸ hi)))⟩, fun _ _ _ h => h, fun p => OwnStep.refl _⟩
  refine ⟨⟨h.size.trans (St.setObj_n st i x).symm, fun t => ?_, h.defers, ⟨fun b' o hi => ?_, fun j z hz => ?_, fun j k z u b' hz hu hbj hbk => ?_, fun p n hp => ?_, ?_, fun j z p n b' hz hp hbj hbp => ?_, ?_, ?_, h.inv.amb.mono (e true) (by rw [hsz]; exact Nat.le_refl _)⟩⟩, ?_⟩
  · rw [St.setObj_get]; exact Rep.mono (e true) (h.fr t)
  · rw [hsz]; exact h.inv.imm b' o hi
  · rw [St.setObj_objAt] at hz
    split at hz
    · rename_i e1
      cases hz
      subst e1
      exact .inr ⟨b, hb, hx (e true) hok0.notImm⟩
    · rename_i e1
      rcases h.inv.obj j z hz with hh | ⟨b', hb', hok⟩
      · exact .inl hh
      refine .inr ⟨b', hb', hok.mono (e _) (h1 b' (fun eb => e1 ?_)) hok.notImm⟩
      subst eb
      exact h.inv.inj j i z y b' hz hy hb' hb
  · have : ∀ j z, (st.setObj i x).objAt j = some z → ∃ z', st.objAt j = some z' := fun j z hz => by
      rw [St.setObj_objAt] at hz
      split at hz
      · rename_i e1; exact ⟨y, e1 ▸ hy⟩
      · exact ⟨z, hz⟩
    obtain ⟨z', hz'⟩ := this j z hz
    obtain ⟨u', hu'⟩ := this k u hu
    exact h.inv.inj j k z' u' b' hz' hu' hbj hbk
  · rw [St.setObj_own] at hp
    have hok := h.inv.own p n hp
    exact hok.mono (fun b' hb' => h1 b' (fun eb => h.inv.apart i y p n b hy hp hb (eb ▸ hb'))) (fun _ _ _ hi => hi)
  · rw [St.setObj_own]; exact h.inv.ownInj
  · rw [St.setObj_own] at hp
    rw [St.setObj_objAt] at hz
    split at hz
    · rename_i e1
      exact h.inv.apart j y p n b' (e1 ▸ hy) hp hbj hbp
    · exact h.inv.apart j z p n b' hz hp hbj hbp
  · rw [St.setObj_nobj]; exact h.inv.freshO
  · rw [St.setObj_nown]; exact h.inv.freshW
  · refine ⟨hos, htp, hou, by omega, fun b' hb' hm => h1 b' (fun eb => hm (.inl ⟨i, y, hy, eb ▸ hb⟩)), e false, fun b' o hi => .inl hi, fun b' hm => .inl ?_⟩
    rcases hm with ⟨j, z, hz, hbj⟩ | ⟨p, n, hp, hbp⟩
    · rw [St.setObj_objAt] at hz
      split at hz
      · rename_i e1; exact .inl ⟨j, y, e1 ▸ hy, hbj⟩
      · exact .inl ⟨j, z, hz, hbj⟩
    · exact .inr ⟨p, n, by simpa using hp, hbp⟩

end Go.AL
end

section
namespace Go.AL
set_option linter.unusedSimpArgs false
set_option linter.unusedVariables false

/-! ### Constants -/

def absV : Value → AVal
  | .bool b => .bool b
  | .int k n => .int k n
  | .string s => .str s.data.toList
  | .pointer none => .nilptr
  | .slice none 0 0 => .slice [] 0 .nil
  | .map none => .nilmap
  | .nilFunc => .nilfunc
  | .nilIface => .nilIface
  | _ => .undef

theorem Rep.absV {γ : Gh} {w : World} (l : Bool) (v : Value) : Rep γ w l (absV v) v := by
  unfold AL.absV
  split
  · exact .bool _ _
  · exact .int _ _ _
  · rename_i s
    have : (Value.string s) = .string ⟨s.data.toList.toArray⟩ := by simp
    rw [this]
    exact .str _ _
  · exact .nilptr _
  · exact .sliceNil trivial (.inl rfl)
  · exact .nilmap _
  · exact .nilfunc _
  · exact .nilIface _
  · exact .undef _ _

def St.eval (st : St) : Operand → AVal
  | .tmp t => st.get t
  | .const v => absV v
  | .global _ => .undef
  | .func f => .func (.func f) [] []

theorem Conc.eval {γ : Gh} {w : World} {a : Act} {st : St} (h : Conc γ w a st) (x : Operand) : Rep γ w true (st.eval x) (a.eval x) := by
  cases x with
  | tmp t => exact h.fr t
  | const v => exact Rep.absV _ _
  | global g => exact .undef _ _
  | func f => exact .func (.nil _) (.nil _)

/-! ### What is asked of the table of types -/

def tIsAgg (P : Program) (t : TypeId) : Option Bool :=
  match P.underlying t with
  | some (.struct _) => some true
  | some (.array _ _) => some true
  | some _ => some false
  | none => none

def tField (P : Program) (s : TypeId) (i : Nat) : Option (Nat × Nat × Bool) :=
  match P.underlying s with
  | some (.struct fs) =>
    match fs[i]? with
    | some f => match P.info? f.type, tIsAgg P f.type with
      | some inf, some g => some (f.offset, inf.size, g)
      | _, _ => none
    | none => none
  | _ => none

def tElem (P : Program) (t : TypeId) : Option (TypeId × Nat × Nat × List Value) :=
  match P.underlying t with
  | some (.slice e) => match P.info? e with
    | some inf => match inf.zero with
      | some z => some (e, inf.size, inf.bytes, z.cells.toList)
      | none => none
    | none => none
  | _ => none

def tArr (P : Program) (t : TypeId) : Option (Nat × Nat × Bool) :=
  match P.underlying t with
  | some (.array n e) => match P.info? e, tIsAgg P e with
    | some inf, some g => some (n, inf.size, g)
    | _, _ => none
  | _ => none

def tVar (P : Program) (t : TypeId) : Option (Nat × Bool) :=
  match P.info? t, tIsAgg P t with
  | some inf, some g => some (inf.size, g)
  | _, _ => none

def isInt (P : Program) (t : TypeId) (k : IntKind) : Bool :=
  match P.underlying t with
  | some (.int k') => k' == k
  | _ => false

def isStr (P : Program) (t : TypeId) : Bool :=
  match P.underlying t with
  | some .string => true
  | _ => false

def isBool (P : Program) (t : TypeId) : Bool :=
  match P.underlying t with
  | some .bool => true
  | _ => false

def partA (cs : List AVal) (off n : Nat) (g : Bool) : AVal :=
  match g with
  | true => .agg ((cs.drop off).take n)
  | false => cs.getD off .undef

theorem Rep.cells {γ : Gh} {w : World} {l : Bool} {a : AVal} {v : Value} (h : Rep γ w l a v) (h0 : ∀ vs, v ≠ .agg vs ∨ ∃ cs, a = .agg cs) : RepL γ w l a.cells v.cells.toList := by
  cases h with
  | agg h h1 => simpa [AVal.cells, Value.cells] using h
  | undef l v =>
    cases v with
    | agg vs => exact ((h0 vs).resolve_left (by simp)).elim (fun cs e => by cases e)
    | _ => exact .cons (.undef _ _) (.nil _)
  | bool => exact .cons (.bool _ _) (.nil _)
  | int => exact .cons (.int _ _ _) (.nil _)
  | str => exact .cons (.str _ _) (.nil _)
  | tuple h => exact .cons (.tuple h) (.nil _)
  | sliceRow h hs hc h1 hn hm ht => exact .cons (.sliceRow h hs hc h1 hn hm ht) (.nil _)
  | sliceNil ht ho => exact .cons (.sliceNil ht ho) (.nil _)
  | arr hb ho hn hz => exact .cons (.arr hb ho hn hz) (.nil _)
  | mrow hc hn hb => exact .cons (.mrow hc hn hb) (.nil _)
  | iptr h h1 hc => exact .cons (.iptr h h1 hc) (.nil _)
  | ptr hb ho => exact .cons (.ptr hb ho) (.nil _)
  | nilptr => exact .cons (.nilptr _) (.nil _)
  | map hb ho => exact .cons (.map hb ho) (.nil _)
  | nilmap => exact .cons (.nilmap _) (.nil _)
  | func hf hc => exact .cons (.func hf hc) (.nil _)
  | nilfunc => exact .cons (.nilfunc _) (.nil _)
  | iface h => exact .cons (.iface h) (.nil _)
  | nilIface => exact .cons (.nilIface _) (.nil _)

def AVal.one : AVal → Bool
  | .undef => false
  | .agg _ => false
  | .tuple _ => false
  | _ => true

theorem Rep.one {γ : Gh} {w : World} {l : Bool} {a : AVal} {v : Value} (h : Rep γ w l a v) (h1 : a.one = true) : v.oneCell' = true := by
  cases h <;> first | rfl | cases h1

noncomputable def hold (b : Bool) : Bool := Classical.choose (⟨b, rfl⟩ : ∃ c : Bool, c = b)
@[simp] theorem hold_eq (b : Bool) : hold b = b := Classical.choose_spec (⟨b, rfl⟩ : ∃ c : Bool, c = b)

def partV (vs : List Value) (off n : Nat) (g : Bool) : Value :=
  match g with
  | true => .agg ((vs.drop off).take n).toArray
  | false => vs.getD off undef

theorem run_part (P : Program) (w : World) {t : TypeId} {n : Nat} {g : Bool} (ht : tVar P t = some (n, g)) (vs : List Value) (off : Nat) (hl : g = false → off < vs.length) :
    (part t vs.toArray off).run P w = .ok (partV vs off n g) w := by
  unfold tVar tIsAgg at ht
  cases hi : P.info? t with
  | none => simp [hi] at ht
  | some inf =>
    cases hu : P.underlying t with
    | none => simp [hi, hu] at ht
    | some d =>
      cases d <;> simp [hi, hu] at ht <;> obtain ⟨rfl, rfl⟩ := ht
      case array => simp [part, isAgg, run_underlying hu, sizeOf, typeInfo, hi, partV]
      case struct => simp [part, isAgg, run_underlying hu, sizeOf, typeInfo, hi, partV]
      all_goals
        have hl := hl rfl
        simp [part, isAgg, run_underlying hu, List.getElem?_eq_getElem hl, partV]

theorem RepL.part {γ : Gh} {w : World} {l : Bool} {cs : List AVal} {vs : List Value} (h : RepL γ w l cs vs) (h1 : ∀ v ∈ vs, v.oneCell' = true) (off n : Nat) (g : Bool) :
    Rep γ w l (partA cs off n g) (partV vs off n g) := by
  cases g with
  | true => exact .agg ((h.drop off).take n) (fun v hv => h1 v (List.mem_of_mem_drop (List.mem_of_mem_take hv)))
  | false =>
    simp only [partA, partV]
    cases hc : cs[off]? with
    | none => simp [List.getD, hc]; exact .undef _ _
    | some a =>
      obtain ⟨v, hv, hr⟩ := h.get hc
      simpa [List.getD, hc, hv] using hr

/-! ### Numbers, bools, strings -/

noncomputable def intA (op : BinOp) (k : IntKind) (a b : Int) : Option (Bool × AVal) :=
  match op with
  | .add => some (true, .int k (k.wrap (a + b)))
  | .sub => some (true, .int k (k.wrap (a - b)))
  | .mul => some (true, .int k (k.wrap (a * b)))
  | .quo => some (decide (b ≠ 0), .int k (k.wrap (a.tdiv b)))
  | .rem => some (decide (b ≠ 0), .int k (a.tmod b))
  | .and => some (true, .int k (bits .and k a b))
  | .or => some (true, .int k (bits .or k a b))
  | .xor => some (true, .int k (bits .xor k a b))
  | .andNot => some (true, .int k (bits .andNot k a b))
  | .eql => some (true, .bool (hold (a == b)))
  | .neq => some (true, .bool (hold (a != b)))
  | .lss => some (true, .bool (hold (decide (a < b))))
  | .leq => some (true, .bool (hold (decide (a ≤ b))))
  | .gtr => some (true, .bool (hold (decide (b < a))))
  | .geq => some (true, .bool (hold (decide (b ≤ a))))
  | _ => none

noncomputable def strA (op : BinOp) (a b : List UInt8) : Option (Bool × AVal) :=
  match op with
  | .add => some (decide (a.length + b.length ≤ 9223372036854775807), .str (a ++ b))
  | .eql => some (true, .bool (hold (a == b)))
  | .neq => some (true, .bool (hold (!(a == b))))
  | .lss => some (true, .bool (hold (Op.bytesLess a b)))
  | .leq => some (true, .bool (hold (Op.bytesLess a b || a == b)))
  | .gtr => some (true, .bool (hold (!(Op.bytesLess a b || a == b))))
  | .geq => some (true, .bool (hold (!Op.bytesLess a b)))
  | _ => none

def eqC : AVal → AVal → Bool
  | .bool a, .bool b => a == b
  | .int _ a, .int _ b => a == b
  | .str a, .str b => a == b
  | _, _ => false

def eqCs : List AVal → List AVal → Bool
  | a :: as, b :: bs => eqC a b && eqCs as bs
  | _, _ => true

inductive Leaf where
  | bool | int (k : IntKind) | str
  deriving DecidableEq

def leafOf (P : Program) (t : TypeId) : Option Leaf :=
  match P.underlying t with
  | some .bool => some .bool
  | some (.int k) => some (.int k)
  | some .string => some .str
  | _ => none

def leafs (P : Program) : Nat → List Field → Option (List Leaf)
  | _, [] => some []
  | i, f :: fs =>
    if f.name = "_" ∨ f.offset ≠ i then none else
    match leafOf P f.type, leafs P (i + 1) fs with
    | some x, some r => some (x :: r)
    | _, _ => none

def Leaf.fits : Leaf → AVal → Bool
  | .bool, .bool _ => true
  | .int k, .int k' _ => k == k'
  | .str, .str _ => true
  | _, _ => false

def fitsAll : List Leaf → List AVal → Bool
  | [], [] => true
  | x :: xs, a :: as => x.fits a && fitsAll xs as
  | _, _ => false

def tPlain (P : Program) (t : TypeId) : Option (List Leaf) :=
  match P.underlying t with
  | some (.struct fs) => if P.stoodInHeld t then none else leafs P 0 fs.toList
  | _ => none

def leafs2 (P : Program) : Nat → List Field → Option (List Leaf)
  | _, [] => some []
  | i, f :: fs =>
    if f.name = "_" ∨ f.offset ≠ i then none else
    match leafOf P f.type with
    | some x =>
      match leafs2 P (i + 1) fs with
      | some r => some (x :: r)
      | none => none
    | none =>
      match tPlain P f.type, tVar P f.type with
      | some ls, some (n, true) =>
        if n = ls.length then
          match leafs2 P (i + n) fs with
          | some r => some (ls ++ r)
          | none => none
        else none
      | _, _ => none

def tTwo (P : Program) (t : TypeId) : Option (List Leaf) :=
  match P.underlying t with
  | some (.struct fs) => if P.stoodInHeld t then none else leafs2 P 0 fs.toList
  | _ => none

def nilA (op : BinOp) (r : Bool) : Option (Bool × AVal) :=
  match op with
  | .eql => some (true, .bool r)
  | .neq => some (true, .bool (!r))
  | _ => none

noncomputable def binA (P : Program) (op : BinOp) (T : TypeId) (nc : Bool) : AVal → AVal → Option (Bool × AVal)
  | .int k a, .int k' b =>
    match op with
    | .shl => some (decide (0 ≤ b), .int k (k.wrap (a * 2 ^ (min b.toNat k.bits))))
    | .shr => some (decide (0 ≤ b), .int k (a.fdiv (2 ^ (min b.toNat k.bits))))
    | op => if k = k' then intA op k a b else none
  | .str a, .str b => strA op a b
  | .bool a, .bool b => if isBool P T then nilA op (hold (a == b)) else none
  | .agg as, .agg bs =>
    match tPlain P T with
    | some ls => if fitsAll ls as && fitsAll ls bs then nilA op (hold (eqCs as bs)) else none
    | none =>
      match tTwo P T with
      | some ls => if fitsAll ls as && fitsAll ls bs then nilA op (hold (eqCs as bs)) else none
      | none => none
  | .nilptr, .nilptr => nilP op true
  | .nilptr, .ptr _ _ => nilP op false
  | .ptr _ _, .nilptr => nilP op false
  | .nilptr, .iptr _ => nilP op false
  | .iptr _, .nilptr => nilP op false
  | .nilIface, .nilIface => if nc then nilI op true else none
  | .nilIface, .iface _ _ => nilI op false
  | .iface _ _, .nilIface => nilI op false
  | _, _ => none
where
  nilP (op : BinOp) (r : Bool) : Option (Bool × AVal) :=
    match P.underlying T with
    | some (.pointer _) => nilA op r
    | _ => none
  nilI (op : BinOp) (r : Bool) : Option (Bool × AVal) :=
    match P.underlying T with
    | some (.interface _) => nilA op r
    | _ => none

theorem intA_sound {P : Program} {w : World} {op : BinOp} {T : TypeId} {k : IntKind} {a b : Int} {p : Bool} {r : AVal} (h : intA op k a b = some (p, r)) (hp : p) :
    ∃ u, (binOp op T (.int k a) (.int k b)).run P w = .ok u w ∧ ∀ γ l, Rep γ w l r u := by
  cases op <;> simp only [intA, Option.some.injEq, Prod.mk.injEq, reduceCtorEq] at h <;> obtain ⟨rfl, rfl⟩ := h
  case add => exact ⟨_, by simp [binOp, Op.intArith], fun γ l => .int _ _ _⟩
  case sub => exact ⟨_, by simp [binOp, Op.intArith], fun γ l => .int _ _ _⟩
  case mul => exact ⟨_, by simp [binOp, Op.intArith], fun γ l => .int _ _ _⟩
  case quo => exact ⟨_, by have hp := of_decide_eq_true hp; simp [binOp, Op.intDiv, hp], fun γ l => .int _ _ _⟩
  case rem => exact ⟨_, by have hp := of_decide_eq_true hp; simp [binOp, Op.intDiv, hp], fun γ l => .int _ _ _⟩
  case and => exact ⟨_, by simp [binOp, intBits_and], fun γ l => .int _ _ _⟩
  case or => exact ⟨_, by simp [binOp, intBits_or], fun γ l => .int _ _ _⟩
  case xor => exact ⟨_, by simp [binOp, intBits_xor], fun γ l => .int _ _ _⟩
  case andNot => exact ⟨_, by simp [binOp, intBits_andNot], fun γ l => .int _ _ _⟩
  case eql => exact ⟨_, by simp [binOp, Op.intCmp], fun γ l => .bool _ _⟩
  case neq => exact ⟨_, by simp [binOp, Op.intCmp], fun γ l => .bool _ _⟩
  case lss => exact ⟨_, by simp [binOp, Op.intCmp], fun γ l => .bool _ _⟩
  case leq => exact ⟨_, by simp [binOp, Op.intCmp], fun γ l => .bool _ _⟩
  case gtr => exact ⟨_, by simp [binOp, Op.intCmp], fun γ l => .bool _ _⟩
  case geq => exact ⟨_, by simp [binOp, Op.intCmp], fun γ l => .bool _ _⟩

theorem strA_sound {P : Program} {w : World} {op : BinOp} {T : TypeId} {a b : List UInt8} {p : Bool} {r : AVal} (h : strA op a b = some (p, r)) (hp : p) :
    ∃ u, (binOp op T (.string ⟨a.toArray⟩) (.string ⟨b.toArray⟩)).run P w = .ok u w ∧ ∀ γ l, Rep γ w l r u := by
  have es : ∀ x : List UInt8, (ByteArray.mk x.toArray).size = x.length := fun x => by simp [ByteArray.size]
  cases op <;> simp only [strA, Option.some.injEq, Prod.mk.injEq, reduceCtorEq] at h <;> obtain ⟨rfl, rfl⟩ := h
  case add =>
    refine ⟨.string ⟨(a ++ b).toArray⟩, ?_, fun γ l => .str _ _⟩
    have hp := of_decide_eq_true hp
    have hm : IntKind.max .i64 = 9223372036854775807 := by decide
    have h2 : ¬ (9223372036854775807 < ((a.length : Int) + (b.length : Int))) := by omega
    have h3 : (ByteArray.mk a.toArray ++ ByteArray.mk b.toArray) = ByteArray.mk (a ++ b).toArray := by
      apply ByteArray.ext
      simp
    simp [binOp, Op.stringOp, es, hm, h2, h3]
  case eql => exact ⟨.bool (a == b), by simp [binOp, Op.stringOp], fun γ l => by rw [hold_eq]; exact .bool _ _⟩
  case neq => exact ⟨.bool (!(a == b)), by simp [binOp, Op.stringOp], fun γ l => by rw [hold_eq]; exact .bool _ _⟩
  case lss => exact ⟨.bool (Op.bytesLess a b), by simp [binOp, Op.stringOp], fun γ l => by rw [hold_eq]; exact .bool _ _⟩
  case leq => exact ⟨.bool (Op.bytesLess a b || a == b), by simp [binOp, Op.stringOp], fun γ l => by rw [hold_eq]; exact .bool _ _⟩
  case gtr => exact ⟨.bool (!(Op.bytesLess a b || a == b)), by simp [binOp, Op.stringOp], fun γ l => by rw [hold_eq]; exact .bool _ _⟩
  case geq => exact ⟨.bool (!Op.bytesLess a b), by simp [binOp, Op.stringOp], fun γ l => by rw [hold_eq]; exact .bool _ _⟩

/-! ### Structs whose fields are plain -/

theorem Leaf.spec {P : Program} {t : TypeId} {x : Leaf} (h : leafOf P t = some x) :
    (x = .bool ∧ P.underlying t = some .bool) ∨ (∃ k, x = .int k ∧ P.underlying t = some (.int k)) ∨ (x = .str ∧ P.underlying t = some .string) := by
  unfold leafOf at h
  split at h <;> simp_all

theorem fits_spec {x : Leaf} {a : AVal} (h : x.fits a = true) : (x = .bool ∧ ∃ b, a = .bool b) ∨ (∃ k n, x = .int k ∧ a = .int k n) ∨ (x = .str ∧ ∃ s, a = .str s) := by
  cases x <;> cases a <;> simp [Leaf.fits] at h ⊢
  exact h.symm

theorem run_equalLeaf {P : Program} {w w0 : World} {γ : Gh} {l : Bool} {t : TypeId} {x : Leaf} (hx : leafOf P t = some x) {a b : AVal} (ha : x.fits a = true) (hb : x.fits b = true) {u v : Value}
    (hu : Rep γ w0 l a u) (hv : Rep γ w0 l b v) (d : Nat) : (Op.equalIn (d + 1) t u v).run P w = .ok (eqC a b) w := by
  rcases Leaf.spec hx with ⟨rfl, ht⟩ | ⟨k, rfl, ht⟩ | ⟨rfl, ht⟩
  · obtain ⟨_, x, rfl⟩ : Leaf.bool = .bool ∧ ∃ x, a = .bool x := by rcases fits_spec ha with h | ⟨_, _, h, _⟩ | ⟨h, _⟩ <;> first | exact h | cases h
    obtain ⟨_, y, rfl⟩ : Leaf.bool = .bool ∧ ∃ x, b = .bool x := by rcases fits_spec hb with h | ⟨_, _, h, _⟩ | ⟨h, _⟩ <;> first | exact h | cases h
    cases hu; cases hv
    simp [Op.equalIn, run_underlying ht, eqC]
  · obtain ⟨k', x, e, rfl⟩ : ∃ k' n, Leaf.int k = .int k' ∧ a = .int k' n := by rcases fits_spec ha with ⟨h, _⟩ | h | ⟨h, _⟩ <;> first | exact h | cases h
    obtain ⟨k2, y, e2, rfl⟩ : ∃ k' n, Leaf.int k = .int k' ∧ b = .int k' n := by rcases fits_spec hb with ⟨h, _⟩ | h | ⟨h, _⟩ <;> first | exact h | cases h
    cases e; cases e2
    cases hu; cases hv
    simp [Op.equalIn, run_underlying ht, eqC]
  · obtain ⟨_, x, rfl⟩ : Leaf.str = .str ∧ ∃ x, a = .str x := by rcases fits_spec ha with ⟨h, _⟩ | ⟨_, _, h, _⟩ | h <;> first | exact h | cases h
    obtain ⟨_, y, rfl⟩ : Leaf.str = .str ∧ ∃ x, b = .str x := by rcases fits_spec hb with ⟨h, _⟩ | ⟨_, _, h, _⟩ | h <;> first | exact h | cases h
    cases hu; cases hv
    have : ((ByteArray.mk x.toArray == ByteArray.mk y.toArray) : Bool) = (x == y) := by
      show (x.toArray == y.toArray) = _
      simp
    simp [Op.equalIn, run_underlying ht, eqC, this]

theorem run_part_leaf {P : Program} {w : World} {t : TypeId} {x : Leaf} (hx : leafOf P t = some x) (vs : List Value) (off : Nat) (hl : off < vs.length) : (part t vs.toArray off).run P w = .ok vs[off] w := by
  rcases Leaf.spec hx with ⟨rfl, ht⟩ | ⟨k, rfl, ht⟩ | ⟨rfl, ht⟩ <;> simp [part, isAgg, run_underlying ht, List.getElem?_eq_getElem hl]

theorem run_forIn_eq {P : Program} {w w0 : World} {γ : Gh} {l : Bool} (d : Nat) (us vs : List Value) (as bs : List AVal) (hu : RepL γ w0 l as us) (hv : RepL γ w0 l bs vs) :
    ∀ (fs : List Field) (i : Nat) (ls : List Leaf), leafs P i fs = some ls → fitsAll ls (as.drop i) = true → fitsAll ls (bs.drop i) = true → ∀ (init : Option Bool × Unit) ,
      init.1 = none →
      ∃ r, (forIn (m := Sem) fs init fun f r =>
        (do
          if f.name ≠ "_" then
            if !(← Op.equalIn (d + 1) f.type (← part f.type us.toArray f.offset) (← part f.type vs.toArray f.offset)) then return ForInStep.done (some false, ())
          return ForInStep.yield (none, ()) : Sem (ForInStep (Option Bool × Unit)))).run P w = .ok r w ∧ (r.1 = if eqCs (as.drop i) (bs.drop i) then none else some false) := by
  intro fs
  induction fs with
  | nil =>
    intro i ls hls ha hb init hi
    simp only [leafs, Option.some.injEq] at hls
    subst hls
    cases hda : as.drop i with
    | nil => exact ⟨init, by simp, by simp [eqCs, hi]⟩
    | cons x xs => rw [hda] at ha; simp [fitsAll] at ha
  | cons f fs ih =>
    intro i ls hls ha hb init hi
    simp only [leafs] at hls
    split at hls
    · cases hls
    · rename_i hno
      have hname : f.name ≠ "_" := fun e => hno (.inl e)
      have hoff : f.offset = i := Classical.byContradiction fun e => hno (.inr e)
      split at hls
      · rename_i x r hx hr
        cases hls
        cases hda : as.drop i with
        | nil => rw [hda] at ha; simp [fitsAll] at ha
        | cons a as' =>
          cases hdb : bs.drop i with
          | nil => rw [hdb] at hb; simp [fitsAll] at hb
          | cons b bs' =>
            rw [hda] at ha; rw [hdb] at hb
            simp only [fitsAll, Bool.and_eq_true] at ha hb
            have ga : as[i]? = some a := by have := congrArg (·[0]?) hda; simpa using this
            have gb : bs[i]? = some b := by have := congrArg (·[0]?) hdb; simpa using this
            obtain ⟨u, gu, ru⟩ := hu.get ga
            obtain ⟨v, gv, rv⟩ := hv.get gb
            have lu : i < us.length := by rcases Nat.lt_or_ge i us.length with h | h; exact h; rw [List.getElem?_eq_none h] at gu; cases gu
            have lv : i < vs.length := by rcases Nat.lt_or_ge i vs.length with h | h; exact h; rw [List.getElem?_eq_none h] at gv; cases gv
            have eu : us[i] = u := by rw [List.getElem?_eq_getElem lu] at gu; exact Option.some.inj gu
            have ev : vs[i] = v := by rw [List.getElem?_eq_getElem lv] at gv; exact Option.some.inj gv
            have h1 := run_part_leaf (P := P) (w := w) hx us f.offset (by rw [hoff]; exact lu)
            have h2 := run_part_leaf (P := P) (w := w) hx vs f.offset (by rw [hoff]; exact lv)
            have h3 := run_equalLeaf (P := P) (w := w) hx ha.1 hb.1 ru rv d
            simp only [hoff, eu] at h1
            simp only [hoff, ev] at h2
            have da : as.drop (i + 1) = as' := by rw [← List.drop_drop, hda]; rfl
            have db : bs.drop (i + 1) = bs' := by rw [← List.drop_drop, hdb]; rfl
            cases hc : eqC a b with
            | true =>
              rw [hc] at h3
              obtain ⟨r', hr1, hr2⟩ := ih (i + 1) r hr (by rw [da]; exact ha.2) (by rw [db]; exact hb.2) (none, ()) rfl
              rw [da, db] at hr2
              refine ⟨r', ?_, by simpa [eqCs, hc] using hr2⟩
              simp only [List.forIn_cons]
              simp [hname, hoff, h1, h2, h3]
              simpa using hr1
            | false =>
              rw [hc] at h3
              refine ⟨(some false, ()), ?_, by simp [eqCs, hc]⟩
              simp only [List.forIn_cons]
              simp [hname, hoff, h1, h2, h3]
      · cases hls

theorem run_equalInPlain {P : Program} {w w0 : World} {γ : Gh} {l : Bool} {T : TypeId} {ls : List Leaf} (hT : tPlain P T = some ls) {as bs : List AVal} {us vs : List Value} (hu : RepL γ w0 l as us) (hv : RepL γ w0 l bs vs)
    (ha : fitsAll ls as = true) (hb : fitsAll ls bs = true) (d : Nat) : (Op.equalIn (d + 1 + 1) T (.agg us.toArray) (.agg vs.toArray)).run P w = .ok (eqCs as bs) w := by
  unfold tPlain at hT
  split at hT
  · rename_i fs hfs
    split at hT
    · cases hT
    · rename_i hstood
      obtain ⟨r, hr1, hr2⟩ := run_forIn_eq (P := P) (w := w) d us vs as bs hu hv fs.toList 0 ls hT (by simpa using ha) (by simpa using hb) (none, ()) rfl
      simp only [List.drop_zero] at hr2
      rw [Op.equalIn]
      simp only [Sem.run_bind, run_underlying hfs, Result.andThen_ok, run_program, hstood, Bool.false_eq_true, if_false]
      refine (congrArg (fun x => Result.andThen x _) (?_ : _ = .ok r w)).trans ?_
      · rw [← Array.forIn_toList]; exact hr1
      · simp only [Result.andThen_ok]
        cases he : eqCs as bs with
        | true => rw [he, if_pos rfl] at hr2; rw [hr2]; rfl
        | false => rw [he, if_neg (by simp)] at hr2; rw [hr2]; rfl
  · cases hT

theorem eqGuardType_plain {P : Program} {T : TypeId} {ls : List Leaf} (hT : tPlain P T = some ls) (d : Nat) : P.eqGuardType (d + 1 + 1) T = false := by
  unfold tPlain at hT
  split at hT
  · rename_i fs hfs
    split at hT
    · cases hT
    · have key : ∀ (l : List Field) (i : Nat) (ls : List Leaf), leafs P i l = some ls → ∀ f ∈ l, P.eqGuardType (d + 1) f.type = false := by
        intro l
        induction l with
        | nil => intro _ _ _ f hf; cases hf
        | cons x r ih =>
          intro i ls h f hf
          simp only [leafs] at h
          split at h
          · cases h
          · split at h
            · rename_i y z hx hr
              rcases List.mem_cons.1 hf with rfl | hf
              · rcases Leaf.spec hx with ⟨_, ht⟩ | ⟨k, _, ht⟩ | ⟨_, ht⟩ <;> simp [Program.eqGuardType, ht]
              · exact ih _ _ hr f hf
            · cases h
      rw [Program.eqGuardType]
      simp only [hfs]
      rw [← Array.any_toList, List.any_eq_false]
      intro f hf
      simp [key _ _ _ hT f hf]
  · cases hT

theorem run_eqGuard_plain {P : Program} {w : World} {T : TypeId} {ls : List Leaf} (hT : tPlain P T = some ls) (op : BinOp) (x y : Operand) (us vs : Array Value) : (eqGuard op T x y (.agg us) (.agg vs)).run P w = .ok () w := by
  unfold eqGuard
  have hd : P.depth = 2 * (P.types.size + Made.depth) + 1 + 1 := rfl
  have := eqGuardType_plain hT (2 * (P.types.size + Made.depth))
  rw [← hd] at this
  cases op <;> simp [this]

theorem fitsAll_append : ∀ {ls r : List Leaf} {as : List AVal}, fitsAll (ls ++ r) as = true → fitsAll ls (as.take ls.length) = true ∧ fitsAll r (as.drop ls.length) = true
  | [], r, as, h => ⟨by simp [fitsAll], by simpa using h⟩
  | x :: ls, r, [], h => by simp [fitsAll] at h
  | x :: ls, r, a :: as, h => by
    simp only [List.cons_append, fitsAll, Bool.and_eq_true] at h
    have := fitsAll_append (as := as) h.2
    refine ⟨?_, by simpa using this.2⟩
    simp only [List.length_cons, List.take_succ_cons, fitsAll, Bool.and_eq_true]
    exact ⟨h.1, this.1⟩
theorem eqCs_split : ∀ (n : Nat) (as bs : List AVal), eqCs as bs = (eqCs (as.take n) (bs.take n) && eqCs (as.drop n) (bs.drop n))
  | 0, as, bs => by simp [eqCs]
  | n + 1, [], bs => by simp [eqCs]
  | n + 1, a :: as, [] => by simp [eqCs]
  | n + 1, a :: as, b :: bs => by
    simp only [List.take_succ_cons, List.drop_succ_cons, eqCs]
    rw [eqCs_split n as bs, Bool.and_assoc]

theorem run_forIn_eq2 {P : Program} {w w0 : World} {γ : Gh} {l : Bool} (d : Nat) (us vs : List Value) (as bs : List AVal) (hu : RepL γ w0 l as us) (hv : RepL γ w0 l bs vs) :
    ∀ (fs : List Field) (i : Nat) (ls : List Leaf), leafs2 P i fs = some ls → fitsAll ls (as.drop i) = true → fitsAll ls (bs.drop i) = true → ∀ (init : Option Bool × Unit) ,
      init.1 = none →
      ∃ r, (forIn (m := Sem) fs init fun f r =>
        (do
          if f.name ≠ "_" then
            if !(← Op.equalIn (d + 1 + 1) f.type (← part f.type us.toArray f.offset) (← part f.type vs.toArray f.offset)) then return ForInStep.done (some false, ())
          return ForInStep.yield (none, ()) : Sem (ForInStep (Option Bool × Unit)))).run P w = .ok r w ∧ (r.1 = if eqCs (as.drop i) (bs.drop i) then none else some false) := by
  intro fs
  induction fs with
  | nil =>
    intro i ls hls ha hb init hi
    simp only [leafs2, Option.some.injEq] at hls
    subst hls
    cases hda : as.drop i with
    | nil => exact ⟨init, by simp, by simp [eqCs, hi]⟩
    | cons x xs => rw [hda] at ha; simp [fitsAll] at ha
  | cons f fs ih =>
    intro i ls hls ha hb init hi
    simp only [leafs2] at hls
    split at hls
    · cases hls
    · rename_i hno
      have hname : f.name ≠ "_" := fun e => hno (.inl e)
      have hoff : f.offset = i := Classical.byContradiction fun e => hno (.inr e)
      split at hls
      · rename_i x hx
        split at hls
        · rename_i r hr
          cases hls
          cases hda : as.drop i with
          | nil => rw [hda] at ha; simp [fitsAll] at ha
          | cons a as' =>
            cases hdb : bs.drop i with
            | nil => rw [hdb] at hb; simp [fitsAll] at hb
            | cons b bs' =>
              rw [hda] at ha; rw [hdb] at hb
              simp only [fitsAll, Bool.and_eq_true] at ha hb
              have ga : as[i]? = some a := by have := congrArg (·[0]?) hda; simpa using this
              have gb : bs[i]? = some b := by have := congrArg (·[0]?) hdb; simpa using this
              obtain ⟨u, gu, ru⟩ := hu.get ga
              obtain ⟨v, gv, rv⟩ := hv.get gb
              have lu : i < us.length := by rcases Nat.lt_or_ge i us.length with h | h; exact h; rw [List.getElem?_eq_none h] at gu; cases gu
              have lv : i < vs.length := by rcases Nat.lt_or_ge i vs.length with h | h; exact h; rw [List.getElem?_eq_none h] at gv; cases gv
              have eu : us[i] = u := by rw [List.getElem?_eq_getElem lu] at gu; exact Option.some.inj gu
              have ev : vs[i] = v := by rw [List.getElem?_eq_getElem lv] at gv; exact Option.some.inj gv
              have h1 := run_part_leaf (P := P) (w := w) hx us f.offset (by rw [hoff]; exact lu)
              have h2 := run_part_leaf (P := P) (w := w) hx vs f.offset (by rw [hoff]; exact lv)
              have h3 := run_equalLeaf (P := P) (w := w) hx ha.1 hb.1 ru rv (d + 1)
              simp only [hoff, eu] at h1
              simp only [hoff, ev] at h2
              have da : as.drop (i + 1) = as' := by rw [← List.drop_drop, hda]; rfl
              have db : bs.drop (i + 1) = bs' := by rw [← List.drop_drop, hdb]; rfl
              cases hc : eqC a b with
              | true =>
                rw [hc] at h3
                obtain ⟨r', hr1, hr2⟩ := ih (i + 1) r hr (by rw [da]; exact ha.2) (by rw [db]; exact hb.2) (none, ()) rfl
                rw [da, db] at hr2
                refine ⟨r', ?_, by simpa [eqCs, hc] using hr2⟩
                simp only [List.forIn_cons]
                simp [hname, hoff, h1, h2, h3]
                simpa using hr1
              | false =>
                rw [hc] at h3
                refine ⟨(some false, ()), ?_, by simp [eqCs, hc]⟩
                simp only [List.forIn_cons]
                simp [hname, hoff, h1, h2, h3]
        · cases hls
      · split at hls
        · rename_i ls1 n hp hvar
          split at hls
          · rename_i hn
            split at hls
            · rename_i r hr
              cases hls
              subst hn
              have fa := fitsAll_append ha
              have fb := fitsAll_append hb
              have h1 := run_part P w hvar us f.offset (fun h => by cases h)
              have h2 := run_part P w hvar vs f.offset (fun h => by cases h)
              rw [hoff] at h1 h2
              have h3 := run_equalInPlain (P := P) (w := w) hp ((hu.drop i).take ls1.length) ((hv.drop i).take ls1.length) fa.1 fb.1 d
              have es := eqCs_split ls1.length (as.drop i) (bs.drop i)
              simp only [partV] at h1 h2
              cases hc : eqCs ((as.drop i).take ls1.length) ((bs.drop i).take ls1.length) with
              | true =>
                rw [hc] at h3
                obtain ⟨r', hr1, hr2⟩ := ih (i + ls1.length) r hr (by rw [← List.drop_drop]; exact fa.2) (by rw [← List.drop_drop]; exact fb.2) (none, ()) rfl
                rw [← List.drop_drop, ← List.drop_drop] at hr2
                refine ⟨r', ?_, by rw [es, hc, Bool.true_and]; exact hr2⟩
                simp only [List.forIn_cons]
                simp [hname, hoff, h1, h2, h3]
                simpa using hr1
              | false =>
                rw [hc] at h3
                refine ⟨(some false, ()), ?_, by rw [es, hc]; simp⟩
                simp only [List.forIn_cons]
                simp [hname, hoff, h1, h2, h3]
            · cases hls
          · cases hls
        · cases hls

theorem run_equalInTwo {P : Program} {w w0 : World} {γ : Gh} {l : Bool} {T : TypeId} {ls : List Leaf} (hT : tTwo P T = some ls) {as bs : List AVal} {us vs : List Value} (hu : RepL γ w0 l as us) (hv : RepL γ w0 l bs vs)
    (ha : fitsAll ls as = true) (hb : fitsAll ls bs = true) (d : Nat) : (Op.equalIn (d + 1 + 1 + 1) T (.agg us.toArray) (.agg vs.toArray)).run P w = .ok (eqCs as bs) w := by
  unfold tTwo at hT
  split at hT
  · rename_i fs hfs
    split at hT
    · cases hT
    · rename_i hstood
      obtain ⟨r, hr1, hr2⟩ := run_forIn_eq2 (P := P) (w := w) d us vs as bs hu hv fs.toList 0 ls hT (by simpa using ha) (by simpa using hb) (none, ()) rfl
      simp only [List.drop_zero] at hr2
      rw [Op.equalIn]
      simp only [Sem.run_bind, run_underlying hfs, Result.andThen_ok, run_program, hstood, Bool.false_eq_true, if_false]
      refine (congrArg (fun x => Result.andThen x _) (?_ : _ = .ok r w)).trans ?_
      · rw [← Array.forIn_toList]; exact hr1
      · simp only [Result.andThen_ok]
        cases he : eqCs as bs with
        | true => rw [he, if_pos rfl] at hr2; rw [hr2]; rfl
        | false => rw [he, if_neg (by simp)] at hr2; rw [hr2]; rfl
  · cases hT

theorem eqGuardType_two {P : Program} {T : TypeId} {ls : List Leaf} (hT : tTwo P T = some ls) (d : Nat) : P.eqGuardType (d + 1 + 1 + 1) T = false := by
  unfold tTwo at hT
  split at hT
  · rename_i fs hfs
    split at hT
    · cases hT
    · have key : ∀ (l : List Field) (i : Nat) (ls : List Leaf), leafs2 P i l = some ls → ∀ f ∈ l, P.eqGuardType (d + 1 + 1) f.type = false := by
        intro l
        induction l with
        | nil => intro _ _ _ f hf; cases hf
        | cons x r ih =>
          intro i ls h f hf
          simp only [leafs2] at h
          split at h
          · cases h
          · split at h
            · rename_i y hx
              split at h
              · rename_i z hr
                rcases List.mem_cons.1 hf with rfl | hf
                · rcases Leaf.spec hx with ⟨_, ht⟩ | ⟨k, _, ht⟩ | ⟨_, ht⟩ <;> simp [Program.eqGuardType, ht]
                · exact ih _ _ hr f hf
              · cases h
            · split at h
              · rename_i ls1 n hp hvar
                split at h
                · split at h
                  · rename_i z hr
                    rcases List.mem_cons.1 hf with rfl | hf
                    · exact eqGuardType_plain hp d
                    · exact ih _ _ hr f hf
                  · cases h
                · cases h
              · cases h
      rw [Program.eqGuardType]
      simp only [hfs]
      rw [← Array.any_toList, List.any_eq_false]
      intro f hf
      simp [key _ _ _ hT f hf]
  · cases hT

theorem run_eqGuard_two {P : Program} {w : World} {T : TypeId} {ls : List Leaf} (hT : tTwo P T = some ls) (op : BinOp) (x y : Operand) (us vs : Array Value) : (eqGuard op T x y (.agg us) (.agg vs)).run P w = .ok () w := by
  unfold eqGuard
  have h0 : Made.depth = (Made.depth - 1) + 1 := by decide
  have hd : P.depth = 2 * (P.types.size + (Made.depth - 1)) + 1 + 1 + 1 + 1 := by
    show 2 * (P.types.size + Made.depth) + 1 + 1 = _
    omega
  have := eqGuardType_two hT (2 * (P.types.size + (Made.depth - 1)) + 1)
  rw [← hd] at this
  cases op <;> simp [this]

def isNilConst : Operand → Bool
  | .const .nilIface => true
  | _ => false

theorem isNilConst_spec {x : Operand} (h : isNilConst x = true) : x = .const .nilIface := by
  unfold isNilConst at h
  split at h
  · rfl
  · cases h

theorem run_equal_bool {P : Program} {T : TypeId} (ht : P.underlying T = some .bool) (w : World) (s t : Bool) : (Op.equal T (.bool s) (.bool t)).run P w = .ok (s == t) w := by
  show (Op.equalIn (9999 + 1) T _ _).run P w = _
  rw [Op.equalIn]
  simp [run_underlying ht]

theorem run_equal_ptr {P : Program} {T e : TypeId} (ht : P.underlying T = some (.pointer e)) (w : World) (a b : Option Addr) (h : a = none ∨ b = none) : (Op.equal T (.pointer a) (.pointer b)).run P w = .ok (a.isNone && b.isNone) w := by
  show (Op.equalIn (9999 + 1) T _ _).run P w = _
  rw [Op.equalIn]
  simp only [Sem.run_bind, run_underlying ht, Result.andThen_ok]
  cases a with
  | none => simp
  | some a => cases b with
    | none => simp
    | some b => rcases h with h | h <;> cases h

theorem run_equal_iface {P : Program} {T : TypeId} {ms : Array (String × TypeId)} (ht : P.underlying T = some (.interface ms)) (w : World) (t : TypeId) (v : Value) :
    (Op.equal T .nilIface .nilIface).run P w = .ok true w ∧ (Op.equal T .nilIface (.iface t v)).run P w = .ok false w ∧ (Op.equal T (.iface t v) .nilIface).run P w = .ok false w := by
  refine ⟨?_, ?_, ?_⟩ <;>
    (show (Op.equalIn (9999 + 1) T _ _).run P w = _
     rw [Op.equalIn]
     simp [run_underlying ht])

theorem run_eqGuard_ptr (P : Program) (w : World) (op : BinOp) (T : TypeId) (x y : Operand) (a b : Option Addr) : (eqGuard op T x y (.pointer a) (.pointer b)).run P w = .ok () w := by
  cases op <;> simp [eqGuard]

theorem binA_ptr {P : Program} {op : BinOp} {T : TypeId} {s : Bool} {p : Bool} {r : AVal} (h : binA.nilP P T op s = some (p, r)) {γ : Gh} {w : World} {l : Bool} {a b : Option Addr} (hab : a = none ∨ b = none) (hs : s = (a.isNone && b.isNone)) (x y : Operand) :
    ∃ z, (do eqGuard op T x y (.pointer a) (.pointer b); binOp op T (.pointer a) (.pointer b) : Sem Value).run P w = .ok z w ∧ Rep γ w l r z := by
  unfold binA.nilP at h
  split at h
  · rename_i e ht
    have hg := run_eqGuard_ptr P w op T x y a b
    have he := run_equal_ptr ht w a b hab
    cases op <;> simp only [nilA, Option.some.injEq, Prod.mk.injEq, reduceCtorEq] at h <;> obtain ⟨rfl, rfl⟩ := h
    · refine ⟨.bool s, ?_, .bool _ _⟩
      rw [hs]
      simp only [Sem.run_bind, hg, Result.andThen_ok]
      cases a <;> cases b <;> first | (simp [binOp]; simp [he]) | (rcases hab with h | h <;> cases h)
    · refine ⟨.bool (!s), ?_, .bool _ _⟩
      rw [hs]
      simp only [Sem.run_bind, hg, Result.andThen_ok]
      cases a <;> cases b <;> first | (simp [binOp]; simp [he]) | (rcases hab with h | h <;> cases h)
  · cases h

theorem nilA_spec {op : BinOp} {s : Bool} {p : Bool} {r : AVal} (h : nilA op s = some (p, r)) : (op = .eql ∧ r = .bool s) ∨ (op = .neq ∧ r = .bool (!s)) := by
  cases op <;> simp only [nilA, Option.some.injEq, Prod.mk.injEq, reduceCtorEq] at h <;> obtain ⟨rfl, rfl⟩ := h <;> simp

theorem binA_sound {P : Program} {op : BinOp} {T : TypeId} {nc : Bool} {a b : AVal} {p : Bool} {r : AVal} (h : binA P op T nc a b = some (p, r)) (hp : p) {γ : Gh} {w : World} {l : Bool} {u v : Value}
    (hu : Rep γ w l a u) (hv : Rep γ w l b v) {x y : Operand} (hnc : nc = true → (isNilConst x || isNilConst y) = true) :
    ∃ z, (do eqGuard op T x y u v; binOp op T u v : Sem Value).run P w = .ok z w ∧ Rep γ w l r z := by
  unfold binA at h
  split at h
  · rename_i k m k' n
    cases hu; cases hv
    have hg : (eqGuard op T x y (.int k m) (.int k' n)).run P w = .ok () w := by cases op <;> simp [eqGuard]
    split at h
    · simp only [Option.some.injEq, Prod.mk.injEq] at h
      obtain ⟨rfl, rfl⟩ := h
      first | replace hp := of_decide_eq_true hp | skip
      have : ¬ n < 0 := by omega
      exact ⟨_, by simp [hg, binOp, Op.shift, this], .int _ _ _⟩
    · simp only [Option.some.injEq, Prod.mk.injEq] at h
      obtain ⟨rfl, rfl⟩ := h
      first | replace hp := of_decide_eq_true hp | skip
      have : ¬ n < 0 := by omega
      exact ⟨_, by simp [hg, binOp, Op.shift, this], .int _ _ _⟩
    · split at h
      · rename_i hk
        subst hk
        obtain ⟨z, h1, h2⟩ := intA_sound (P := P) (w := w) (T := T) h hp
        exact ⟨z, by simp [hg, h1], h2 γ l⟩
      · cases h
  · rename_i s t
    cases hu; cases hv
    have hg : (eqGuard op T x y (.string ⟨s.toArray⟩) (.string ⟨t.toArray⟩)).run P w = .ok () w := by cases op <;> simp [eqGuard]
    obtain ⟨z, h1, h2⟩ := strA_sound (P := P) (w := w) (T := T) h hp
    exact ⟨z, by simp [hg, h1], h2 γ l⟩
  · rename_i s t
    cases hu; cases hv
    have hg : (eqGuard op T x y (.bool s) (.bool t)).run P w = .ok () w := by cases op <;> simp [eqGuard]
    split at h
    · rename_i hb
      unfold isBool at hb
      split at hb
      · rename_i ht
        have he := run_equal_bool ht w s t
        rcases nilA_spec h with ⟨rfl, rfl⟩ | ⟨rfl, rfl⟩
        · exact ⟨.bool (s == t), by simp [hg, binOp]; simp [he], (by first | exact .bool _ _ | (rw [hold_eq]; exact .bool _ _))⟩
        · exact ⟨.bool (!(s == t)), by simp [hg, binOp]; simp [he], (by first | exact .bool _ _ | (rw [hold_eq]; exact .bool _ _))⟩
      · cases hb
    · cases h
  · rename_i as bs
    cases hu with
    | agg h1 h1' =>
      cases hv with
      | agg h2 h2' =>
        rename_i us vs
        split at h
        · rename_i ls hls
          split at h
          · rename_i hf
            simp only [Bool.and_eq_true] at hf
            have hg := run_eqGuard_plain (w := w) hls op x y us.toArray vs.toArray
            have he := run_equalInPlain (P := P) (w := w) hls h1 h2 hf.1 hf.2 9998
            have he' : (Op.equal T (.agg us.toArray) (.agg vs.toArray)).run P w = .ok (eqCs as bs) w := he
            rcases nilA_spec h with ⟨rfl, rfl⟩ | ⟨rfl, rfl⟩
            · exact ⟨.bool (eqCs as bs), by simp [hg, binOp]; simp [he'], (by first | exact .bool _ _ | (rw [hold_eq]; exact .bool _ _))⟩
            · exact ⟨.bool (!(eqCs as bs)), by simp [hg, binOp]; simp [he'], (by first | exact .bool _ _ | (rw [hold_eq]; exact .bool _ _))⟩
          · cases h
        · split at h
          · rename_i ls hls
            split at h
            · rename_i hf
              simp only [Bool.and_eq_true] at hf
              have hg := run_eqGuard_two (w := w) hls op x y us.toArray vs.toArray
              have he := run_equalInTwo (P := P) (w := w) hls h1 h2 hf.1 hf.2 9997
              have he' : (Op.equal T (.agg us.toArray) (.agg vs.toArray)).run P w = .ok (eqCs as bs) w := he
              rcases nilA_spec h with ⟨rfl, rfl⟩ | ⟨rfl, rfl⟩
              · exact ⟨.bool (eqCs as bs), by simp [hg, binOp]; simp [he'], (by first | exact .bool _ _ | (rw [hold_eq]; exact .bool _ _))⟩
              · exact ⟨.bool (!(eqCs as bs)), by simp [hg, binOp]; simp [he'], (by first | exact .bool _ _ | (rw [hold_eq]; exact .bool _ _))⟩
            · cases h
          · cases h
  · cases hu; cases hv; exact binA_ptr h (.inl rfl) rfl x y
  · cases hu; cases hv; exact binA_ptr h (.inl rfl) rfl x y
  · cases hu; cases hv; exact binA_ptr h (.inr rfl) rfl x y
  · cases hu; cases hv; exact binA_ptr h (.inl rfl) rfl x y
  · cases hu; cases hv; exact binA_ptr h (.inr rfl) rfl x y
  · cases hu; cases hv
    split at h
    · rename_i hn
      have hn := hnc hn
      unfold binA.nilI at h
      split at h
      · rename_i ms ht
        have he := (run_equal_iface ht w 0 .nilIface).1
        have hg : (eqGuard op T x y .nilIface .nilIface).run P w = .ok () w := by
          have hn : isNilConst x = true ∨ isNilConst y = true := by simpa using hn
          rcases hn with h | h
          · rw [isNilConst_spec h]; cases op <;> simp [eqGuard]
          · rw [isNilConst_spec h]; cases op <;> simp [eqGuard]
        rcases nilA_spec h with ⟨rfl, rfl⟩ | ⟨rfl, rfl⟩
        · exact ⟨.bool true, by simp [hg, binOp]; simp [he], (by first | exact .bool _ _ | (rw [hold_eq]; exact .bool _ _))⟩
        · exact ⟨.bool (!true), by simp [hg, binOp]; simp [he], (by first | exact .bool _ _ | (rw [hold_eq]; exact .bool _ _))⟩
      · cases h
    · cases h
  · cases hu; cases hv
    rename_i t c v' hv'
    unfold binA.nilI at h
    split at h
    · rename_i ms ht
      have he := (run_equal_iface ht w t v').2.1
      have hg : (eqGuard op T x y .nilIface (.iface t v')).run P w = .ok () w := by cases op <;> simp [eqGuard]
      rcases nilA_spec h with ⟨rfl, rfl⟩ | ⟨rfl, rfl⟩
      · exact ⟨.bool false, by simp [hg, binOp]; simp [he], (by first | exact .bool _ _ | (rw [hold_eq]; exact .bool _ _))⟩
      · exact ⟨.bool (!false), by simp [hg, binOp]; simp [he], (by first | exact .bool _ _ | (rw [hold_eq]; exact .bool _ _))⟩
    · cases h
  · cases hu; cases hv
    rename_i t c v' hv'
    unfold binA.nilI at h
    split at h
    · rename_i ms ht
      have he := (run_equal_iface ht w t v').2.2
      have hg : (eqGuard op T x y (.iface t v') .nilIface).run P w = .ok () w := by cases op <;> simp [eqGuard]
      rcases nilA_spec h with ⟨rfl, rfl⟩ | ⟨rfl, rfl⟩
      · exact ⟨.bool false, by simp [hg, binOp]; simp [he], (by first | exact .bool _ _ | (rw [hold_eq]; exact .bool _ _))⟩
      · exact ⟨.bool (!false), by simp [hg, binOp]; simp [he], (by first | exact .bool _ _ | (rw [hold_eq]; exact .bool _ _))⟩
    · cases h
  · cases h

/-! ### Maps' keys -/
def kOk (P : Program) (T : TypeId) (a : AVal) : Bool :=
  match leafOf P T with
  | some x => x.fits a
  | none =>
    match tPlain P T with
    | some ls => (match a with | .agg as => fitsAll ls as | _ => false)
    | none => false
def eqK : AVal → AVal → Bool
  | .agg as, .agg bs => eqCs as bs
  | a, b => eqC a b
def mapFind (k : AVal) : List (AVal × AVal) → Nat → Option (Nat × AVal)
  | [], _ => none
  | x :: r, i => match eqK k x.1 with
    | true => some (i, x.2)
    | false => mapFind k r (i + 1)
def mapPut (k v : AVal) (es : List (AVal × AVal)) : List (AVal × AVal) :=
  match mapFind k es 0 with
  | some x => es.set x.1 (k, v)
  | none => es ++ [(k, v)]
def mapDel (k : AVal) (es : List (AVal × AVal)) : List (AVal × AVal) :=
  match mapFind k es 0 with
  | some x => es.eraseIdx x.1
  | none => es

theorem eqK_leaf {x : Leaf} {a b : AVal} (h : x.fits a = true) : eqK a b = eqC a b := by
  rcases fits_spec h with ⟨_, b, rfl⟩ | ⟨k, n, _, rfl⟩ | ⟨_, s, rfl⟩ <;> rfl

theorem run_equalK {P : Program} {w w0 : World} {γ : Gh} {l : Bool} {T : TypeId} {a b : AVal} (ha : kOk P T a = true) (hb : kOk P T b = true) {u v : Value} (hu : Rep γ w0 l a u) (hv : Rep γ w0 l b v) :
    (Op.equal T u v).run P w = .ok (eqK a b) w := by
  unfold kOk at ha hb
  cases hx : leafOf P T with
  | some x =>
    rw [hx] at ha hb
    simp only [] at ha hb
    rw [eqK_leaf ha]
    exact run_equalLeaf hx ha hb hu hv 9999
  | none =>
    rw [hx] at ha hb
    simp only [] at ha hb
    cases ht : tPlain P T with
    | none => rw [ht] at ha; cases ha
    | some ls =>
      rw [ht] at ha hb
      simp only [] at ha hb
      split at ha
      · split at hb
        · cases hu with
          | agg hu h1 => cases hv with
            | agg hv h2 => exact run_equalInPlain ht hu hv ha hb 9998
        · cases hb
      · cases ha

theorem eqC_val {γ : Gh} {w : World} {l : Bool} {x : Leaf} {a b : AVal} (ha : x.fits a = true) (hb : x.fits b = true) (he : eqC a b = true) {u v : Value} (hu : Rep γ w l a u) (hv : Rep γ w l b v) : u = v ∧ ∀ n, Instr.sameBits n u u = true := by
  rcases fits_spec ha with ⟨rfl, x, rfl⟩ | ⟨k, n, rfl, rfl⟩ | ⟨rfl, s, rfl⟩
  · rcases fits_spec hb with ⟨_, y, rfl⟩ | ⟨_, _, h, _⟩ | ⟨h, _⟩
    · simp only [eqC, beq_iff_eq] at he
      subst he
      cases hu; cases hv
      exact ⟨rfl, fun n => by cases n <;> simp [Instr.sameBits]⟩
    · cases h
    · cases h
  · rcases fits_spec hb with ⟨h, _⟩ | ⟨k', m, h, rfl⟩ | ⟨h, _⟩
    · cases h
    · cases h
      simp only [eqC, beq_iff_eq] at he
      subst he
      cases hu; cases hv
      exact ⟨rfl, fun n => by cases n <;> simp [Instr.sameBits]⟩
    · cases h
  · rcases fits_spec hb with ⟨h, _⟩ | ⟨_, _, h, _⟩ | ⟨_, t, rfl⟩
    · cases h
    · cases h
    · simp only [eqC, beq_iff_eq] at he
      subst he
      cases hu; cases hv
      have hs : ((ByteArray.mk s.toArray == ByteArray.mk s.toArray) : Bool) = true := by
        show (s.toArray == s.toArray) = true
        simp
      exact ⟨rfl, fun n => by cases n <;> simp only [Instr.sameBits, hs]⟩

theorem eqCs_val {γ : Gh} {w : World} {l : Bool} : ∀ {ls : List Leaf} {as bs : List AVal} {us vs : List Value}, fitsAll ls as = true → fitsAll ls bs = true → eqCs as bs = true → RepL γ w l as us → RepL γ w l bs vs →
    us = vs ∧ ∀ n, (us.zip us).all (fun x => Instr.sameBits n x.1 x.2) = true
  | [], [], [], _, _, _, _, _, .nil _, .nil _ => ⟨rfl, fun n => rfl⟩
  | x :: xs, a :: as, b :: bs, _, _, ha, hb, he, .cons h1 t1, .cons h2 t2 => by
    simp only [fitsAll, Bool.and_eq_true] at ha hb
    simp only [eqCs, Bool.and_eq_true] at he
    obtain ⟨e1, e2⟩ := eqC_val ha.1 hb.1 he.1 h1 h2
    obtain ⟨e3, e4⟩ := eqCs_val ha.2 hb.2 he.2 t1 t2
    exact ⟨by rw [e1, e3], fun n => by simp only [List.zip_cons_cons, List.all_cons, e2 n, e4 n, Bool.and_self]⟩
  | [], [], _ :: _, _, _, _, hb, _, _, _ => by simp [fitsAll] at hb
  | [], _ :: _, _, _, _, ha, _, _, _, _ => by simp [fitsAll] at ha
  | _ :: _, [], _, _, _, ha, _, _, _, _ => by simp [fitsAll] at ha
  | _ :: _, _ :: _, [], _, _, _, hb, _, _, _ => by simp [fitsAll] at hb

theorem run_keyStays {P : Program} {w w0 : World} {γ : Gh} {l : Bool} {T : TypeId} {a b : AVal} (ha : kOk P T a = true) (hb : kOk P T b = true) (he : eqK a b = true) {u v : Value} (hu : Rep γ w0 l a u) (hv : Rep γ w0 l b v) :
    (Instr.keyThatStays v u).run P w = .ok u w := by
  have key : v = u ∧ Instr.sameBits 10000 u u = true := by
    unfold kOk at ha hb
    cases hx : leafOf P T with
    | some x =>
      rw [hx] at ha hb
      simp only [] at ha hb
      rw [eqK_leaf ha] at he
      obtain ⟨h1, h2⟩ := eqC_val ha hb he hu hv
      exact ⟨h1.symm, h2 _⟩
    | none =>
      rw [hx] at ha hb
      simp only [] at ha hb
      cases ht : tPlain P T with
      | none => rw [ht] at ha; cases ha
      | some ls =>
        rw [ht] at ha hb
        simp only [] at ha hb
        split at ha
        · split at hb
          · cases hu with
            | agg hu h1 => cases hv with
              | agg hv h2 =>
                obtain ⟨e1, e2⟩ := eqCs_val ha hb he hu hv
                subst e1
                exact ⟨rfl, by simp only [Instr.sameBits, beq_self_eq_true, Bool.true_and]; exact e2 9999⟩
          · cases hb
        · cases ha
  obtain ⟨rfl, h⟩ := key
  simp [Instr.keyThatStays, h]

theorem run_forIn_ck {P : Program} {w : World} {e : Bool} (d : Nat) (us : List Value) : ∀ (fs : List Field) (i : Nat) (ls : List Leaf), leafs P i fs = some ls → i + ls.length ≤ us.length →
    (forIn (m := Sem) fs PUnit.unit fun f r =>
      (do
        if f.name ≠ "_" then Instr.checkKey e (d + 1) f.type (← part f.type us.toArray f.offset)
        return ForInStep.yield PUnit.unit : Sem (ForInStep PUnit))).run P w = .ok PUnit.unit w := by
  intro fs
  induction fs with
  | nil => intro i ls _ _; simp
  | cons f fs ih =>
    intro i ls hls hl
    simp only [leafs] at hls
    split at hls
    · cases hls
    · rename_i hno
      have hname : f.name ≠ "_" := fun e => hno (.inl e)
      have hoff : f.offset = i := Classical.byContradiction fun e => hno (.inr e)
      split at hls
      · rename_i x r hx hr
        cases hls
        simp only [List.length_cons] at hl
        have lu : i < us.length := by omega
        have h1 := run_part_leaf (P := P) (w := w) hx us f.offset (by rw [hoff]; exact lu)
        simp only [hoff] at h1
        have h2 : (Instr.checkKey e (d + 1) f.type us[i]).run P w = .ok () w := by
          rcases Leaf.spec hx with ⟨rfl, ht⟩ | ⟨k, rfl, ht⟩ | ⟨rfl, ht⟩ <;> simp [Instr.checkKey, run_underlying ht]
        have h3 := ih (i + 1) r hr (by omega)
        simp only [List.forIn_cons]
        simp [hname, hoff, h1, h2]
        simpa using h3
      · cases hls

theorem fitsAll_length : ∀ {ls : List Leaf} {as : List AVal}, fitsAll ls as = true → ls.length = as.length
  | [], [], _ => rfl
  | x :: xs, a :: as, h => by
    simp only [fitsAll, Bool.and_eq_true] at h
    simp [fitsAll_length h.2]
  | [], _ :: _, h => by simp [fitsAll] at h
  | _ :: _, [], h => by simp [fitsAll] at h

theorem run_checkKey {P : Program} {w w0 : World} {γ : Gh} {l e : Bool} {T : TypeId} {a : AVal} (ha : kOk P T a = true) {u : Value} (hu : Rep γ w0 l a u) : (Instr.checkKey e 10000 T u).run P w = .ok () w := by
  unfold kOk at ha
  cases hx : leafOf P T with
  | some x =>
    rcases Leaf.spec hx with ⟨rfl, ht⟩ | ⟨k, rfl, ht⟩ | ⟨rfl, ht⟩ <;> (rw [Instr.checkKey]; simp only [Sem.run_bind, run_underlying ht, Result.andThen_ok]; rfl)
  | none =>
    rw [hx] at ha
    simp only [] at ha
    cases ht : tPlain P T with
    | none => rw [ht] at ha; cases ha
    | some ls =>
      rw [ht] at ha
      simp only [] at ha
      split at ha
      · cases hu with
        | @agg _ _ vs hu h1 =>
          unfold tPlain at ht
          split at ht
          · rename_i fs hfs
            split at ht
            · cases ht
            · have hl := fitsAll_length ha
              have hl2 := hu.length
              have := run_forIn_ck (P := P) (w := w) (e := e) 9998 vs fs.toList 0 ls ht (by omega)
              rw [Instr.checkKey]
              simp only [Sem.run_bind, run_underlying hfs, Result.andThen_ok]
              rw [← Array.forIn_toList]
              rw [this]
              rfl
          · cases ht
      · cases ha
end Go.AL
end

section
namespace Go.AL
noncomputable section
set_option linter.unusedSimpArgs false
set_option linter.unusedVariables false

def unA (op : UnOp) : AVal → Option (Bool × AVal)
  | .int k n =>
    match op with
    | .neg => some (true, .int k (k.wrap (0 - n)))
    | .xor => some (true, .int k (bits .xor k (if k.signed then -1 else k.max) n))
    | _ => none
  | .bool b =>
    match op with
    | .not => some (true, .bool (!b))
    | _ => none
  | _ => none

def byteOf : AVal → UInt8
  | .int _ n => UInt8.ofNat n.toNat
  | _ => 0

def isU8 : AVal → Bool
  | .int .u8 _ => true
  | _ => false

def isBytes (P : Program) (t : TypeId) : Bool :=
  match P.underlying t with
  | some (.slice e) => isInt P e .u8
  | _ => false

def encA (n : Int) : List UInt8 := (Utf8.encode n).data.toList
def encV : AVal → List UInt8
  | .int _ n => encA n
  | _ => []
def isR32 : AVal → Bool
  | .int .i32 _ => true
  | _ => false
def isRnT (P : Program) (t : TypeId) : Bool :=
  match P.underlying t with
  | some (.slice e) => isInt P e .i32
  | _ => false
def convA (P : Program) (lk : Oid → Option AObj) (src dst : TypeId) : AVal → Option (Bool × AVal)
  | .int _ n =>
    match P.underlying src, P.underlying dst with
    | some _, some (.int k) => some (true, .int k (k.wrap n))
    | some _, some .string => some (true, .str (encA n))
    | _, _ => none
  | .str s =>
    match P.underlying src, P.underlying dst with
    | some .string, some .string => some (true, .str s)
    | _, _ => none
  | .slice es _ _ => if isBytes P src && isStr P dst then some (decide (es.all isU8 = true), .str (es.map byteOf)) else
    if isRnT P src && isStr P dst then some (decide (es.all isR32 = true), .str (es.flatMap encV)) else none
  | .arr o off len _ =>
    if isBytes P src && isStr P dst then
      match lk o with
      | some (.cells cs) => some (decide (off + len ≤ cs.length ∧ ((cs.drop off).take len).all isU8 = true), .str (((cs.drop off).take len).map byteOf))
      | _ => none
    else none
  | _ => none

def fieldAddrA (P : Program) (S i : Nat) (x : AVal) : Option (Bool × AVal) :=
  match tField P S i with
  | some (off, n, _) =>
    if n = 0 then none else
    match x with
    | .iptr cs => some (true, .iptr (cs.drop off))
    | .ptr o k => some (true, .ptr o (k + off))
    | _ => none
  | none => none

def fieldA (P : Program) (S i : Nat) (x : AVal) : Option (Bool × AVal) :=
  match tField P S i, x with
  | some (off, n, g), .agg cs => some (decide (off < cs.length), partA cs off n g)
  | _, _ => none

def elemAt (es : List AVal) (i : Int) : List AVal := (es.getD i.toNat .undef).cells

def indexAddrA (P : Program) (T : TypeId) (x ix : AVal) : Option (Bool × AVal) :=
  match ix with
  | .int _ i =>
    match x with
    | .slice es s _ =>
      match tElem P T with
      | some (_, n, _, _) => if n = s then some (decide (0 ≤ i ∧ i < es.length), .iptr (elemAt es i)) else none
      | none => none
    | .arr o off len _ =>
      match tElem P T with
      | some (_, n, _, _) => some (decide (0 ≤ i ∧ i < len), .ptr o (off + i.toNat * n))
      | none => none
    | .ptr o off =>
      match tArr P T with
      | some (m, n, _) => some (decide (0 ≤ i ∧ i < m), .ptr o (off + i.toNat * n))
      | none => none
    | .iptr cs =>
      match tArr P T with
      | some (m, n, _) => some (decide (0 ≤ i ∧ i < m), .iptr (cs.drop (i.toNat * n)))
      | none => none
    | _ => none
  | _ => none

def indexA (P : Program) (T : TypeId) (x ix : AVal) : Option (Bool × AVal) :=
  match ix with
  | .int _ i =>
    match x with
    | .str s => if isStr P T then some (decide (0 ≤ i ∧ i < s.length), .int .u8 (s.getD i.toNat 0).toNat) else none
    | .agg cs =>
      match tArr P T with
      | some (m, n, g) => some (decide (0 ≤ i ∧ i < m ∧ i.toNat * n < cs.length), partA cs (i.toNat * n) n g)
      | none => none
    | _ => none
  | _ => none

/-! ### What is loaded is written down as its type says -/

inductive Sh where
  | bool | int (k : IntKind) | str | slice (w : Nat) | any

def AVal.boolOf : AVal → Bool
  | .bool b => b
  | _ => false
def AVal.intOf : AVal → Int
  | .int _ n => n
  | _ => 0
def AVal.strOf : AVal → List UInt8
  | .str s => s
  | _ => []
def AVal.elems : AVal → List AVal
  | .slice es _ _ => es
  | _ => []

def etaC : Sh → AVal → AVal
  | .bool, v => .bool v.boolOf
  | .int k, v => .int k v.intOf
  | .str, v => .str v.strOf
  | .slice w, v => .slice v.elems w .ro
  | .any, v => v

def sliceOk (w : Nat) : AVal → Bool
  | .slice _ s t => s == w || t.isNil
  | _ => false

def etaOk : Sh → AVal → Bool
  | .bool, v => match v with | .bool _ => true | _ => false
  | .int k, v => match v with | .int k' _ => k == k' | _ => false
  | .str, v => match v with | .str _ => true | _ => false
  | .slice w, v => sliceOk w v
  | .any, _ => true

def etaL : List Sh → List AVal → Nat → List AVal
  | [], _, _ => []
  | s :: r, cs, i => etaC s (cs.getD i .undef) :: etaL r cs (i + 1)

def etaOkL : List Sh → List AVal → Nat → Bool
  | [], _, _ => true
  | s :: r, cs, i => etaOk s (cs.getD i .undef) && etaOkL r cs (i + 1)

def cellSh (P : Program) (deep : Bool) (T : TypeId) : Sh :=
  match P.underlying T with
  | some .bool => .bool
  | some (.int k) => .int k
  | some .string => .str
  | some (.slice e) =>
    match deep with
    | true => match P.info? e with
      | some inf => .slice inf.size
      | none => .any
    | false => .any
  | _ => .any

def fieldShs (r : TypeId → Option (List Sh)) : List Field → Option (List Sh)
  | [] => some []
  | f :: fs => match r f.type, fieldShs r fs with
    | some a, some b => some (a ++ b)
    | _, _ => none

def shOf (P : Program) (deep : Bool) : Nat → TypeId → Option (List Sh)
  | 0, _ => none
  | n + 1, T => match P.underlying T with
    | some (.struct fs) => fieldShs (shOf P deep n) fs.toList
    | some (.array m e) => if m ≤ 64 then (match shOf P deep n e with | some a => some (List.replicate m a).flatten | none => none) else none
    | some _ => some [cellSh P deep T]
    | none => none

def loadV (P : Program) (T : TypeId) (deep : Bool) (n : Nat) (g : Bool) (cs : List AVal) (off : Nat) : Bool × AVal :=
  match g with
  | false => (etaOk (cellSh P deep T) (cs.getD off .undef), etaC (cellSh P deep T) (cs.getD off .undef))
  | true => match shOf P deep 6 T with
    | some shs => if shs.length = n then (etaOkL shs cs off, .agg (etaL shs cs off)) else (true, partA cs off n true)
    | none => (true, partA cs off n true)

def loadA (P : Program) (lk : Oid → Option AObj) (T : TypeId) (x : AVal) : Option (Bool × AVal) :=
  match tVar P T with
  | some (n, g) =>
    match x with
    | .iptr cs => some (decide (n ≤ cs.length ∧ 0 < n) && (loadV P T true n g cs 0).1, (loadV P T true n g cs 0).2)
    | .ptr o off =>
      match lk o with
      | some (.cells cs) => some (decide (off + n ≤ cs.length ∧ 0 < n) && (loadV P T false n g cs off).1, (loadV P T false n g cs off).2)
      | _ => none
    | _ => none
  | none => none

def boundA (d : Int) : Option AVal → Option Int
  | none => some d
  | some (.int _ n) => some n
  | some _ => none

def sliceTag (lo hi : Option AVal) : Tag → Tag
  | .nil => .nil
  | .ro => .ro
  | .full => match hi with | none => .full | some _ => .ro
  | .own p => match lo, hi with | none, none => .own p | _, _ => .ro

def sliceA (P : Program) (T : TypeId) (x : AVal) (lo hi mx : Option AVal) : Option (Bool × AVal) :=
  match x with
  | .str s =>
    if isStr P T then
      match mx, boundA 0 lo, boundA s.length hi with
      | none, some l, some h => some (decide (0 ≤ l ∧ l ≤ h ∧ h ≤ s.length), .str ((s.drop l.toNat).take (h.toNat - l.toNat)))
      | _, _, _ => none
    else none
  | .slice es s tag =>
    match tElem P T with
    | some (_, n, _, _) =>
      if n = s ∨ tag.isNil = true then
        match mx with
        | none =>
          match boundA 0 lo, boundA es.length hi with
          | some l, some h => some (decide (0 ≤ l ∧ l ≤ h ∧ h ≤ es.length), .slice ((es.drop l.toNat).take (h.toNat - l.toNat)) s (sliceTag lo hi tag))
          | _, _ => none
        | some m =>
          match boundA 0 lo, hi, m with
          | some l, some (.int _ h), .int _ m => some (decide (0 ≤ l ∧ l ≤ h ∧ h ≤ es.length ∧ m = h), .slice ((es.drop l.toNat).take (h.toNat - l.toNat)) s .full)
          | _, _, _ => none
      else none
    | none => none
  | .arr o off len cap =>
    match tElem P T, boundA 0 lo, boundA len hi with
    | some (_, n, _, _), some l, some h =>
      match mx with
      | none => some (decide (0 ≤ l ∧ l ≤ h ∧ h ≤ cap), .arr o (off + l.toNat * n) (h.toNat - l.toNat) (cap - l.toNat))
      | some m =>
        match hi, m with
        | some (.int _ _), .int _ m => some (decide (0 ≤ l ∧ l ≤ h ∧ h ≤ m ∧ m ≤ cap), .arr o (off + l.toNat * n) (h.toNat - l.toNat) (m.toNat - l.toNat))
        | _, _ => none
    | _, _, _ => none
  | _ => none

def lenA (P : Program) (lk : Oid → Option AObj) (T : TypeId) (x : AVal) : Option (Bool × AVal) :=
  match P.underlying T, x with
  | some .string, .str s => some (true, .int .i64 s.length)
  | some (.slice _), .slice es _ _ => some (true, .int .i64 es.length)
  | some (.slice _), .arr _ _ len _ => some (true, .int .i64 len)
  | some (.slice _), .mrow _ len => some (true, .int .i64 len)
  | some (.array n _), _ => some (true, .int .i64 n)
  | some (.map _ _), .nilmap => some (true, .int .i64 0)
  | some (.map _ _), .map o =>
    match lk o with
    | some (.map es) => some (true, .int .i64 es.length)
    | _ => none
  | _, _ => none

def maxA : AVal → List AVal → Option AVal
  | a, [] => some a
  | .int k x, .int _ y :: r => maxA (.int k (if x < y then y else x)) r
  | _, _ => none

def minA : AVal → List AVal → Option AVal
  | a, [] => some a
  | .int k x, .int _ y :: r => minA (.int k (if y < x then y else x)) r
  | _, _ => none

def setRange (cs : List AVal) (off : Nat) (xs : List AVal) : List AVal := cs.take off ++ xs ++ cs.drop (off + xs.length)

def AVal.sized : AVal → Bool
  | .agg _ => true
  | .undef => false
  | .tuple _ => false
  | _ => true

def fillA (place : Nat → Option (Nat × Nat)) (cs : List AVal) : List (Nat × AVal) → Option (List AVal)
  | [] => some cs
  | x :: r =>
    match place x.1 with
    | some (off, n) => if x.2.sized && x.2.cells.length == n && decide (off + n ≤ cs.length) then fillA place (setRange cs off x.2.cells) r else none
    | none => none

def structPlace (P : Program) (T : TypeId) (i : Nat) : Option (Nat × Nat) :=
  match tField P T i with
  | some (off, n, _) => some (off, n)
  | none => none

def absZ : Value → Option AVal
  | .agg cs => if cs.toList.all fun v => v.oneCell' then some (.agg (cs.toList.map absV)) else none
  | .tuple _ => none
  | v => some (absV v)

def zeroV (P : Program) (T : TypeId) : Option AVal :=
  match P.info? T with
  | some inf => match inf.zero with
    | some z => absZ z
    | none => none
  | none => none

def zeroA (P : Program) (T : TypeId) : Option (List AVal) :=
  match zeroV P T with
  | some v => some v.cells
  | none => none

def isStruct (P : Program) (T : TypeId) : Bool :=
  match P.underlying T with
  | some (.struct fs) => fs.toList.all fun f => (P.info? f.type).isSome
  | _ => false

def isStruct0 (P : Program) (T : TypeId) : Bool :=
  match P.underlying T with
  | some (.struct _) => true
  | _ => false

def buildA (P : Program) (T : TypeId) (parts : List (Nat × AVal)) : Option (Bool × AVal) :=
  if isStruct P T then
    match zeroA P T with
    | some zs => match fillA (structPlace P T) zs parts with
      | some cs => some (true, .agg cs)
      | none => none
    | none => none
  else
    match tArr P T, zeroA P T with
    | some (_, n, _), some zs => match fillA (fun i => some (i * n, n)) zs parts with
      | some cs => some (true, .agg cs)
      | none => none
    | _, _ => none

def isIface (P : Program) (T : TypeId) : Option Bool :=
  match P.underlying T with
  | some (.interface _) => some true
  | some _ => some false
  | none => none

def assertA (P : Program) (x : AVal) (T : TypeId) (ok : Bool) : Option (Bool × AVal) :=
  match isIface P T, x with
  | some false, .iface t v =>
    if ok then
      if t = T then some (true, .tuple [v, .bool true]) else
      match zeroV P T with
      | some z => some (true, .tuple [z, .bool false])
      | none => none
    else some (decide (t = T), v)
  | some false, .nilIface =>
    if ok then
      match zeroV P T with
      | some z => some (true, .tuple [z, .bool false])
      | none => none
    else none
  | _, _ => none

def nilCheckA : AVal → Option (Bool × AVal)
  | .ptr o k => some (true, .ptr o k)
  | .iptr cs => some (true, .iptr cs)
  | .iface t v => some (true, .iface t v)
  | .func (.func f) a c => some (true, .func (.func f) a c)
  | _ => none

def pickA (c a b : AVal) : Option (Bool × AVal) :=
  match c with
  | .bool t => some (true, bif t then a else b)
  | _ => none

def capA (P : Program) (T : TypeId) (x : AVal) : Option (Bool × AVal) :=
  match P.underlying T, x with
  | some (.slice _), .arr _ _ _ cap => some (true, .int .i64 cap)
  | _, _ => none

def builtinA (P : Program) (lk : Oid → Option AObj) (b : Builtin) (ts : List TypeId) (xs : List AVal) : Option (Bool × AVal) :=
  match b, ts, xs with
  | .len, [t], [x] => lenA P lk t x
  | .cap, [t], [x] => capA P t x
  | .max, _, x :: r => (maxA x r).map fun v => (true, v)
  | .min, _, x :: r => (minA x r).map fun v => (true, v)
  | _, _, _ => none

def isAggN (n : Nat) : AVal → Bool
  | .agg cs => cs.length == n
  | _ => false
def lookV (P : Program) (T : TypeId) (v : AVal) : Bool × AVal :=
  match tVar P T with
  | some (n, g) =>
    match g with
    | false => (etaOk (cellSh P true T) v, etaC (cellSh P true T) v)
    | true => match shOf P true 6 T with
      | some shs => (isAggN n v && (shs.length == n && etaOkL shs v.cells 0), .agg (etaL shs v.cells 0))
      | none => (false, v)
  | none => (false, v)
def mapVal (k z : AVal) (es : List (AVal × AVal)) : AVal :=
  match mapFind k es 0 with
  | some x => x.2
  | none => z
def keysOk (P : Program) (T : TypeId) (es : List (AVal × AVal)) : Bool := es.all fun e => kOk P T e.1
def okVal (ok : Bool) (v : AVal) (b : Bool) : AVal :=
  match ok with
  | true => .tuple [v, .bool b]
  | false => v
def lookupA (P : Program) (lk : Oid → Option AObj) (T : TypeId) (x ix : AVal) (ok : Bool) : Option (Bool × AVal) :=
  match P.underlying T with
  | some (.map kt et) =>
    match zeroV P et with
    | some z =>
      match x with
      | .nilmap => some (kOk P kt ix, okVal ok z false)
      | .map o =>
        match lk o with
        | some (.map es) => some (kOk P kt ix && (keysOk P kt es && (lookV P et (mapVal ix z es)).1), okVal ok (lookV P et (mapVal ix z es)).2 (hold (mapFind ix es 0).isSome))
        | _ => none
      | _ => none
    | none => none
  | _ => none
def pureOp (P : Program) (ρ : Operand → AVal) (lk : Oid → Option AObj) : Op → Option (Bool × AVal)
  | .move x => some (true, ρ x)
  | .assign x => some (true, ρ x)
  | .pick c a b => pickA (ρ c) (ρ a) (ρ b)
  | .nilCheck x => nilCheckA (ρ x)
  | .binOp op T x y _ => binA P op T (isNilConst x || isNilConst y) (ρ x) (ρ y)
  | .unOp op _ x => unA op (ρ x)
  | .convert src dst x => convA P lk src dst (ρ x)
  | .makeInterface T x => match isIface P T with | some false => some (true, .iface T (ρ x)) | _ => none
  | .makeFunc fn f c => some (true, .func fn (f.toList.map ρ) (c.toList.map ρ))
  | .slice T x lo hi mx => sliceA P T (ρ x) (lo.map ρ) (hi.map ρ) (mx.map ρ)
  | .fieldAddr S x i => fieldAddrA P S i (ρ x)
  | .field S x i => fieldA P S i (ρ x)
  | .indexAddr T x i => indexAddrA P T (ρ x) (ρ i)
  | .index T x i => indexA P T (ρ x) (ρ i)
  | .load T x => loadA P lk T (ρ x)
  | .lookup T x i ok => lookupA P lk T (ρ x) (ρ i) ok
  | .build T ps => buildA P T (ps.toList.map fun x => (x.1, ρ x.2))
  | .typeAssert x _ T ok => assertA P (ρ x) T ok
  | .extract t i => match ρ t with | .tuple vs => (match vs[i]? with | some v => some (true, v) | none => none) | _ => none
  | .call ⟨.builtin b, args, ts⟩ => builtinA P lk b ts.toList (args.toList.map ρ)
  | _ => none

/-! ### Soundness -/

structure Ok (γ : Gh) (w : World) (lk : Oid → Option AObj) : Prop where
  obj : ∀ i x, lk i = some x → (∀ s g, x ≠ .buf [] s g) → ∃ b, γ.obj i = some b ∧ objOk γ w (!i.isOut) b x

theorem Conc.ok {γ : Gh} {w : World} {a : Act} {st : St} (h : Conc γ w a st) : Ok γ w st.objAt := ⟨fun _ _ hx hn => h.inv.objc hx hn⟩

def Yields (P : Program) (γ : Gh) (w : World) (s : Sem Value) (r : AVal) : Prop := ∃ u, s.run P w = .ok u w ∧ Rep γ w true r u

theorem unA_sound {P : Program} {γ : Gh} {w : World} {op : UnOp} {a : AVal} {u : Value} (hu : Rep γ w true a u) {p : Bool} {r : AVal} (h : unA op a = some (p, r)) (_hp : p) : Yields P γ w (Op.unary op u) r := by
  unfold unA at h
  split at h
  · cases hu
    split at h <;> simp only [Option.some.injEq, Prod.mk.injEq, reduceCtorEq] at h <;> obtain ⟨rfl, rfl⟩ := h
    · exact ⟨_, by simp [Op.unary, Op.intArith], .int _ _ _⟩
    · exact ⟨_, by simp [Op.unary, intBits_xor], .int _ _ _⟩
  · cases hu
    split at h <;> simp only [Option.some.injEq, Prod.mk.injEq, reduceCtorEq] at h <;> obtain ⟨rfl, rfl⟩ := h
    exact ⟨_, by simp [Op.unary], .bool _ _⟩
  · cases h

theorem run_bytesToString {P : Program} {γ : Gh} {w : World} {l : Bool} {es : List AVal} {vs : List Value} (h : RepL γ w l es vs) (h8 : es.all isU8 = true) (a : Addr) (c : Nat)
    (hc : ∀ j v, vs[j]? = some v → w.cell? (a.add j) = some v) :
    (Conv.bytesToString (.slice (some a) es.length c)).run P w = .ok (.string ⟨(es.map byteOf).toArray⟩) w := by
  have hvs : ∃ ns : List Int, vs = ns.map (Value.int .u8) ∧ es.map byteOf = ns.map (fun n => UInt8.ofNat n.toNat) := by
    clear hc
    induction es generalizing vs with
    | nil => cases h; exact ⟨[], rfl, rfl⟩
    | cons e es ih =>
      cases h with
      | cons h t =>
        simp only [List.all_cons, Bool.and_eq_true] at h8
        obtain ⟨ns, rfl, h2⟩ := ih t h8.2
        have : ∃ n, e = .int .u8 n := by
          have := h8.1
          cases e <;> simp [isU8] at this
          rename_i k n
          cases k <;> simp at this
          exact ⟨n, rfl⟩
        obtain ⟨n, rfl⟩ := this
        cases h
        exact ⟨n :: ns, rfl, by simp [h2, byteOf]⟩
  obtain ⟨ns, rfl, hns⟩ := hvs
  have hl := h.length
  rw [hl]
  have hload := run_loadCells_list (P := P) w a (ns.map (Value.int .u8)) hc
  rw [hns]
  simp only [Conv.bytesToString, Sem.run_bind, hload, Result.andThen_ok]
  have e : ns.foldl (fun r n => r.push (UInt8.ofNat n.toNat)) ByteArray.empty = ⟨(ns.map (fun n => UInt8.ofNat n.toNat)).toArray⟩ := by
    have : ∀ (ns : List Int) (r : ByteArray), ns.foldl (fun r n => r.push (UInt8.ofNat n.toNat)) r = ⟨r.data ++ (ns.map (fun n => UInt8.ofNat n.toNat)).toArray⟩ := by
      intro ns
      induction ns with
      | nil => intro r; simp
      | cons n ns ih => intro r; simp only [List.foldl_cons, ih]; simp [ByteArray.push]
    simpa using this ns ByteArray.empty
  rw [← Array.forIn_toList]
  rw [run_forIn_bytes _ (by intro n r; simp [Sem.run_pure]), e]
  rfl

theorem isBytes_spec {P : Program} {t : TypeId} (h : isBytes P t = true) : ∃ e, P.underlying t = some (.slice e) ∧ P.underlying e = some (.int .u8) := by
  unfold isBytes at h
  split at h
  · rename_i e he
    unfold isInt at h
    split at h
    · rename_i k hk
      simp only [beq_iff_eq] at h
      subst h
      exact ⟨e, he, hk⟩
    · cases h
  · cases h

theorem isStr_spec {P : Program} {t : TypeId} (h : isStr P t = true) : P.underlying t = some .string := by
  unfold isStr at h
  split at h
  · assumption
  · cases h

theorem flat_u8 {es : List AVal} (h : es.all isU8 = true) : flat es = es := by
  induction es with
  | nil => rfl
  | cons e es ih =>
    simp only [List.all_cons, Bool.and_eq_true] at h
    have : e.cells = [e] := by cases e <;> simp [isU8] at h <;> rfl
    simp [flat, this]
    exact ih h.2

theorem addr_add (b off j : Nat) : (⟨b, off, none⟩ : Addr).add j = ⟨b, off + j, none⟩ := by
  unfold Addr.add
  split
  · rename_i h; simp [h]
  · rfl

theorem isRnT_spec {P : Program} {t : TypeId} (h : isRnT P t = true) : ∃ e, P.underlying t = some (.slice e) ∧ P.underlying e = some (.int .i32) := by
  unfold isRnT at h
  split at h
  · rename_i e he
    unfold isInt at h
    split at h
    · rename_i k hk
      simp only [beq_iff_eq] at h
      subst h
      exact ⟨e, he, hk⟩
    · cases h
  · cases h
theorem flat_r32 {es : List AVal} (h : es.all isR32 = true) : flat es = es := by
  induction es with
  | nil => rfl
  | cons e es ih =>
    simp only [List.all_cons, Bool.and_eq_true] at h
    have : e.cells = [e] := by cases e <;> simp [isR32] at h <;> rfl
    simp [flat, this]
    exact ih h.2
theorem runesBytes_enc (ns : List Int) : runesBytes ns = ⟨(ns.flatMap encA).toArray⟩ := by
  have : ∀ (ns : List Int) (r : ByteArray), ns.foldl (fun r n => r ++ Utf8.encode n) r = ⟨r.data ++ (ns.flatMap encA).toArray⟩ := by
    intro ns
    induction ns with
    | nil => intro r; simp
    | cons n ns ih =>
      intro r
      simp only [List.foldl_cons, ih, List.flatMap_cons]
      have : (r ++ Utf8.encode n).data = r.data ++ (encA n).toArray := by
        rw [ByteArray.data_append]; simp [encA]
      rw [this]
      simp
  have h := this ns ByteArray.empty
  unfold runesBytes
  rw [h]
  simp
theorem run_runesToStr {P : Program} {γ : Gh} {w : World} {l : Bool} {es : List AVal} {vs : List Value} (h : RepL γ w l es vs) (h8 : es.all isR32 = true) (a : Addr) (c : Nat)
    (hc : ∀ j v, vs[j]? = some v → w.cell? (a.add j) = some v) :
    (Conv.runesToString (.slice (some a) es.length c)).run P w = .ok (.string ⟨(es.flatMap encV).toArray⟩) w := by
  have hvs : ∃ ns : List Int, vs = ns.map (Value.int .i32) ∧ es.flatMap encV = ns.flatMap encA := by
    clear hc
    induction es generalizing vs with
    | nil => cases h; exact ⟨[], rfl, rfl⟩
    | cons e es ih =>
      cases h with
      | cons h t =>
        simp only [List.all_cons, Bool.and_eq_true] at h8
        obtain ⟨ns, rfl, h2⟩ := ih t h8.2
        have : ∃ n, e = .int .i32 n := by
          have := h8.1
          cases e <;> simp [isR32] at this
          rename_i k n
          cases k <;> simp at this
          exact ⟨n, rfl⟩
        obtain ⟨n, rfl⟩ := this
        cases h
        exact ⟨n :: ns, rfl, by simp [h2, encV]⟩
  obtain ⟨ns, rfl, hns⟩ := hvs
  have hl := h.length
  have hload := run_loadCells_list (P := P) w a (ns.map (Value.int .i32)) hc
  rw [hl, hns, ← runesBytes_enc]
  exact run_runesToString w a _ c ns hload

theorem convA_sound {P : Program} {γ : Gh} {w : World} {lk : Oid → Option AObj} (hk : Ok γ w lk) {src dst : TypeId} {a : AVal} {u : Value} (hu : Rep γ w true a u) {p : Bool} {r : AVal}
    (h : convA P lk src dst a = some (p, r)) (hp : p) : Yields P γ w (convert src dst u) r := by
  unfold convA at h
  split at h
  · cases hu
    split at h
    · rename_i ds k h1 h2
      simp only [Option.some.injEq, Prod.mk.injEq] at h
      obtain ⟨rfl, rfl⟩ := h
      first | replace hp := of_decide_eq_true hp | skip
      refine ⟨_, ?_, .int _ _ _⟩
      simp [convert, run_underlying h1, run_underlying h2, Conv.intToInt]
    · rename_i ds h1 h2
      simp only [Option.some.injEq, Prod.mk.injEq] at h
      obtain ⟨rfl, rfl⟩ := h
      first | replace hp := of_decide_eq_true hp | skip
      refine ⟨.string (Utf8.encode _), ?_, .str _ _⟩
      simp [convert, run_underlying h1, run_underlying h2, Conv.intToString]
    · cases h
  · cases hu
    split at h
    · rename_i h1 h2
      simp only [Option.some.injEq, Prod.mk.injEq] at h
      obtain ⟨rfl, rfl⟩ := h
      first | replace hp := of_decide_eq_true hp | skip
      refine ⟨_, ?_, .str _ _⟩
      simp [convert, run_underlying h1, run_underlying h2]
    · cases h
  · split at h
    · rename_i hb
      simp only [Option.some.injEq, Prod.mk.injEq] at h
      obtain ⟨rfl, rfl⟩ := h
      first | replace hp := of_decide_eq_true hp | skip
      simp only [Bool.and_eq_true] at hb
      obtain ⟨e, h1, h2⟩ := isBytes_spec hb.1
      have h3 := isStr_spec hb.2
      cases hu with
      | sliceRow hr hs hc h1' hn hm ht =>
        rw [flat_u8 hp] at hr
        refine ⟨_, ?_, .str _ _⟩
        rw [run_convert_bytes_string w src dst e _ _ _ h1 h2 h3]
        exact run_bytesToString hr hp _ _ (fun j v hj => by rw [addr_add]; exact (hc j v hj).2)
      | @sliceNil _ _ _ oo ht ho =>
        refine ⟨.string ⟨[].toArray⟩, ?_, .str _ _⟩
        rw [run_convert_bytes_string w src dst e _ _ _ h1 h2 h3]
        cases oo <;> rfl
    · split at h
      · rename_i hb
        simp only [Option.some.injEq, Prod.mk.injEq] at h
        obtain ⟨rfl, rfl⟩ := h
        first | replace hp := of_decide_eq_true hp | skip
        simp only [Bool.and_eq_true] at hb
        obtain ⟨e, h1, h2⟩ := isRnT_spec hb.1
        have h3 := isStr_spec hb.2
        cases hu with
        | sliceRow hr hs hc h1' hn hm ht =>
          rw [flat_r32 hp] at hr
          refine ⟨_, ?_, .str _ _⟩
          rw [run_convert_runes_string w src dst e _ _ _ h1 h2 h3]
          exact run_runesToStr hr hp _ _ (fun j v hj => by rw [addr_add]; exact (hc j v hj).2)
        | @sliceNil _ _ _ oo ht ho =>
          refine ⟨.string ⟨[].toArray⟩, ?_, .str _ _⟩
          rw [run_convert_runes_string w src dst e _ _ _ h1 h2 h3]
          cases oo <;> rfl
      · cases h
  · rename_i o off len cap
    split at h
    · rename_i hb
      simp only [Bool.and_eq_true] at hb
      obtain ⟨e, h1, h2⟩ := isBytes_spec hb.1
      have h3 := isStr_spec hb.2
      split at h
      · rename_i cs hcs
        simp only [Option.some.injEq, Prod.mk.injEq] at h
        obtain ⟨rfl, rfl⟩ := h
        first | replace hp := of_decide_eq_true hp | skip
        cases hu with
        | @arr _ _ _ off' _ _ b hb' ho hn h0 =>
          obtain ⟨b', hb2, vs, T, hh, hr, h1', hni⟩ := hk.obj _ _ hcs (by simp)
          rw [hb'] at hb2
          cases hb2
          have hr2 := (hr.drop off).take len
          refine ⟨_, ?_, .str _ _⟩
          rw [run_convert_bytes_string w src dst e _ _ _ h1 h2 h3]
          have hlen : ((cs.drop off).take len).length = len := by simp; omega
          have := run_bytesToString (P := P) (w := w) hr2 hp.2 ⟨b, off', none⟩ cap (fun j v hj => by
            rw [addr_add]
            rw [List.getElem?_take] at hj
            split at hj
            · rw [List.getElem?_drop] at hj
              obtain rfl := h0 (by omega)
              simp only [World.cell?, hh]
              simpa using hj
            · cases hj)
          rw [hlen] at this
          exact this
      · cases h
    · cases h
  · cases h

theorem tField_spec {P : Program} {S i off n : Nat} {g : Bool} (h : tField P S i = some (off, n, g)) :
    ∃ fs f, P.underlying S = some (.struct fs) ∧ fs[i]? = some f ∧ f.offset = off ∧ (∃ inf, P.info? f.type = some inf ∧ inf.size = n) ∧ tVar P f.type = some (n, g) := by
  unfold tField at h
  split at h
  · rename_i fs hfs
    split at h
    · rename_i f hf
      split at h
      · rename_i inf g' hi hg
        simp only [Option.some.injEq, Prod.mk.injEq] at h
        obtain ⟨rfl, rfl, rfl⟩ := h
        first | replace hp := of_decide_eq_true hp | skip
        exact ⟨fs, f, hfs, hf, rfl, ⟨inf, hi, rfl⟩, by simp [tVar, hi, hg]⟩
      · cases h
    · cases h
  · cases h

theorem fieldAddrA_sound {P : Program} {γ : Gh} {w : World} {S i : Nat} {a : AVal} {u : Value} (hu : Rep γ w true a u) {p : Bool} {r : AVal} (h : fieldAddrA P S i a = some (p, r)) (_hp : p) : Yields P γ w (Instr.fieldAt S u i) r := by
  unfold fieldAddrA at h
  split at h
  · rename_i off n g hf
    obtain ⟨fs, f, h1, h2, h3, ⟨inf, h4, h5⟩, _⟩ := tField_spec hf
    split at h
    · cases h
    · rename_i hn
      have hrun : ∀ b o, (Instr.fieldAt S (.pointer (some ⟨b, o, none⟩)) i).run P w = .ok (.pointer (some ⟨b, o + off, none⟩)) w := by
        intro b o
        have hsz : inf.size ≠ 0 := by omega
        simp [Instr.fieldAt, run_underlying h1, h2, Instr.sureAddr, fieldPlace, sizeOf, typeInfo, h4, hsz, h3, addr_add]
      split at h
      · cases hu with
        | iptr hr hc' hc =>
          simp only [Option.some.injEq, Prod.mk.injEq] at h
          obtain ⟨rfl, rfl⟩ := h
          first | replace hp := of_decide_eq_true hp | skip
          exact ⟨_, hrun _ _, .iptr (hr.drop off) (fun v hv => hc' v (List.mem_of_mem_drop hv)) (hc.drop off)⟩
      · cases hu with
        | ptr hb ho =>
          simp only [Option.some.injEq, Prod.mk.injEq] at h
          obtain ⟨rfl, rfl⟩ := h
          first | replace hp := of_decide_eq_true hp | skip
          exact ⟨_, hrun _ _, .ptr hb ho⟩
      · cases h
  · cases h

theorem fieldA_sound {P : Program} {γ : Gh} {w : World} {S i : Nat} {a : AVal} {u : Value} (hu : Rep γ w true a u) {p : Bool} {r : AVal} (h : fieldA P S i a = some (p, r)) (hp : p) : Yields P γ w (Instr.field S u i) r := by
  unfold fieldA at h
  split at h
  · rename_i off n g cs hf
    simp only [Option.some.injEq, Prod.mk.injEq] at h
    obtain ⟨rfl, rfl⟩ := h
    first | replace hp := of_decide_eq_true hp | skip
    obtain ⟨fs, f, h1, h2, h3, _, h6⟩ := tField_spec hf
    cases hu with
    | agg hr h1' =>
      rename_i vs
      have hl := hr.length
      have hrun := run_part P w h6 vs off (fun _ => by omega)
      refine ⟨_, ?_, hr.part h1' off n g⟩
      simp [Instr.field, run_underlying h1, h2, asAgg, h3, hrun]
  · cases h

end
end Go.AL
end

section
namespace Go.AL
noncomputable section
set_option linter.unusedSimpArgs false
set_option linter.unusedVariables false

theorem tElem_spec {P : Program} {T e n bs : Nat} {zs : List Value} (h : tElem P T = some (e, n, bs, zs)) : ∃ inf z, P.underlying T = some (.slice e) ∧ P.info? e = some inf ∧ inf.size = n ∧ inf.bytes = bs ∧ inf.zero = some z ∧ zs = z.cells.toList := by
  unfold tElem at h
  split at h
  · rename_i e' he
    split at h
    · rename_i inf hi
      split at h
      · rename_i z hz
        simp only [Option.some.injEq, Prod.mk.injEq] at h
        obtain ⟨rfl, rfl, rfl, rfl⟩ := h
        exact ⟨inf, z, he, hi, rfl, rfl, hz, rfl⟩
      · cases h
    · cases h
  · cases h

theorem tArr_spec {P : Program} {T m n : Nat} {g : Bool} (h : tArr P T = some (m, n, g)) : ∃ e inf, P.underlying T = some (.array m e) ∧ P.info? e = some inf ∧ inf.size = n ∧ tVar P e = some (n, g) := by
  unfold tArr at h
  split at h
  · rename_i m' e he
    split at h
    · rename_i inf g' hi hg
      simp only [Option.some.injEq, Prod.mk.injEq] at h
      obtain ⟨rfl, rfl, rfl⟩ := h
      first | replace hp := of_decide_eq_true hp | skip
      exact ⟨e, inf, he, hi, rfl, by simp [tVar, hi, hg]⟩
    · cases h
  · cases h

theorem getElem?_getD {α : Type} {l : List α} {i : Nat} (h : i < l.length) (d : α) : l[i]? = some (l.getD i d) := by
  simp [List.getD, List.getElem?_eq_getElem h]

theorem flat_elem {s : Nat} : ∀ {es : List AVal} (hs : ∀ e ∈ es, e.cells.length = s) {i : Nat} {e : AVal}, es[i]? = some e → ((flat es).drop (i * s)).take s = e.cells
  | [], _, i, e, h => by simp at h
  | x :: es, hs, 0, e, h => by
    simp only [List.getElem?_cons_zero, Option.some.injEq] at h
    subst h
    simp only [Nat.zero_mul, List.drop_zero, flat, List.flatMap_cons]
    rw [← hs x (by simp), List.take_left']
    rfl
  | x :: es, hs, i + 1, e, h => by
    have ih := flat_elem (es := es) (fun e he => hs e (by simp [he])) (i := i) (e := e) (by simpa using h)
    have hx := hs x (by simp)
    have : (flat (x :: es)).drop ((i + 1) * s) = (flat es).drop (i * s) := by
      simp only [flat, List.flatMap_cons]
      rw [List.drop_append_of_le_length' hx]
    rw [this]
    exact ih
where
  List.drop_append_of_le_length' {x : AVal} {r : List AVal} {s i : Nat} (hx : x.cells.length = s) : (x.cells ++ r).drop ((i + 1) * s) = r.drop (i * s) := by
    rw [Nat.succ_mul, Nat.add_comm, ← List.drop_drop, ← hx, List.drop_left']
    rfl

theorem indexAddrA_sound {P : Program} {γ : Gh} {w : World} {T : TypeId} {a ix : AVal} {u v : Value} (hu : Rep γ w true a u) (hv : Rep γ w true ix v) {p : Bool} {r : AVal} (h : indexAddrA P T a ix = some (p, r)) (hp : p) :
    Yields P γ w (Instr.indexAt T u v) r := by
  unfold indexAddrA at h
  split at h
  · rename_i k i
    cases hv
    split at h
    · rename_i es s tag
      split at h
      · rename_i e n bs zs he
        obtain ⟨inf, z, h1, h2, h3, _⟩ := tElem_spec he
        split at h
        · rename_i hns
          subst hns
          simp only [Option.some.injEq, Prod.mk.injEq] at h
          obtain ⟨rfl, rfl⟩ := h
          first | replace hp := of_decide_eq_true hp | skip
          have hi : i.toNat < es.length := by omega
          cases hu with
          | @sliceRow _ _ _ _ b off cap vs hr hs hc h1' hn hm ht =>
            have hge := getElem?_getD hi .undef
            have hfl := flat_elem hs hge
            refine ⟨.pointer (some ⟨b, off + i.toNat * n, none⟩), ?_, ?_⟩
            · simp [Instr.indexAt, asIntOf, run_underlying h1, hp.1, hp.2, sizeOf, typeInfo, h2, h3, addr_add]
            · have hr2 := (hr.drop (i.toNat * n)).take n
              rw [hfl] at hr2
              exact .iptr hr2 (fun v hv => h1' v (List.mem_of_mem_drop (List.mem_of_mem_take hv))) ((hc.drop _).take _)
          | sliceNil ht ho => simp at hi
        · cases h
      · cases h
    · rename_i o off len cap
      split at h
      · rename_i e n bs zs he
        obtain ⟨inf, z, h1, h2, h3, _⟩ := tElem_spec he
        simp only [Option.some.injEq, Prod.mk.injEq] at h
        obtain ⟨rfl, rfl⟩ := h
        first | replace hp := of_decide_eq_true hp | skip
        cases hu with
        | arr hb ho hn h0 =>
          obtain rfl := h0 (by omega)
          refine ⟨_, ?_, .ptr hb ho⟩
          simp [Instr.indexAt, asIntOf, run_underlying h1, hp.1, hp.2, sizeOf, typeInfo, h2, h3, addr_add]
      · cases h
    · rename_i o off
      split at h
      · rename_i m n g he
        obtain ⟨e, inf, h1, h2, h3, _⟩ := tArr_spec he
        simp only [Option.some.injEq, Prod.mk.injEq] at h
        obtain ⟨rfl, rfl⟩ := h
        first | replace hp := of_decide_eq_true hp | skip
        cases hu with
        | ptr hb ho =>
          refine ⟨_, ?_, .ptr hb ho⟩
          simp [Instr.indexAt, asIntOf, run_underlying h1, hp.1, hp.2, sizeOf, typeInfo, h2, h3, addr_add, Instr.sureAddr]
      · cases h
    · rename_i cs
      split at h
      · rename_i m n g he
        obtain ⟨e, inf, h1, h2, h3, _⟩ := tArr_spec he
        simp only [Option.some.injEq, Prod.mk.injEq] at h
        obtain ⟨rfl, rfl⟩ := h
        first | replace hp := of_decide_eq_true hp | skip
        cases hu with
        | @iptr _ _ vs b off hr h1' hc =>
          refine ⟨.pointer (some ⟨b, off + i.toNat * n, none⟩), ?_, .iptr (hr.drop _) (fun v hv => h1' v (List.mem_of_mem_drop hv)) (hc.drop _)⟩
          simp [Instr.indexAt, asIntOf, run_underlying h1, hp.1, hp.2, sizeOf, typeInfo, h2, h3, addr_add, Instr.sureAddr]
      · cases h
    · cases h
  · cases h

theorem indexA_sound {P : Program} {γ : Gh} {w : World} {T : TypeId} {a ix : AVal} {u v : Value} (hu : Rep γ w true a u) (hv : Rep γ w true ix v) {p : Bool} {r : AVal} (h : indexA P T a ix = some (p, r)) (hp : p) :
    Yields P γ w (Instr.index T u v) r := by
  unfold indexA at h
  split at h
  · rename_i k i
    cases hv
    split at h
    · rename_i s
      cases hu
      split at h
      · rename_i hs
        simp only [Option.some.injEq, Prod.mk.injEq] at h
        obtain ⟨rfl, rfl⟩ := h
        first | replace hp := of_decide_eq_true hp | skip
        have hi : i.toNat < s.length := by omega
        have hsz : (ByteArray.mk s.toArray).size = s.length := by simp [ByteArray.size]
        have hget : (ByteArray.mk s.toArray)[i.toNat]? = some (s.getD i.toNat 0) := by
          rw [getElem?_pos _ _ (by rw [hsz]; exact hi)]
          simp [List.getD, List.getElem?_eq_getElem hi]
          rfl
        refine ⟨_, ?_, .int _ _ _⟩
        simp [Instr.index, asIntOf, run_underlying (isStr_spec hs), hp.1, hget]
      · cases h
    · rename_i cs
      split at h
      · rename_i m n g he
        obtain ⟨e, inf, h1, h2, h3, h4⟩ := tArr_spec he
        simp only [Option.some.injEq, Prod.mk.injEq] at h
        obtain ⟨rfl, rfl⟩ := h
        first | replace hp := of_decide_eq_true hp | skip
        cases hu with
        | agg hr h1' =>
          rename_i vs
          have hl := hr.length
          have hrun := run_part P w h4 vs (i.toNat * n) (fun _ => by omega)
          refine ⟨_, ?_, hr.part h1' (i.toNat * n) n g⟩
          simp [Instr.index, asIntOf, run_underlying h1, hp.1, hp.2.1, sizeOf, typeInfo, h2, h3, hrun]
      · cases h
    · cases h
  · cases h

theorem run_loadVar {P : Program} {w : World} {T n : Nat} {g : Bool} (ht : tVar P T = some (n, g)) (b off : Nat) (vs : List Value) (hv : ∀ j v, vs[j]? = some v → w.cell? ⟨b, off + j, none⟩ = some v) (hn : n ≤ vs.length) (h0 : 0 < n) :
    (loadVar T ⟨b, off, none⟩).run P w = .ok (partV vs 0 n g) w := by
  unfold tVar tIsAgg at ht
  cases hi : P.info? T with
  | none => simp [hi] at ht
  | some inf =>
    have hload := run_loadCells_list (P := P) w ⟨b, off, none⟩ (vs.take n) (fun j v hj => by
      rw [addr_add]
      rw [List.getElem?_take] at hj
      split at hj
      · exact hv j v hj
      · cases hj)
    rw [show (vs.take n).length = n by simp; omega] at hload
    have h1 : w.cell? ⟨b, off, none⟩ = some (vs.getD 0 undef) := by
      have hz : 0 < vs.length := by omega
      have := hv 0 (vs.getD 0 undef) (getElem?_getD hz _)
      simpa using this
    cases hu : P.underlying T with
    | none => simp [hi, hu] at ht
    | some d =>
      cases d <;> simp [hi, hu] at ht <;> obtain ⟨rfl, rfl⟩ := ht
      case array => simp [loadVar, isAgg, run_underlying hu, sizeOf, typeInfo, hi, partV, hload]
      case struct => simp [loadVar, isAgg, run_underlying hu, sizeOf, typeInfo, hi, partV, hload]
      all_goals (simp only [List.getD_eq_getElem?_getD] at h1; simp [loadVar, isAgg, run_underlying hu, h1, partV])

theorem etaC_sound {γ : Gh} {w : World} {l : Bool} {s : Sh} {v : AVal} {u : Value} (h : Rep γ w l v u) (ok : etaOk s v = true) : Rep γ w l (etaC s v) u := by
  cases s with
  | bool => cases h <;> first | exact .bool _ _ | (simp [etaOk] at ok)
  | int k => cases h <;> first | (simp [etaOk] at ok; done) | (simp [etaOk] at ok; subst ok; exact .int _ _ _)
  | str => cases h <;> first | exact .str _ _ | (simp [etaOk] at ok)
  | any => exact h
  | slice n =>
    simp only [etaOk, sliceOk] at ok
    split at ok
    · rename_i es s t
      simp only [Bool.or_eq_true, beq_iff_eq] at ok
      cases h with
      | sliceRow hr hs hc h1 hn hm ht =>
        have : s = n := by
          rcases ok with ok | ok
          · exact ok
          · cases t <;> simp [Tag.isNil] at ok
            exact ht.elim
        subst this
        exact .sliceRow hr hs hc h1 hn hm trivial
      | sliceNil ht ho => exact .sliceNil trivial (.inr rfl)
    · cases ok

theorem etaL_sound {γ : Gh} {w : World} {l : Bool} {cs : List AVal} {vs : List Value} (h : RepL γ w l cs vs) : ∀ (shs : List Sh) (i : Nat), etaOkL shs cs i = true → i + shs.length ≤ cs.length → RepL γ w l (etaL shs cs i) ((vs.drop i).take shs.length)
  | [], i, _, _ => by simpa [etaL] using RepL.nil l
  | s :: r, i, ok, hi => by
    simp only [etaOkL, Bool.and_eq_true] at ok
    simp only [List.length_cons] at hi
    have hlt : i < cs.length := by omega
    have hl := h.length
    obtain ⟨v, hv, hrep⟩ := h.get (List.getElem?_eq_getElem hlt)
    have e1 : cs.getD i .undef = cs[i] := by simp [List.getD, hlt]
    rw [e1] at ok
    have e2 : (vs.drop i).take (r.length + 1) = v :: (vs.drop (i + 1)).take r.length := by
      have hlv : i < vs.length := by omega
      rw [List.getElem?_eq_getElem hlv] at hv
      cases hv
      rw [List.drop_eq_getElem_cons hlv, List.take_succ_cons]
    simp only [etaL, List.length_cons, e2, e1]
    exact .cons (etaC_sound hrep ok.1) (etaL_sound h r (i + 1) ok.2 (by omega))

theorem loadV_sound {P : Program} {γ : Gh} {w : World} {l : Bool} {T : TypeId} {deep : Bool} {n : Nat} {g : Bool} {cs : List AVal} {vs : List Value} {off : Nat} (h : RepL γ w l cs vs) (h1 : ∀ v ∈ vs, v.oneCell' = true) (hn : off + n ≤ cs.length)
    (ok : (loadV P T deep n g cs off).1 = true) : Rep γ w l (loadV P T deep n g cs off).2 (partV vs off n g) := by
  have hp := RepL.part h h1 off n g
  unfold loadV at ok ⊢
  cases g with
  | false => exact etaC_sound hp ok
  | true =>
    simp only [] at ok ⊢
    split
    · rename_i shs hs
      rw [hs] at ok
      simp only [] at ok
      split
      · rename_i hl
        rw [if_pos hl] at ok
        subst hl
        exact .agg (etaL_sound h shs off ok hn) (fun v hv => h1 v (List.mem_of_mem_drop (List.mem_of_mem_take hv)))
      · exact hp
    · exact hp

theorem partV_drop (vs : List Value) (off n : Nat) (g : Bool) : partV (vs.drop off) 0 n g = partV vs off n g := by
  cases g <;> simp [partV]

theorem loadA_sound {P : Program} {γ : Gh} {w : World} {lk : Oid → Option AObj} (hk : Ok γ w lk) {T : TypeId} {a : AVal} {u : Value} (hu : Rep γ w true a u) {p : Bool} {r : AVal} (h : loadA P lk T a = some (p, r)) (hp : p) :
    Yields P γ w (Instr.loadAt T u) r := by
  unfold loadA at h
  split at h
  · rename_i n g ht
    split at h
    · rename_i cs
      simp only [Option.some.injEq, Prod.mk.injEq] at h
      obtain ⟨rfl, rfl⟩ := h
      simp only [Bool.and_eq_true] at hp
      obtain ⟨hp, hq⟩ := hp
      replace hp := of_decide_eq_true hp
      cases hu with
      | @iptr _ _ vs b off hr h1' hc =>
        have hl := hr.length
        refine ⟨_, ?_, (loadV_sound (hr.weaken true) h1' (by omega) hq)⟩
        simp only [Instr.loadAt, Instr.sureAddr, Sem.run_bind, Sem.run_pure, Result.andThen_ok]
        exact run_loadVar ht b off vs (fun j v hj => (hc j v hj).2) (by omega) hp.2
    · rename_i o off
      split at h
      · rename_i cs hcs
        simp only [Option.some.injEq, Prod.mk.injEq] at h
        obtain ⟨rfl, rfl⟩ := h
        simp only [Bool.and_eq_true] at hp
        obtain ⟨hp, hq⟩ := hp
        replace hp := of_decide_eq_true hp
        cases hu with
        | @ptr _ _ _ b hb ho =>
          obtain ⟨b', hb2, vs, T', hh, hr, h1', hni⟩ := hk.obj _ _ hcs (by simp)
          rw [hb] at hb2
          cases hb2
          have hl := hr.length
          have hr2 : RepL γ w true cs vs := by
            cases o with
            | loc k => exact hr
            | out k => exact hr.weaken true
          refine ⟨_, ?_, loadV_sound hr2 h1' (by omega) hq⟩
          simp only [Instr.loadAt, Instr.sureAddr, Sem.run_bind, Sem.run_pure, Result.andThen_ok]
          rw [← partV_drop]
          refine run_loadVar ht b off (vs.drop off) (fun j v hj => ?_) (by simp; omega) hp.2
          rw [List.getElem?_drop] at hj
          simp only [World.cell?, hh]
          simpa using hj
      · cases h
    · cases h
  · cases h

theorem boundA_spec {γ : Gh} {w : World} {ρA : Operand → AVal} {ρ : Operand → Value} (hρ : ∀ x, Rep γ w true (ρA x) (ρ x)) {d n : Int} {x : Option Operand} (h : boundA d (x.map ρA) = some n) :
    (x = none ∧ n = d) ∨ (∃ k y, x = some y ∧ ρA y = .int k n ∧ ρ y = .int k n) := by
  cases x with
  | none => simp [boundA] at h; exact .inl ⟨rfl, h.symm⟩
  | some y =>
    have hy := hρ y
    simp only [Option.map_some] at h
    unfold boundA at h
    split at h
    · rename_i e; cases e
    · rename_i k m e
      simp only [Option.some.injEq] at e h
      subst h
      rw [e] at hy
      cases hk : ρ y with
      | int k' n' => rw [hk] at hy; cases hy; exact .inr ⟨k, y, rfl, e, hk⟩
      | _ => rw [hk] at hy; cases hy
    · cases h

theorem run_sliceBound {P : Program} {w : World} (k : IntKind) (n : Int) (y : Nat) (c : BoundsCode) (h0 : 0 ≤ n) (h1 : n ≤ y) : (Instr.sliceBound (.int k n) y c).run P w = .ok n.toNat w := by
  simp [Instr.sliceBound, asIntOf, h0, h1]

theorem run_sliceBounds {P : Program} {γ : Gh} {w : World} {ρA : Operand → AVal} {ρ : Operand → Value} (hρ : ∀ x, Rep γ w true (ρA x) (ρ x)) (is : Bool) (len cap : Nat) (hlc : len ≤ cap) {lo hi : Option Operand} {l h : Int}
    (hl : boundA 0 (lo.map ρA) = some l) (hh : boundA (len : Int) (hi.map ρA) = some h) (h1 : 0 ≤ l) (h2 : l ≤ h) (h3 : h ≤ cap) :
    (Instr.sliceBounds is len cap (lo.map ρ) (hi.map ρ) none).run P w = .ok (l.toNat, h.toNat, cap) w := by
  have hb : ∀ c : BoundsCode, (match (hi.map ρ) with | some v => Instr.sliceBound v cap c | none => pure len : Sem Nat).run P w = .ok h.toNat w := by
    intro c
    rcases boundA_spec hρ hh with ⟨rfl, rfl⟩ | ⟨k, y, rfl, _, hy⟩
    · simp
    · simp only [Option.map_some, hy]
      exact run_sliceBound k h cap c (by omega) (by omega)
  have hb2 : ∀ c : BoundsCode, (match (lo.map ρ) with | some v => Instr.sliceBound v h.toNat c | none => pure 0 : Sem Nat).run P w = .ok l.toNat w := by
    intro c
    rcases boundA_spec hρ hl with ⟨rfl, rfl⟩ | ⟨k, y, rfl, _, hy⟩
    · simp
    · simp only [Option.map_some, hy]
      exact run_sliceBound k l h.toNat c (by omega) (by omega)
  unfold Instr.sliceBounds
  simp only [Sem.run_bind, Sem.run_pure, Result.andThen_ok, Option.isSome_none, Bool.false_eq_true, if_false]
  have e1 := hb (if is then .sliceAcap else .sliceAlen)
  cases hx : hi.map ρ with
  | none =>
    rw [hx] at e1
    simp only [] at e1 ⊢
    rw [Sem.run_bind, e1]
    simp only [Result.andThen_ok]
    cases hy : lo.map ρ with
    | none => have := hb2 .sliceB; rw [hy] at this; simp only [] at this ⊢; rw [Sem.run_bind, this]; rfl
    | some v => have := hb2 .sliceB; rw [hy] at this; simp only [] at this ⊢; rw [Sem.run_bind, this]; rfl
  | some u =>
    rw [hx] at e1
    simp only [] at e1 ⊢
    rw [Sem.run_bind, e1]
    simp only [Result.andThen_ok]
    cases hy : lo.map ρ with
    | none => have := hb2 .sliceB; rw [hy] at this; simp only [] at this ⊢; rw [Sem.run_bind, this]; rfl
    | some v => have := hb2 .sliceB; rw [hy] at this; simp only [] at this ⊢; rw [Sem.run_bind, this]; rfl

theorem run_sliceBounds3 {P : Program} {γ : Gh} {w : World} {ρA : Operand → AVal} {ρ : Operand → Value} (hρ : ∀ x, Rep γ w true (ρA x) (ρ x)) (len cap : Nat) (hlc : len ≤ cap) {lo : Option Operand} {l h : Int} {k k' : IntKind}
    (hl : boundA 0 (lo.map ρA) = some l) (h1 : 0 ≤ l) (h2 : l ≤ h) (h3 : h ≤ len) :
    (Instr.sliceBounds true len cap (lo.map ρ) (some (.int k h)) (some (.int k' h))).run P w = .ok (l.toNat, h.toNat, h.toNat) w := by
  have hb2 : ∀ c : BoundsCode, (match (lo.map ρ) with | some v => Instr.sliceBound v h.toNat c | none => pure 0 : Sem Nat).run P w = .ok l.toNat w := by
    intro c
    rcases boundA_spec hρ hl with ⟨rfl, rfl⟩ | ⟨k, y, rfl, _, hy⟩
    · simp
    · simp only [Option.map_some, hy]
      exact run_sliceBound k l h.toNat c (by omega) (by omega)
  have b1 := run_sliceBound (P := P) (w := w) k' h cap .slice3Acap (by omega) (by omega)
  have b2 := run_sliceBound (P := P) (w := w) k h h.toNat .slice3B (by omega) (by omega)
  unfold Instr.sliceBounds
  simp only [Sem.run_bind, Result.andThen_ok, if_true, b1, b2, Option.isSome_some]
  cases hy : lo.map ρ with
  | none => have := hb2 .slice3C; rw [hy] at this; simp only [] at this ⊢; rw [Sem.run_bind, this]; rfl
  | some v => have := hb2 .slice3C; rw [hy] at this; simp only [] at this ⊢; rw [Sem.run_bind, this]; rfl

theorem run_sliceBoundsM {P : Program} {γ : Gh} {w : World} {ρA : Operand → AVal} {ρ : Operand → Value} (hρ : ∀ x, Rep γ w true (ρA x) (ρ x)) (len cap : Nat) {lo : Option Operand} {l h m : Int} {k k' : IntKind}
    (hl : boundA 0 (lo.map ρA) = some l) (h1 : 0 ≤ l) (h2 : l ≤ h) (h3 : h ≤ m) (h4 : m ≤ cap) :
    (Instr.sliceBounds true len cap (lo.map ρ) (some (.int k h)) (some (.int k' m))).run P w = .ok (l.toNat, h.toNat, m.toNat) w := by
  have hb2 : ∀ c : BoundsCode, (match (lo.map ρ) with | some v => Instr.sliceBound v h.toNat c | none => pure 0 : Sem Nat).run P w = .ok l.toNat w := by
    intro c
    rcases boundA_spec hρ hl with ⟨rfl, rfl⟩ | ⟨k, y, rfl, _, hy⟩
    · simp
    · simp only [Option.map_some, hy]
      exact run_sliceBound k l h.toNat c (by omega) (by omega)
  have b1 := run_sliceBound (P := P) (w := w) k' m cap .slice3Acap (by omega) (by omega)
  have b2 := run_sliceBound (P := P) (w := w) k h m.toNat .slice3B (by omega) (by omega)
  unfold Instr.sliceBounds
  simp only [Sem.run_bind, Result.andThen_ok, if_true, b1, b2, Option.isSome_some]
  cases hy : lo.map ρ with
  | none => have := hb2 .slice3C; rw [hy] at this; simp only [] at this ⊢; rw [Sem.run_bind, this]; rfl
  | some v => have := hb2 .slice3C; rw [hy] at this; simp only [] at this ⊢; rw [Sem.run_bind, this]; rfl

theorem Rep.int_inv {γ : Gh} {w : World} {l : Bool} {k : IntKind} {n : Int} {v : Value} (h : Rep γ w l (.int k n) v) : v = .int k n := by cases h; rfl

theorem flat_drop_take {s : Nat} {es : List AVal} (hs : ∀ e ∈ es, e.cells.length = s) (l n : Nat) : flat ((es.drop l).take n) = ((flat es).drop (l * s)).take (n * s) := by
  have hlen : ∀ (es : List AVal), (∀ e ∈ es, e.cells.length = s) → (flat es).length = es.length * s := by
    intro es
    induction es with
    | nil => intro _; simp [flat]
    | cons x es ih =>
      intro h
      have := ih (fun e he => h e (by simp [he]))
      simp only [flat, List.flatMap_cons, List.length_append, List.length_cons] at this ⊢
      rw [this, h x (by simp), Nat.succ_mul, Nat.add_comm]
  have hd : ∀ (l : Nat) (es : List AVal), (∀ e ∈ es, e.cells.length = s) → flat (es.drop l) = (flat es).drop (l * s) := by
    intro l
    induction l with
    | zero => intro es _; simp
    | succ l ih =>
      intro es h
      cases es with
      | nil => simp [flat]
      | cons x es =>
        have := ih es (fun e he => h e (by simp [he]))
        simp only [List.drop_succ_cons, this, flat, List.flatMap_cons]
        rw [Nat.succ_mul, Nat.add_comm, ← List.drop_drop, ← h x (by simp), List.drop_left' rfl, h x (by simp)]
        exact this
  have htk : ∀ (n : Nat) (es : List AVal), (∀ e ∈ es, e.cells.length = s) → flat (es.take n) = (flat es).take (n * s) := by
    intro n
    induction n with
    | zero => intro es _; simp [flat]
    | succ n ih =>
      intro es h
      cases es with
      | nil => simp [flat]
      | cons x es =>
        have := ih es (fun e he => h e (by simp [he]))
        simp only [List.take_succ_cons, flat, List.flatMap_cons] at this ⊢
        rw [this, Nat.succ_mul, Nat.add_comm, ← h x (by simp), List.take_length_add_append]
  rw [htk n _ (fun e he => hs e (List.mem_of_mem_drop he)), hd l es hs]

theorem List.length_sub {α : Type} {l : List α} {a b : Nat} (h1 : a ≤ b) (h2 : b ≤ l.length) : ((l.drop a).take (b - a)).length = b - a := by
  simp; omega

theorem sliceA_sound {P : Program} {γ : Gh} {w : World} {ρA : Operand → AVal} {ρ : Operand → Value} (hρ : ∀ x, Rep γ w true (ρA x) (ρ x)) {T : TypeId} {x : Operand} {lo hi mx : Option Operand} {p : Bool} {r : AVal}
    (h : sliceA P T (ρA x) (lo.map ρA) (hi.map ρA) (mx.map ρA) = some (p, r)) (hp : p) : Yields P γ w (Instr.sliceAt T (ρ x) (lo.map ρ) (hi.map ρ) (mx.map ρ)) r := by
  have hx := hρ x
  unfold sliceA at h
  split at h
  · rename_i s hs
    rw [hs] at hx
    generalize hy : ρ x = y at hx ⊢
    cases hx
    split at h
    · rename_i ht
      have ht := isStr_spec ht
      split at h
      · rename_i l hh hm h1 h2
        have hm' : mx = none := by cases mx <;> simp at hm ⊢
        subst hm'
        simp only [Option.some.injEq, Prod.mk.injEq] at h
        obtain ⟨rfl, rfl⟩ := h
        first | replace hp := of_decide_eq_true hp | skip
        have hsz : (ByteArray.mk s.toArray).size = s.length := by simp [ByteArray.size]
        have hb := run_sliceBounds (P := P) (w := w) hρ false s.length s.length (Nat.le_refl _) h1 h2 hp.1 hp.2.1 (by omega)
        refine ⟨.string ⟨((s.drop l.toNat).take (hh.toNat - l.toNat)).toArray⟩, ?_, .str _ _⟩
        have he : (ByteArray.mk s.toArray).extract l.toNat hh.toNat = ⟨((s.drop l.toNat).take (hh.toNat - l.toNat)).toArray⟩ := by
          apply ByteArray.ext
          simp [ByteArray.data_extract, List.extract_toArray, List.extract_eq_take_drop]
        simp [Instr.sliceAt, Instr.slice, run_underlying ht, hsz, hb, he]
      · cases h
    · cases h
  · rename_i es s tag hs
    rw [hs] at hx
    generalize hy : ρ x = y at hx ⊢
    split at h
    · rename_i e n bs zs he
      obtain ⟨inf, z, g1, g2, g3, _⟩ := tElem_spec he
      split at h
      · rename_i hn
        split at h
        · rename_i hm
          have hm' : mx = none := by cases mx <;> simp at hm ⊢
          subst hm'
          split at h
          · rename_i l hh h1 h2
            simp only [Option.some.injEq, Prod.mk.injEq] at h
            obtain ⟨rfl, rfl⟩ := h
            first | replace hp := of_decide_eq_true hp | skip
            obtain ⟨q1, q2, q3⟩ := hp
            cases hx with
            | @sliceRow _ _ _ _ b off cap vs hr hse hc h1' hnc hmx ht =>
              have hb := run_sliceBounds (P := P) (w := w) hρ true es.length cap hnc h1 h2 q1 q2 (by omega)
              have hns : n = s := by
                rcases hn with hn | hn
                · exact hn
                · cases tag <;> simp [Tag.isNil] at hn
                  exact ht.elim
              subst hns
              have hl : ((es.drop l.toNat).take (hh.toNat - l.toNat)).length = hh.toNat - l.toNat := List.length_sub (by omega) (by omega)
              have hrun : (Instr.sliceAt T (.slice (some ⟨b, off, none⟩) es.length cap) (lo.map ρ) (hi.map ρ) ((none : Option Operand).map ρ)).run P w =
                  .ok (.slice (if cap = l.toNat then some ⟨b, off, none⟩ else some ⟨b, off + l.toNat * n, none⟩) (hh.toNat - l.toNat) (cap - l.toNat)) w := by
                simp [Instr.sliceAt, Instr.slice, run_underlying g1, hb, sizeOf, typeInfo, g2, g3]
                split <;> simp [addr_add]
              refine ⟨_, hrun, ?_⟩
              have hr2 : RepL γ w false (flat ((es.drop l.toNat).take (hh.toNat - l.toNat))) ((vs.drop (l.toNat * n)).take ((hh.toNat - l.toNat) * n)) := by
                rw [flat_drop_take hse]
                exact (hr.drop _).take _
              have hse2 : ∀ e ∈ (es.drop l.toNat).take (hh.toNat - l.toNat), e.cells.length = n := fun e he => hse e (List.mem_of_mem_drop (List.mem_of_mem_take he))
              have hv2 : ∀ v ∈ (vs.drop (l.toNat * n)).take ((hh.toNat - l.toNat) * n), v.oneCell' = true := fun v hv => h1' v (List.mem_of_mem_drop (List.mem_of_mem_take hv))
              by_cases hcap : cap = l.toNat
              · rw [if_pos hcap]
                have hz : hh.toNat - l.toNat = 0 := by omega
                have hempty : (es.drop l.toNat).take (hh.toNat - l.toNat) = [] := by rw [hz]; rfl
                rw [hempty, hz, hcap, Nat.sub_self]
                have : Rep γ w true (.slice [] n (sliceTag (lo.map ρA) (hi.map ρA) tag)) (.slice (some ⟨b, off, none⟩) ([] : List AVal).length 0) := by
                  refine .sliceRow (vs := []) (.nil _) (fun e he => by cases he) (fun j v hj => by simp at hj) (fun v hv => by cases hv) (Nat.le_refl _) (Nat.zero_le _) ?_
                  cases tag with
                  | nil => exact ht.elim
                  | ro => trivial
                  | full => cases hi <;> simp [sliceTag, AL.tagRow]
                  | own q =>
                    cases hlo : lo with
                    | some _ => simp [sliceTag, AL.tagRow]
                    | none =>
                      cases hhi : hi with
                      | some _ => simp [sliceTag, AL.tagRow]
                      | none =>
                        subst hlo; subst hhi
                        simp [boundA] at h1 h2
                        subst h1; subst h2
                        simp at hcap hz
                        simp only [sliceTag, Option.map_none, List.length_nil]
                        rw [hz] at ht
                        simpa [hcap] using ht
                exact this
              · rw [if_neg hcap]
                have hgoal := Rep.sliceRow (γ := γ) (w := w) (l := true) (tag := sliceTag (lo.map ρA) (hi.map ρA) tag) (off := off + l.toNat * n) (b := b) (cap := cap - l.toNat) hr2 hse2 ((hc.drop _).take _) hv2 (by omega) (by omega) (by
                  rw [hl]
                  cases tag with
                  | nil => exact ht.elim
                  | ro => trivial
                  | full =>
                    cases hi with
                    | none => simp [boundA] at h2; simp [AL.tagRow] at ht; simp [sliceTag, AL.tagRow]; omega
                    | some _ => simp [sliceTag, AL.tagRow]
                  | own q =>
                    cases hlo : lo with
                    | some _ => simp [sliceTag, AL.tagRow]
                    | none =>
                      cases hhi : hi with
                      | some _ => simp [sliceTag, AL.tagRow]
                      | none =>
                        subst hlo; subst hhi
                        simp [boundA] at h1 h2
                        subst h1; subst h2
                        simp only [sliceTag, Option.map_none]
                        simpa using ht)
                rw [hl] at hgoal
                exact hgoal
            | @sliceNil _ _ _ oo ht ho =>
              have hb := run_sliceBounds (P := P) (w := w) hρ true 0 0 (Nat.le_refl _) h1 h2 q1 q2 q3
              simp only [List.length_nil] at q3
              have e1 : l = 0 := by omega
              have e2 : hh = 0 := by omega
              subst e1; subst e2
              refine ⟨.slice oo 0 0, ?_, ?_⟩
              · simp at hb
                cases oo <;> simp [Instr.sliceAt, Instr.slice, run_underlying g1, hb, sizeOf, typeInfo, g2, g3]
              · simp only [List.drop_nil, List.take_nil]
                refine .sliceNil ?_ ?_
                · cases tag with
                  | own q => cases lo <;> cases hi <;> first | exact ht | trivial
                  | full => cases hi <;> trivial
                  | _ => trivial
                · refine ho.imp_right fun h => ?_
                  cases tag with
                  | own q => cases lo <;> cases hi <;> rfl
                  | full => cases hi <;> rfl
                  | nil => cases h
                  | ro => rfl
          · cases h
        · rename_i m hm
          split at h
          · rename_i l k hh k' m' h1 h2
            cases hi with
            | none => cases h2
            | some hiO =>
            cases mx with
            | none => cases hm
            | some mxO =>
            simp only [Option.map_some, Option.some.injEq] at h2 hm
            simp only [Option.some.injEq, Prod.mk.injEq] at h
            obtain ⟨rfl, rfl⟩ := h
            first | replace hp := of_decide_eq_true hp | skip
            obtain ⟨q1, q2, q3, rfl⟩ := hp
            have vh := hρ hiO
            rw [h2] at vh
            have vh := vh.int_inv
            have vm := hρ mxO
            rw [hm] at vm
            have vm := vm.int_inv
            simp only [Option.map_some, vh, vm]
            cases hx with
            | @sliceRow _ _ _ _ b off cap vs hr hse hc h1' hnc hmx ht =>
              have hb := run_sliceBounds3 (P := P) (w := w) (k := k) (k' := k') hρ es.length cap hnc h1 q1 q2 q3
              have hns : n = s := by
                rcases hn with hn | hn
                · exact hn
                · cases tag <;> simp [Tag.isNil] at hn
                  exact ht.elim
              subst hns
              have hl : ((es.drop l.toNat).take (m'.toNat - l.toNat)).length = m'.toNat - l.toNat := List.length_sub (by omega) (by omega)
              have hrun : (Instr.sliceAt T (.slice (some ⟨b, off, none⟩) es.length cap) (lo.map ρ) (some (.int k m')) (some (.int k' m'))).run P w =
                  .ok (.slice (if m'.toNat = l.toNat then some ⟨b, off, none⟩ else some ⟨b, off + l.toNat * n, none⟩) (m'.toNat - l.toNat) (m'.toNat - l.toNat)) w := by
                simp [Instr.sliceAt, Instr.slice, run_underlying g1, hb, sizeOf, typeInfo, g2, g3]
                split <;> simp [addr_add]
              refine ⟨_, hrun, ?_⟩
              have hr2 : RepL γ w false (flat ((es.drop l.toNat).take (m'.toNat - l.toNat))) ((vs.drop (l.toNat * n)).take ((m'.toNat - l.toNat) * n)) := by
                rw [flat_drop_take hse]
                exact (hr.drop _).take _
              have hse2 : ∀ e ∈ (es.drop l.toNat).take (m'.toNat - l.toNat), e.cells.length = n := fun e he => hse e (List.mem_of_mem_drop (List.mem_of_mem_take he))
              have hv2 : ∀ v ∈ (vs.drop (l.toNat * n)).take ((m'.toNat - l.toNat) * n), v.oneCell' = true := fun v hv => h1' v (List.mem_of_mem_drop (List.mem_of_mem_take hv))
              by_cases hcap : m'.toNat = l.toNat
              · rw [if_pos hcap]
                have hz : m'.toNat - l.toNat = 0 := by omega
                have hempty : (es.drop l.toNat).take (m'.toNat - l.toNat) = [] := by rw [hz]; rfl
                rw [hempty, hz]
                have : Rep γ w true (.slice [] n .full) (.slice (some ⟨b, off, none⟩) ([] : List AVal).length 0) :=
                  .sliceRow (vs := []) (.nil _) (fun e he => by cases he) (fun j v hj => by simp at hj) (fun v hv => by cases hv) (Nat.le_refl _) (Nat.zero_le _) rfl
                exact this
              · rw [if_neg hcap]
                have hgoal := Rep.sliceRow (γ := γ) (w := w) (l := true) (tag := .full) (off := off + l.toNat * n) (b := b) (cap := m'.toNat - l.toNat) hr2 hse2 ((hc.drop _).take _) hv2 (by omega) (by omega) (by
                  rw [hl]; rfl)
                rw [hl] at hgoal
                exact hgoal
            | @sliceNil _ _ _ oo ht ho =>
              have hb := run_sliceBounds3 (P := P) (w := w) (k := k) (k' := k') hρ 0 0 (Nat.le_refl _) h1 q1 q2 q3
              simp only [List.length_nil] at q3
              have e1 : l = 0 := by omega
              have e2 : m' = 0 := by omega
              subst e1; subst e2
              refine ⟨.slice oo 0 0, ?_, ?_⟩
              · simp at hb
                cases oo <;> simp [Instr.sliceAt, Instr.slice, run_underlying g1, hb, sizeOf, typeInfo, g2, g3]
              · simp only [List.drop_nil, List.take_nil]
                exact .sliceNil trivial (.inr rfl)
          · cases h
      · cases h
    · cases h
  · rename_i o off len cap hs
    rw [hs] at hx
    generalize hy : ρ x = y at hx ⊢
    split at h
    · rename_i e n bs zs l hh he h1 h2
      obtain ⟨inf, z, g1, g2, g3, _⟩ := tElem_spec he
      cases hx with
      | @arr _ _ _ off' _ _ b hb ho hnc h0 =>
        split at h
        · rename_i hm
          have hm' : mx = none := by cases mx <;> simp at hm ⊢
          subst hm'
          simp only [Option.some.injEq, Prod.mk.injEq] at h
          obtain ⟨rfl, rfl⟩ := h
          first | replace hp := of_decide_eq_true hp | skip
          obtain ⟨q1, q2, q3⟩ := hp
          have hb' := run_sliceBounds (P := P) (w := w) hρ true len cap hnc h1 h2 q1 q2 q3
          refine ⟨.slice (some ⟨b, if cap = l.toNat then off' else off' + l.toNat * n, none⟩) (hh.toNat - l.toNat) (cap - l.toNat), ?_, .arr hb ho (by omega) (fun h3 => ?_)⟩
          · simp [Instr.sliceAt, Instr.slice, run_underlying g1, hb', sizeOf, typeInfo, g2, g3]
            split <;> simp [addr_add]
          · rw [if_neg (by omega), h0 (by omega)]
        · rename_i m hm
          split at h
          · rename_i k hh' k' m' h3
            cases hi with
            | none => cases h3
            | some hiO =>
            cases mx with
            | none => cases hm
            | some mxO =>
            simp only [Option.map_some, Option.some.injEq] at h3 hm
            simp only [Option.some.injEq, Prod.mk.injEq] at h
            obtain ⟨rfl, rfl⟩ := h
            first | replace hp := of_decide_eq_true hp | skip
            obtain ⟨q1, q2, q3, q4⟩ := hp
            have vh := hρ hiO
            rw [h3] at vh
            have vh := vh.int_inv
            have vm := hρ mxO
            rw [hm] at vm
            have vm := vm.int_inv
            have e2 : hh' = hh := by simp [boundA, h3] at h2; exact h2
            subst e2
            simp only [Option.map_some, vh, vm]
            have hb' := run_sliceBoundsM (P := P) (w := w) (k := k) (k' := k') hρ len cap h1 q1 q2 q3 q4
            refine ⟨.slice (some ⟨b, if m'.toNat = l.toNat then off' else off' + l.toNat * n, none⟩) (hh'.toNat - l.toNat) (m'.toNat - l.toNat), ?_, .arr hb ho (by omega) (fun h5 => ?_)⟩
            · simp [Instr.sliceAt, Instr.slice, run_underlying g1, hb', sizeOf, typeInfo, g2, g3]
              split <;> simp [addr_add]
            · rw [if_neg (by omega), h0 (by omega)]
          · cases h
    · cases h
  · cases h

/-! ### The rest -/

theorem lenA_sound {P : Program} {γ : Gh} {w : World} {lk : Oid → Option AObj} (hk : Ok γ w lk) {T : TypeId} {a : AVal} {u : Value} (hu : Rep γ w true a u) {p : Bool} {r : AVal} (h : lenA P lk T a = some (p, r)) (_hp : p)
    (ty : TypeId) : Yields P γ w (Builtin.len_ #[T] ty #[u]) r := by
  unfold lenA at h
  split at h
  · rename_i s ht
    simp only [Option.some.injEq, Prod.mk.injEq] at h
    obtain ⟨rfl, rfl⟩ := h
    first | replace hp := of_decide_eq_true hp | skip
    cases hu
    have hsz : (ByteArray.mk s.toArray).size = s.length := by simp [ByteArray.size]
    exact ⟨_, by simp [Builtin.len_, run_underlying ht, goInt, hsz], .int _ _ _⟩
  · rename_i e es s tag ht
    simp only [Option.some.injEq, Prod.mk.injEq] at h
    obtain ⟨rfl, rfl⟩ := h
    first | replace hp := of_decide_eq_true hp | skip
    cases hu with
    | sliceRow => exact ⟨_, by simp [Builtin.len_, run_underlying ht, goInt], .int _ _ _⟩
    | sliceNil => exact ⟨_, by simp [Builtin.len_, run_underlying ht, goInt], .int _ _ _⟩
  · rename_i e o off len cap ht
    simp only [Option.some.injEq, Prod.mk.injEq] at h
    obtain ⟨rfl, rfl⟩ := h
    first | replace hp := of_decide_eq_true hp | skip
    cases hu
    exact ⟨_, by simp [Builtin.len_, run_underlying ht, goInt], .int _ _ _⟩
  · rename_i e k len ht
    simp only [Option.some.injEq, Prod.mk.injEq] at h
    obtain ⟨rfl, rfl⟩ := h
    first | replace hp := of_decide_eq_true hp | skip
    cases hu
    exact ⟨_, by simp [Builtin.len_, run_underlying ht, goInt], .int _ _ _⟩
  · rename_i n e ht
    simp only [Option.some.injEq, Prod.mk.injEq] at h
    obtain ⟨rfl, rfl⟩ := h
    first | replace hp := of_decide_eq_true hp | skip
    exact ⟨_, by simp [Builtin.len_, run_underlying ht, goInt], .int _ _ _⟩
  · rename_i k e ht
    simp only [Option.some.injEq, Prod.mk.injEq] at h
    obtain ⟨rfl, rfl⟩ := h
    first | replace hp := of_decide_eq_true hp | skip
    cases hu
    exact ⟨_, by simp [Builtin.len_, run_underlying ht, goInt], .int _ _ _⟩
  · rename_i k e o ht
    split at h
    · rename_i es ho
      simp only [Option.some.injEq, Prod.mk.injEq] at h
      obtain ⟨rfl, rfl⟩ := h
      first | replace hp := of_decide_eq_true hp | skip
      cases hu with
      | map hb hl =>
        obtain ⟨b', hb2, ents, clock, hh, hr, _⟩ := hk.obj _ _ ho (by simp)
        rw [hb] at hb2
        cases hb2
        have := hr.1
        refine ⟨_, ?_, .int _ _ _⟩
        simp [Builtin.len_, run_underlying ht, goInt, getObj, Sem.run, hh, this]
    · cases h
  · cases h

theorem capA_sound {P : Program} {γ : Gh} {w : World} {T : TypeId} {a : AVal} {u : Value} (hu : Rep γ w true a u) {p : Bool} {r : AVal} (h : capA P T a = some (p, r))
    (ty : TypeId) : Yields P γ w (Builtin.cap_ #[T] ty #[u]) r := by
  unfold capA at h
  split at h
  · rename_i e o off len cap ht
    simp only [Option.some.injEq, Prod.mk.injEq] at h
    obtain ⟨rfl, rfl⟩ := h
    cases hu
    exact ⟨_, by simp [Builtin.cap_, run_underlying ht, goInt], .int _ _ _⟩
  · cases h

theorem maxA_sound {P : Program} {γ : Gh} {w : World} : ∀ {as : List AVal} {a : AVal} {u : Value} {us : List Value} {r : AVal}, maxA a as = some r → Rep γ w true a u → RepL γ w true as us →
    ∃ v, (us.foldlM Builtin.max2 u).run P w = .ok v w ∧ Rep γ w true r v
  | [], a, u, _, r, h, hu, .nil _ => by simp [maxA] at h; subst h; exact ⟨u, rfl, hu⟩
  | b :: as, a, u, _, r, h, hu, .cons hb t => by
    unfold maxA at h
    split at h
    · rename_i e; simp at e
    · rename_i k x k' y as' e
      cases e
      cases hu; cases hb
      obtain ⟨v, h1, h2⟩ := maxA_sound (P := P) h (.int true k _) t
      refine ⟨v, ?_, h2⟩
      simp only [List.foldlM_cons, Builtin.max2, Sem.run_bind, Sem.run_pure, Result.andThen_ok]
      exact h1
    · cases h

theorem minA_sound {P : Program} {γ : Gh} {w : World} : ∀ {as : List AVal} {a : AVal} {u : Value} {us : List Value} {r : AVal}, minA a as = some r → Rep γ w true a u → RepL γ w true as us →
    ∃ v, (us.foldlM Builtin.min2 u).run P w = .ok v w ∧ Rep γ w true r v
  | [], a, u, _, r, h, hu, .nil _ => by simp [minA] at h; subst h; exact ⟨u, rfl, hu⟩
  | b :: as, a, u, _, r, h, hu, .cons hb t => by
    unfold minA at h
    split at h
    · rename_i e; simp at e
    · rename_i k x k' y as' e
      cases e
      cases hu; cases hb
      obtain ⟨v, h1, h2⟩ := minA_sound (P := P) h (.int true k _) t
      refine ⟨v, ?_, h2⟩
      simp only [List.foldlM_cons, Builtin.min2, Sem.run_bind, Sem.run_pure, Result.andThen_ok]
      exact h1
    · cases h

theorem fill_range (off : Nat) : ∀ (xs : List Value) (k : Nat) (cs : Array Value), off + k + xs.length ≤ cs.size →
    ((xs.zipIdx k).foldl (fun cs (x : Value × Nat) => cs.setIfInBounds (off + x.2) x.1) cs).toList = cs.toList.take (off + k) ++ xs ++ cs.toList.drop (off + k + xs.length)
  | [], k, cs, _ => by simp
  | x :: xs, k, cs, h => by
    simp only [List.length_cons] at h
    rw [List.zipIdx_cons, List.foldl_cons, fill_range off xs (k + 1) _ (by simp; omega)]
    simp only [Array.toList_setIfInBounds, List.length_cons]
    have e1 : off + (k + 1) = off + k + 1 := by omega
    have e2 : off + k + 1 + xs.length = off + k + (xs.length + 1) := by omega
    rw [e1, e2]
    have h3 : (cs.toList.set (off + k) x).take (off + k + 1) = cs.toList.take (off + k) ++ [x] := by
      rw [List.take_succ_eq_append_getElem (by simp; omega), List.take_set_of_le (Nat.le_refl _)]
      simp
    have h4 : (cs.toList.set (off + k) x).drop (off + k + (xs.length + 1)) = cs.toList.drop (off + k + (xs.length + 1)) := by
      rw [List.drop_set_of_lt (by omega)]
    rw [h3, h4]
    simp

theorem sized_cells {γ : Gh} {w : World} {l : Bool} {a : AVal} {v : Value} (h : Rep γ w l a v) (hz : a.sized = true) : RepL γ w l a.cells v.cells.toList ∧ (∀ x ∈ v.cells.toList, x.oneCell' = true) := by
  cases h with
  | agg h h1 => exact ⟨by simpa [AVal.cells, Value.cells] using h, by simpa [Value.cells] using h1⟩
  | undef => cases hz
  | tuple => cases hz
  | bool => exact ⟨.cons (.bool _ _) (.nil _), by simp [Value.cells, Value.oneCell']⟩
  | int => exact ⟨.cons (.int _ _ _) (.nil _), by simp [Value.cells, Value.oneCell']⟩
  | str => exact ⟨.cons (.str _ _) (.nil _), by simp [Value.cells, Value.oneCell']⟩
  | sliceRow h hs hc h1 hn hm ht => exact ⟨.cons (.sliceRow h hs hc h1 hn hm ht) (.nil _), by simp [Value.cells, Value.oneCell']⟩
  | sliceNil ht ho => exact ⟨.cons (.sliceNil ht ho) (.nil _), by simp [Value.cells, Value.oneCell']⟩
  | arr hb ho hn h0 => exact ⟨.cons (.arr hb ho hn h0) (.nil _), by simp [Value.cells, Value.oneCell']⟩
  | mrow hc hn hb => exact ⟨.cons (.mrow hc hn hb) (.nil _), by simp [Value.cells, Value.oneCell']⟩
  | iptr h h1 hc => exact ⟨.cons (.iptr h h1 hc) (.nil _), by simp [Value.cells, Value.oneCell']⟩
  | ptr hb ho => exact ⟨.cons (.ptr hb ho) (.nil _), by simp [Value.cells, Value.oneCell']⟩
  | nilptr => exact ⟨.cons (.nilptr _) (.nil _), by simp [Value.cells, Value.oneCell']⟩
  | map hb ho => exact ⟨.cons (.map hb ho) (.nil _), by simp [Value.cells, Value.oneCell']⟩
  | nilmap => exact ⟨.cons (.nilmap _) (.nil _), by simp [Value.cells, Value.oneCell']⟩
  | func hf hc => exact ⟨.cons (.func hf hc) (.nil _), by simp [Value.cells, Value.oneCell']⟩
  | nilfunc => exact ⟨.cons (.nilfunc _) (.nil _), by simp [Value.cells, Value.oneCell']⟩
  | iface h => exact ⟨.cons (.iface h) (.nil _), by simp [Value.cells, Value.oneCell']⟩
  | nilIface => exact ⟨.cons (.nilIface _) (.nil _), by simp [Value.cells, Value.oneCell']⟩

theorem RepL.setRange {γ : Gh} {w : World} {l : Bool} {cs xs : List AVal} {vs us : List Value} (h : RepL γ w l cs vs) (hx : RepL γ w l xs us) (off : Nat) : RepL γ w l (AL.setRange cs off xs) (vs.take off ++ us ++ vs.drop (off + us.length)) := by
  unfold AL.setRange
  rw [hx.length]
  exact RepL.append (h.drop _) (RepL.append hx (h.take _))

theorem fillA_sound {γ : Gh} {w : World} {ρA : Operand → AVal} {ρ : Operand → Value} (hρ : ∀ x, Rep γ w true (ρA x) (ρ x)) {place : Nat → Option (Nat × Nat)} :
    ∀ {ps : List (Nat × Operand)} {cs : List AVal} {vs : Array Value} {r : List AVal}, fillA place cs (ps.map fun x => (x.1, ρA x.2)) = some r → RepL γ w true cs vs.toList → (∀ v ∈ vs.toList, v.oneCell' = true) →
    ∃ us : Array Value, Instr.fill place vs (ps.map fun x => (x.1, ρ x.2)) = some us ∧ RepL γ w true r us.toList ∧ (∀ v ∈ us.toList, v.oneCell' = true)
  | [], cs, vs, r, h, hr, h1 => by
    simp only [List.map_nil, fillA, Option.some.injEq] at h
    subst h
    exact ⟨vs, rfl, hr, h1⟩
  | x :: ps, cs, vs, r, h, hr, h1 => by
    simp only [List.map_cons, fillA] at h
    split at h
    · rename_i off n hpl
      split at h
      · rename_i hc
        simp only [Bool.and_eq_true, beq_iff_eq, decide_eq_true_eq] at hc
        obtain ⟨hx, hx1⟩ := sized_cells (hρ x.2) hc.1.1
        have hl := hr.length
        have hlx := hx.length
        simp only [Array.length_toList] at hl hlx
        have hrange := fill_range off (ρ x.2).cells.toList 0 vs (by simp only [Array.length_toList]; omega)
        simp only [Nat.add_zero] at hrange
        have hr2 := hr.setRange hx off
        have hfold : (ρ x.2).cells.zipIdx.foldl (fun cs (c, j) => cs.setIfInBounds (off + j) c) vs = (((ρ x.2).cells.toList.zipIdx 0).foldl (fun cs (x : Value × Nat) => cs.setIfInBounds (off + x.2) x.1) vs) := by
          rw [← Array.foldl_toList, Array.toList_zipIdx]
        obtain ⟨us, g1, g2, g3⟩ := fillA_sound hρ (ps := ps) (vs := (ρ x.2).cells.zipIdx.foldl (fun cs (c, j) => cs.setIfInBounds (off + j) c) vs) h (by rw [hfold, hrange]; exact hr2) (by
          rw [hfold, hrange]
          intro v hv
          rcases List.mem_append.1 hv with hv | hv
          · rcases List.mem_append.1 hv with hv | hv
            · exact h1 v (List.mem_of_mem_take hv)
            · exact hx1 v hv
          · exact h1 v (List.mem_of_mem_drop hv))
        refine ⟨us, ?_, g2, g3⟩
        simp only [List.map_cons, Instr.fill, hpl]
        rw [if_neg]
        · exact g1
        · simp only [Bool.or_eq_true, decide_eq_true_eq, ne_eq]
          omega
      · cases h
    · cases h

theorem RepL.absV (γ : Gh) (w : World) (l : Bool) : ∀ vs : List Value, RepL γ w l (vs.map AL.absV) vs
  | [] => .nil _
  | v :: vs => .cons (Rep.absV l v) (RepL.absV γ w l vs)

theorem absZ_spec {z : Value} {v : AVal} (h : absZ z = some v) (γ : Gh) (w : World) (l : Bool) : Rep γ w l v z ∧ RepL γ w l v.cells z.cells.toList ∧ ∀ x ∈ z.cells.toList, x.oneCell' = true := by
  unfold absZ at h
  split at h
  · rename_i cs
    split at h
    · rename_i hc
      cases h
      have h1 : ∀ x ∈ cs.toList, x.oneCell' = true := List.all_eq_true.1 hc
      have := RepL.absV γ w l cs.toList
      exact ⟨.agg this h1, this, h1⟩
    · cases h
  · cases h
  · rename_i h1 h2
    cases h
    have hone : z.oneCell' = true := by cases z <;> first | rfl | exact absurd rfl (h1 _) | exact absurd rfl (h2 _)
    have hc : z.cells.toList = [z] := by cases z <;> first | rfl | exact absurd rfl (h1 _)
    have hv : (absV z).cells = [absV z] := by
      unfold absV
      split <;> rfl
    rw [hc, hv]
    exact ⟨Rep.absV l z, .cons (Rep.absV l z) (.nil _), by simpa using hone⟩

theorem zeroV_spec {P : Program} {T : TypeId} {v : AVal} (h : zeroV P T = some v) : ∃ inf z, P.info? T = some inf ∧ inf.zero = some z ∧ absZ z = some v := by
  unfold zeroV at h
  split at h
  · rename_i inf hi
    split at h
    · rename_i z hz
      exact ⟨inf, z, hi, hz, h⟩
    · cases h
  · cases h

theorem run_zeroValue {P : Program} {T : TypeId} {inf : TypeInfo} {z : Value} (hi : P.info? T = some inf) (hz : inf.zero = some z) (w : World) : (zeroValue T).run P w = .ok z w := by
  simp [zeroValue, typeInfo, hi, hz]

theorem run_sizeOf' {P : Program} {t : TypeId} {i : TypeInfo} (h : P.info? t = some i) (w : World) : (sizeOf t).run P w = .ok (P.cellsOf t) w := by
  simp [sizeOf, typeInfo, h, Program.cellsOf]

theorem mapM_places {P : Program} {w : World} (fs : List Field) (hf : ∀ f ∈ fs, (P.info? f.type).isSome = true) :
    ∃ ps : List (Nat × Nat), (fs.mapM (m := Sem) fun f => do pure (f.offset, ← sizeOf f.type)).run P w = .ok ps w ∧ ps = fs.map fun f => (f.offset, P.cellsOf f.type) := by
  induction fs with
  | nil => exact ⟨[], rfl, rfl⟩
  | cons f fs ih =>
    obtain ⟨ps, h1, h2⟩ := ih (fun f hf' => hf f (by simp [hf']))
    obtain ⟨inf, hi⟩ := Option.isSome_iff_exists.1 (hf f (by simp))
    refine ⟨(f.offset, P.cellsOf f.type) :: ps, ?_, by simp [h2]⟩
    simp only [List.mapM_cons, Sem.run_bind, run_sizeOf' hi, Result.andThen_ok, Sem.run_pure, h1]

theorem buildA_sound {P : Program} {γ : Gh} {w : World} {ρA : Operand → AVal} {ρ : Operand → Value} (hρ : ∀ x, Rep γ w true (ρA x) (ρ x)) {T : TypeId} {ps : Array (Nat × Operand)} {p : Bool} {r : AVal}
    (h : buildA P T (ps.toList.map fun x => (x.1, ρA x.2)) = some (p, r)) (_hp : p) : Yields P γ w (Instr.build T (ps.map fun (i, x) => (i, ρ x))) r := by
  have hlist : (ps.map fun (i, x) => (i, ρ x)).toList = ps.toList.map fun x => (x.1, ρ x.2) := by simp
  unfold buildA at h
  split at h
  · rename_i hst
    unfold isStruct at hst
    split at hst
    · rename_i fs hfs
      split at h
      · rename_i zs hzs
        unfold zeroA at hzs
        split at hzs
        · rename_i v hv
          cases hzs
          obtain ⟨inf, z, hi, hz, ha⟩ := zeroV_spec hv
          obtain ⟨_, g2, g3⟩ := absZ_spec ha γ w true
          split at h
          · rename_i cs hcs
            simp only [Option.some.injEq, Prod.mk.injEq] at h
            obtain ⟨rfl, rfl⟩ := h
            first | replace hp := of_decide_eq_true hp | skip
            obtain ⟨us, f1, f2, f3⟩ := fillA_sound hρ (vs := z.cells) hcs g2 g3
            obtain ⟨pls, m1, m2⟩ := mapM_places (P := P) (w := w) fs.toList (List.all_eq_true.1 hst)
            have hpl : (fun i => pls.toArray[i]?) = structPlace P T ∨ True := .inr trivial
            refine ⟨.agg us, ?_, ?_⟩
            · have hm : (fs.mapM (m := Sem) fun f => do pure (f.offset, ← sizeOf f.type)).run P w = .ok pls.toArray w := by
                rw [Array.mapM_eq_mapM_toList]
                simp only [Sem.run_map, m1, Result.andThen_ok]
              have hfill : Instr.fill (fun i => pls.toArray[i]?) z.cells (ps.map fun (i, x) => (i, ρ x)).toList = some us := by
                rw [hlist]
                refine fill_weaken ?_ _ _ f1
                intro i x hx
                unfold structPlace tField at hx
                cases hfi : fs[i]? with
                | none => simp [hfs, hfi] at hx
                | some f =>
                  cases hin : P.info? f.type with
                  | none => simp [hfs, hfi, hin] at hx
                  | some inf' =>
                    cases hg : tIsAgg P f.type with
                    | none => simp [hfs, hfi, hin, hg] at hx
                    | some g =>
                      simp [hfs, hfi, hin, hg] at hx
                      rw [m2, ← hx]
                      simp [hfi, Program.cellsOf, hin]
              simp only [Instr.build, Sem.run_bind, run_zeroValue hi hz, Result.andThen_ok, run_underlying hfs, hm, hfill, Sem.run_pure]
            · have := Rep.agg f2 f3
              simpa using this
          · cases h
        · cases hzs
      · cases h
    · cases hst
  · split at h
    · rename_i m n g zs hm hzs
      obtain ⟨e, infe, g1, g2', g3', _⟩ := tArr_spec hm
      unfold zeroA at hzs
      split at hzs
      · rename_i v hv
        cases hzs
        obtain ⟨inf, z, hi, hz, ha⟩ := zeroV_spec hv
        obtain ⟨_, g2, g3⟩ := absZ_spec ha γ w true
        split at h
        · rename_i cs hcs
          simp only [Option.some.injEq, Prod.mk.injEq] at h
          obtain ⟨rfl, rfl⟩ := h
          first | replace hp := of_decide_eq_true hp | skip
          obtain ⟨us, f1, f2, f3⟩ := fillA_sound hρ (vs := z.cells) hcs g2 g3
          refine ⟨.agg us, ?_, ?_⟩
          · rw [← hlist] at f1
            have hc : P.cellsOf e = n := by simp [Program.cellsOf, g2', g3']
            simp only [Instr.build, Sem.run_bind, run_zeroValue hi hz, Result.andThen_ok, run_underlying g1, run_sizeOf' g2', hc, f1, Sem.run_pure]
          · have := Rep.agg f2 f3
            simpa using this
        · cases h
      · cases hzs
    · cases h
where
  fill_weaken {place place' : Nat → Option (Nat × Nat)} (hp : ∀ i x, place i = some x → place' i = some x) : ∀ (ps : List (Nat × Value)) (cs : Array Value) {us : Array Value}, Instr.fill place cs ps = some us → Instr.fill place' cs ps = some us
    | [], cs, us, h => h
    | x :: ps, cs, us, h => by
      simp only [Instr.fill] at h ⊢
      cases hx : place x.1 with
      | none => rw [hx] at h; cases h
      | some y =>
        rw [hx] at h
        rw [hp _ _ hx]
        simp only [] at h ⊢
        split at h
        · cases h
        · rename_i hc
          rw [if_neg hc]
          exact fill_weaken hp ps _ h

theorem isIface_false {P : Program} {T : TypeId} (h : isIface P T = some false) : ∃ d, P.underlying T = some d ∧ ∀ ms, d ≠ .interface ms := by
  unfold isIface at h
  split at h
  · cases h
  · rename_i d hn hd
    exact ⟨d, hd, fun ms e => hn ms (e ▸ rfl)⟩
  · cases h

theorem assertA_sound {P : Program} {γ : Gh} {w : World} {T xT : TypeId} {ok : Bool} {a : AVal} {u : Value} (hu : Rep γ w true a u) {p : Bool} {r : AVal} (h : assertA P a T ok = some (p, r)) (hp : p) :
    Yields P γ w (Instr.typeAssert u xT T ok) r := by
  unfold assertA at h
  split at h
  · rename_i t v hT
    obtain ⟨d, hd, hni⟩ := isIface_false hT
    cases hu with
    | iface hv =>
      rename_i v'
      have hrun : (Instr.typeAssert (.iface t v') xT T ok).run P w = (if t = T then (pure (if ok then .tuple #[v', .bool true] else v') : Sem Value) else
          (if ok then do pure (.tuple #[← zeroValue T, .bool false]) else runtimePanic (.typeAssertion (some xT) (some t) T ""))).run P w := by
        unfold Instr.typeAssert
        simp only [Sem.run_bind, run_underlying hd, Result.andThen_ok]
      split at h
      · rename_i hok
        subst hok
        split at h
        · rename_i ht
          simp only [Option.some.injEq, Prod.mk.injEq] at h
          obtain ⟨rfl, rfl⟩ := h
          first | replace hp := of_decide_eq_true hp | skip
          refine ⟨.tuple [v', .bool true].toArray, ?_, .tuple (.cons hv (.cons (.bool _ _) (.nil _)))⟩
          rw [hrun, if_pos ht, if_pos rfl]
          simp
        · rename_i ht
          split at h
          · rename_i z hz
            simp only [Option.some.injEq, Prod.mk.injEq] at h
            obtain ⟨rfl, rfl⟩ := h
            first | replace hp := of_decide_eq_true hp | skip
            obtain ⟨inf, zv, hi, hzz, ha⟩ := zeroV_spec hz
            refine ⟨.tuple [zv, .bool false].toArray, ?_, .tuple (.cons (absZ_spec ha γ w true).1 (.cons (.bool _ _) (.nil _)))⟩
            rw [hrun, if_neg ht, if_pos rfl]
            simp only [Sem.run_bind, run_zeroValue hi hzz, Result.andThen_ok, Sem.run_pure]
          · cases h
      · rename_i hok
        simp only [Option.some.injEq, Prod.mk.injEq] at h
        obtain ⟨rfl, rfl⟩ := h
        first | replace hp := of_decide_eq_true hp | skip
        refine ⟨v', ?_, hv⟩
        rw [hrun, if_pos hp, if_neg hok]
        simp
  · rename_i hT
    obtain ⟨d, hd, hni⟩ := isIface_false hT
    cases hu
    split at h
    · rename_i hok
      subst hok
      split at h
      · rename_i z hz
        simp only [Option.some.injEq, Prod.mk.injEq] at h
        obtain ⟨rfl, rfl⟩ := h
        first | replace hp := of_decide_eq_true hp | skip
        obtain ⟨inf, zv, hi, hzz, ha⟩ := zeroV_spec hz
        refine ⟨.tuple [zv, .bool false].toArray, ?_, .tuple (.cons (absZ_spec ha γ w true).1 (.cons (.bool _ _) (.nil _)))⟩
        unfold Instr.typeAssert
        simp only [Sem.run_bind, run_underlying hd, Result.andThen_ok]
        cases d <;> first | exact absurd rfl (hni _) | (simp only [if_true, Sem.run_bind, run_zeroValue hi hzz, Result.andThen_ok, Sem.run_pure])
      · cases h
    · cases h
  · cases h

/-! ### Maps -/
theorem Rep.up {γ : Gh} {w : World} {l : Bool} {a : AVal} {v : Value} (h : Rep γ w l a v) : Rep γ w true a v := by
  cases l with
  | true => exact h
  | false => exact h.weaken true
theorem RepE.inv {γ : Gh} {w : World} {l : Bool} {x : AVal × AVal} {es : List (AVal × AVal)} {e : MapEntry} {ents : List MapEntry} (h : RepE γ w l (x :: es) (e :: ents)) : Rep γ w l x.1 e.key ∧ Rep γ w l x.2 e.val ∧ RepE γ w l es ents :=
  ⟨(h.2 0 x e rfl rfl).1, (h.2 0 x e rfl rfl).2, by simpa using h.1, fun i a b h1 h2 => h.2 (i + 1) a b h1 h2⟩

def Found (γ : Gh) (w : World) (l : Bool) (k : AVal) (es : List (AVal × AVal)) (i : Nat) (r : Option (Nat × Value)) : Prop :=
  match mapFind k es i with
  | none => r = none
  | some x => ∃ u, r = some (x.1, u) ∧ Rep γ w l x.2 u

theorem run_findAsking {P : Program} {γ : Gh} {w w0 : World} {l : Bool} {T : TypeId} {k : AVal} {uk : Value} (hk : kOk P T k = true) (hu : Rep γ w0 l k uk) : ∀ (es : List (AVal × AVal)) (ents : List MapEntry) (i : Nat), RepE γ w0 l es ents → keysOk P T es = true →
    ∃ r, (Instr.findAsking T uk ents i).run P w = .ok r w ∧ Found γ w0 l k es i r
  | [], [], i, _, _ => ⟨none, rfl, rfl⟩
  | [], _ :: _, i, h, _ => by have := h.1; simp at this
  | _ :: _, [], i, h, _ => by have := h.1; simp at this
  | x :: es, e :: ents, i, h, ho => by
    obtain ⟨h1, h2, h3⟩ := h.inv
    simp only [keysOk, List.all_cons, Bool.and_eq_true] at ho
    have hq := run_equalK (w := w) hk ho.1 hu h1
    unfold Instr.findAsking
    cases he : eqK k x.1 with
    | true =>
      rw [he] at hq
      exact ⟨some (i, e.val), by simp [hq], by simp only [Found, mapFind, he]; exact ⟨_, rfl, h2⟩⟩
    | false =>
      rw [he] at hq
      obtain ⟨r, hr, hf⟩ := run_findAsking (w := w) hk hu es ents (i + 1) h3 ho.2
      exact ⟨r, by simp [hq, hr], by simp only [Found, mapFind, he]; exact hf⟩

theorem sameNow_leaf {P : Program} {γ : Gh} {w : World} {l : Bool} {T : TypeId} {x : Leaf} {d : TypeDesc} (hd : P.underlying T = some d) (hx : leafOf P T = some x) {a b : AVal} (ha : x.fits a = true) (hb : x.fits b = true) {u v : Value} (hu : Rep γ w l a u) (hv : Rep γ w l b v) :
    Instr.sameNow d u v = some (eqC a b) := by
  rcases Leaf.spec hx with ⟨rfl, ht⟩ | ⟨k, rfl, ht⟩ | ⟨rfl, ht⟩ <;> rw [hd] at ht <;> cases ht
  · obtain ⟨_, x, rfl⟩ : Leaf.bool = .bool ∧ ∃ x, a = .bool x := by rcases fits_spec ha with h | ⟨_, _, h, _⟩ | ⟨h, _⟩ <;> first | exact h | cases h
    obtain ⟨_, y, rfl⟩ : Leaf.bool = .bool ∧ ∃ x, b = .bool x := by rcases fits_spec hb with h | ⟨_, _, h, _⟩ | ⟨h, _⟩ <;> first | exact h | cases h
    cases hu; cases hv
    simp [Instr.sameNow, eqC]
  · obtain ⟨k', x, e, rfl⟩ : ∃ k' n, Leaf.int k = .int k' ∧ a = .int k' n := by rcases fits_spec ha with ⟨h, _⟩ | h | ⟨h, _⟩ <;> first | exact h | cases h
    obtain ⟨k2, y, e2, rfl⟩ : ∃ k' n, Leaf.int k = .int k' ∧ b = .int k' n := by rcases fits_spec hb with ⟨h, _⟩ | h | ⟨h, _⟩ <;> first | exact h | cases h
    cases e; cases e2
    cases hu; cases hv
    simp [Instr.sameNow, eqC]
  · obtain ⟨_, x, rfl⟩ : Leaf.str = .str ∧ ∃ x, a = .str x := by rcases fits_spec ha with ⟨h, _⟩ | ⟨_, _, h, _⟩ | h <;> first | exact h | cases h
    obtain ⟨_, y, rfl⟩ : Leaf.str = .str ∧ ∃ x, b = .str x := by rcases fits_spec hb with ⟨h, _⟩ | ⟨_, _, h, _⟩ | h <;> first | exact h | cases h
    cases hu; cases hv
    have : ((ByteArray.mk x.toArray == ByteArray.mk y.toArray) : Bool) = (x == y) := by
      show (x.toArray == y.toArray) = _
      simp
    simp [Instr.sameNow, eqC, this]

theorem findNow_leaf {P : Program} {γ : Gh} {w : World} {l : Bool} {T : TypeId} {x : Leaf} {d : TypeDesc} (hd : P.underlying T = some d) (hx : leafOf P T = some x) {k : AVal} {uk : Value} (hk : x.fits k = true) (hu : Rep γ w l k uk) : ∀ (es : List (AVal × AVal)) (ents : List MapEntry) (i : Nat), RepE γ w l es ents → keysOk P T es = true →
    ∃ r, Instr.findNow d uk ents i = some r ∧ Found γ w l k es i r
  | [], [], i, _, _ => ⟨none, rfl, rfl⟩
  | [], _ :: _, i, h, _ => by have := h.1; simp at this
  | _ :: _, [], i, h, _ => by have := h.1; simp at this
  | y :: es, e :: ents, i, h, ho => by
    obtain ⟨h1, h2, h3⟩ := h.inv
    simp only [keysOk, List.all_cons, Bool.and_eq_true] at ho
    have ho1 : x.fits y.1 = true := by have := ho.1; unfold kOk at this; rw [hx] at this; exact this
    have hq := sameNow_leaf hd hx hk ho1 hu h1
    have hE := eqK_leaf (b := y.1) hk
    unfold Instr.findNow
    cases he : eqC k y.1 with
    | true =>
      rw [he] at hq hE
      exact ⟨some (i, e.val), by simp [hq], by simp only [Found, mapFind, hE]; exact ⟨_, rfl, h2⟩⟩
    | false =>
      rw [he] at hq hE
      obtain ⟨r, hr, hf⟩ := findNow_leaf hd hx hk hu es ents (i + 1) h3 ho.2
      exact ⟨r, by simp [hq, hr], by simp only [Found, mapFind, hE]; exact hf⟩

theorem run_findKey {P : Program} {γ : Gh} {w w0 : World} {l : Bool} {T : TypeId} {k : AVal} {uk : Value} (hk : kOk P T k = true) (hu : Rep γ w0 l k uk) {es : List (AVal × AVal)} {ents : List MapEntry} (h : RepE γ w0 l es ents) (ho : keysOk P T es = true) :
    ∃ r, (Instr.findKey T uk ents).run P w = .ok r w ∧ Found γ w0 l k es 0 r := by
  cases hx : leafOf P T with
  | some x =>
    obtain ⟨d, hd⟩ : ∃ d, P.underlying T = some d := by rcases Leaf.spec hx with ⟨_, ht⟩ | ⟨_, _, ht⟩ | ⟨_, ht⟩ <;> exact ⟨_, ht⟩
    have hk' : x.fits k = true := by have := hk; unfold kOk at this; rw [hx] at this; exact this
    obtain ⟨r, hr, hf⟩ := findNow_leaf hd hx hk' hu es ents 0 h ho
    exact ⟨r, by simp [Instr.findKey, run_underlying hd, hr], hf⟩
  | none =>
    obtain ⟨r, hr, hf⟩ := run_findAsking (w := w) hk hu es ents 0 h ho
    have ht : ∃ fs, P.underlying T = some (.struct fs) := by
      unfold kOk at hk
      rw [hx] at hk
      simp only [] at hk
      cases ht : tPlain P T with
      | none => rw [ht] at hk; cases hk
      | some ls =>
        unfold tPlain at ht
        split at ht
        · exact ⟨_, by assumption⟩
        · cases ht
    obtain ⟨fs, hfs⟩ := ht
    refine ⟨r, ?_, hf⟩
    cases ents with
    | nil =>
      have e1 : Instr.findNow (.struct fs) uk [] 0 = some none := rfl
      have e2 : es = [] := List.eq_nil_of_length_eq_zero (by have := h.1; simpa using this)
      subst e2
      have : r = none := hf
      subst this
      simp [Instr.findKey, run_underlying hfs, e1]
    | cons e ents =>
      have e1 : Instr.findNow (.struct fs) uk (e :: ents) 0 = none := by
        unfold Instr.findNow
        have : Instr.sameNow (.struct fs) uk e.key = none := by unfold Instr.sameNow; split <;> simp_all
        rw [this]
      simp [Instr.findKey, run_underlying hfs, e1, hr]

theorem lookV_sound {P : Program} {γ : Gh} {w : World} {l : Bool} {T : TypeId} {v : AVal} {u : Value} (h : Rep γ w l v u) (ok : (lookV P T v).1 = true) : Rep γ w l (lookV P T v).2 u := by
  unfold lookV at ok ⊢
  split at ok
  · rename_i n g ht
    cases g with
    | false => exact etaC_sound h ok
    | true =>
      simp only [] at ok ⊢
      split at ok
      · rename_i shs hs
        simp only [Bool.and_eq_true, beq_iff_eq] at ok
        obtain ⟨o1, o2, o3⟩ := ok
        unfold isAggN at o1
        split at o1
        · rename_i cs
          simp only [beq_iff_eq] at o1
          cases h with
          | @agg _ _ vs hr h1 =>
            have hl := hr.length
            have := etaL_sound hr shs 0 o3 (by omega)
            rw [List.drop_zero, List.take_of_length_le (by omega)] at this
            exact .agg this h1
        · cases o1
      · cases ok
  · cases ok

theorem okVal_sound {γ : Gh} {w : World} {l : Bool} {v : AVal} {u : Value} (h : Rep γ w l v u) (ok b : Bool) : Rep γ w l (okVal ok v b) (if ok then .tuple #[u, .bool b] else u) := by
  cases ok with
  | true => exact .tuple (vs := [u, .bool b]) (.cons h (.cons (.bool _ _) (.nil _)))
  | false => exact h

theorem lookupA_sound {P : Program} {γ : Gh} {w : World} {lk : Oid → Option AObj} (hk : Ok γ w lk) {T : TypeId} {a ix : AVal} {u v : Value} (hu : Rep γ w true a u) (hv : Rep γ w true ix v) {ok : Bool} {p : Bool} {r : AVal} (h : lookupA P lk T a ix ok = some (p, r)) (hp : p) :
    Yields P γ w (Instr.lookup T u v ok) r := by
  unfold lookupA at h
  split at h
  · rename_i kt et ht
    split at h
    · rename_i z hz
      obtain ⟨inf, zv, hi, hz1, hz2⟩ := zeroV_spec hz
      have hzr := run_zeroValue hi hz1 w
      have hz3 := (absZ_spec hz2 γ w true).1
      split at h
      · simp only [Option.some.injEq, Prod.mk.injEq] at h
        obtain ⟨rfl, rfl⟩ := h
        cases hu
        have hck := run_checkKey (P := P) (w := w) (e := true) hp hv
        have hE : RepE γ w true [] ([] : List MapEntry) := ⟨rfl, fun i x e h => by simp at h⟩
        obtain ⟨r, hr, hf⟩ := run_findKey (w := w) hp hv hE rfl
        have : r = none := hf
        subst this
        refine ⟨_, ?_, okVal_sound hz3 ok false⟩
        simp [Instr.lookup, run_underlying ht, hck, hr, hzr]
      · rename_i o
        split at h
        · rename_i es ho
          simp only [Option.some.injEq, Prod.mk.injEq] at h
          obtain ⟨rfl, rfl⟩ := h
          simp only [Bool.and_eq_true] at hp
          obtain ⟨p1, p2, p3⟩ := hp
          cases hu with
          | @map _ _ b hb hl =>
            obtain ⟨b', hb2, ents, clock, hh, hr, _⟩ := hk.obj _ _ ho (by simp)
            rw [hb] at hb2
            cases hb2
            have hE : RepE γ w true es ents.toList := ⟨hr.1, fun i x e h1 h2 => ⟨(hr.2 i x e h1 h2).1.up, (hr.2 i x e h1 h2).2.up⟩⟩
            have hck : ∀ e, (Instr.checkKey e 10000 kt v).run P w = .ok () w := fun e => run_checkKey p1 hv
            obtain ⟨r, hr2, hf⟩ := run_findKey (w := w) p1 hv hE p2
            have hg : (getObj b).run P w = .ok (.map ents clock) w := by simp [getObj, Sem.run, hh]
            unfold mapVal at p3 ⊢
            unfold Found at hf
            cases hm : mapFind ix es 0 with
            | none =>
              rw [hm] at hf p3
              simp only [] at hf p3 ⊢
              subst hf
              refine ⟨_, ?_, okVal_sound (lookV_sound hz3 p3) ok _⟩
              simp [Instr.lookup, run_underlying ht, hck, hr2, hzr, hg]
            | some x =>
              rw [hm] at hf p3
              simp only [] at hf p3 ⊢
              obtain ⟨u, rfl, hru⟩ := hf
              refine ⟨_, ?_, okVal_sound (lookV_sound hru p3) ok _⟩
              simp [Instr.lookup, run_underlying ht, hck, hr2, hg]
        · cases h
      · cases h
    · cases h
  · cases h

def OpYields (P : Program) (γ : Gh) (w : World) (ρ : Operand → Value) (o : Oper) (r : AVal) : Prop := ∃ u, (execOp ρ o).run P w = .ok (.value u) w ∧ Rep γ w true r u

theorem Yields.op {P : Program} {γ : Gh} {w : World} {ρ : Operand → Value} {o : Oper} {r : AVal} {s : Sem Value} (h : Yields P γ w s r) (he : execOp ρ o = (do pure (.value (← s)))) : OpYields P γ w ρ o r := by
  obtain ⟨u, h1, h2⟩ := h
  exact ⟨u, by rw [he]; simp [h1], h2⟩

theorem nilCheckA_sound {P : Program} {γ : Gh} {w : World} {ρA : Operand → AVal} {ρ : Operand → Value} (hρ : ∀ x, Rep γ w true (ρA x) (ρ x)) {o : Oper} {x : Operand} (ho : o.op = .nilCheck x) {p : Bool} {r : AVal} (h : nilCheckA (ρA x) = some (p, r)) :
    OpYields P γ w ρ o r := by
  have hx := hρ x
  unfold nilCheckA at h
  split at h <;> simp only [Option.some.injEq, Prod.mk.injEq, reduceCtorEq] at h
  all_goals
    rename_i e
    obtain ⟨_, rfl⟩ := h
    rw [e] at hx
    generalize hy : ρ x = y at hx
    refine ⟨y, ?_, hx⟩
    cases hx
    simp [execOp, ho, hy]

theorem RepL.map {γ : Gh} {w : World} {ρA : Operand → AVal} {ρ : Operand → Value} (hρ : ∀ x, Rep γ w true (ρA x) (ρ x)) : ∀ xs : List Operand, RepL γ w true (xs.map ρA) (xs.map ρ)
  | [] => .nil _
  | x :: xs => .cons (hρ x) (RepL.map hρ xs)

theorem builtinA_sound {P : Program} {γ : Gh} {w : World} {lk : Oid → Option AObj} (hk : Ok γ w lk) {b : Builtin} {ts : List TypeId} {xs : List AVal} {us : List Value} (hu : RepL γ w true xs us) {p : Bool} {r : AVal}
    (h : builtinA P lk b ts xs = some (p, r)) (hp : p) (ty : TypeId) (cs : Array Bool) : ∃ u, (builtin b ts.toArray ty cs us.toArray).run P w = .ok (.value u) w ∧ Rep γ w true r u := by
  unfold builtinA at h
  split at h
  · rename_i t x
    cases hu with
    | cons hx hn =>
      cases hn
      obtain ⟨u, h1, h2⟩ := lenA_sound hk hx h hp ty
      exact ⟨u, by simp [builtin, h1], h2⟩
  · rename_i t x
    cases hu with
    | cons hx hn =>
      cases hn
      obtain ⟨u, h1, h2⟩ := capA_sound (P := P) hx h ty
      exact ⟨u, by simp [builtin, h1], h2⟩
  · rename_i x r'
    cases hu with
    | cons hx hn =>
      rename_i v vs
      cases hm : maxA x r' with
      | none => rw [hm] at h; cases h
      | some y =>
        rw [hm] at h
        simp only [Option.map_some, Option.some.injEq, Prod.mk.injEq] at h
        obtain ⟨_, rfl⟩ := h
        obtain ⟨u, h1, h2⟩ := maxA_sound (P := P) hm hx hn
        exact ⟨u, by simp [builtin, Builtin.max_, h1], h2⟩
  · rename_i x r'
    cases hu with
    | cons hx hn =>
      rename_i v vs
      cases hm : minA x r' with
      | none => rw [hm] at h; cases h
      | some y =>
        rw [hm] at h
        simp only [Option.map_some, Option.some.injEq, Prod.mk.injEq] at h
        obtain ⟨_, rfl⟩ := h
        obtain ⟨u, h1, h2⟩ := minA_sound (P := P) hm hx hn
        exact ⟨u, by simp [builtin, Builtin.min_, h1], h2⟩
  · cases h

theorem pureOp_sound {P : Program} {γ : Gh} {w : World} {ρA : Operand → AVal} {ρ : Operand → Value} (hρ : ∀ x, Rep γ w true (ρA x) (ρ x)) {lk : Oid → Option AObj} (hk : Ok γ w lk) {o : Oper} {p : Bool} {r : AVal}
    (h : pureOp P ρA lk o.op = some (p, r)) (hp : p) : OpYields P γ w ρ o r := by
  unfold pureOp at h
  split at h
  · rename_i x e
    simp only [Option.some.injEq, Prod.mk.injEq] at h
    obtain ⟨_, rfl⟩ := h
    exact ⟨ρ x, by simp [execOp, e], hρ x⟩
  · rename_i x e
    simp only [Option.some.injEq, Prod.mk.injEq] at h
    obtain ⟨_, rfl⟩ := h
    exact ⟨ρ x, by simp [execOp, e], hρ x⟩
  · rename_i c a b e
    unfold pickA at h
    split at h
    · rename_i t ec
      simp only [Option.some.injEq, Prod.mk.injEq] at h
      obtain ⟨_, rfl⟩ := h
      have hc := hρ c
      rw [ec] at hc
      have hcv : ρ c = .bool t := by generalize ρ c = y at hc; cases hc; rfl
      cases t
      · exact ⟨ρ b, by simp [execOp, e, hcv, asBool], hρ b⟩
      · exact ⟨ρ a, by simp [execOp, e, hcv, asBool], hρ a⟩
    · cases h
  · rename_i x e
    exact nilCheckA_sound hρ e h
  · rename_i op T x y yt e
    obtain ⟨z, h1, h2⟩ := binA_sound (P := P) (w := w) h hp (hρ x) (hρ y) (x := x) (y := y) (fun hn => hn)
    exact ⟨z, by simp only [execOp, e]; simp only [Sem.run_bind] at h1 ⊢; rw [h1]; rfl, h2⟩
  · rename_i op T x e
    exact (unA_sound (hρ x) h hp).op (by simp [execOp, e])
  · rename_i src dst x e
    exact (convA_sound hk (hρ x) h hp).op (by simp [execOp, e])
  · rename_i T x e
    split at h
    · rename_i hT
      simp only [Option.some.injEq, Prod.mk.injEq] at h
      obtain ⟨_, rfl⟩ := h
      obtain ⟨d, hd, hni⟩ := isIface_false hT
      refine ⟨.iface T (ρ x), ?_, .iface (hρ x)⟩
      simp only [execOp, e, Instr.makeInterface, Sem.run_bind, run_underlying hd, Result.andThen_ok]
      cases d <;> first | exact absurd rfl (hni _) | rfl
    · cases h
  · rename_i fn f c e
    simp only [Option.some.injEq, Prod.mk.injEq] at h
    obtain ⟨_, rfl⟩ := h
    have hf := RepL.map hρ f.toList
    have hc := RepL.map hρ c.toList
    refine ⟨_, ?_, .func hf hc⟩
    have e1 : f.map ρ = (f.toList.map ρ).toArray := Array.ext' (by simp)
    have e2 : c.map ρ = (c.toList.map ρ).toArray := Array.ext' (by simp)
    simp only [execOp, e, Instr.makeFunc, e1, e2]
    rfl
  · rename_i T x lo hi mx e
    exact (sliceA_sound hρ h hp).op (by simp [execOp, e])
  · rename_i S x i e
    exact (fieldAddrA_sound (hρ x) h hp).op (by simp [execOp, e])
  · rename_i S x i e
    exact (fieldA_sound (hρ x) h hp).op (by simp [execOp, e])
  · rename_i T x i e
    exact (indexAddrA_sound (hρ x) (hρ i) h hp).op (by simp [execOp, e])
  · rename_i T x i e
    exact (indexA_sound (hρ x) (hρ i) h hp).op (by simp [execOp, e])
  · rename_i T x e
    exact (loadA_sound hk (hρ x) h hp).op (by simp [execOp, e])
  · rename_i T x i ok e
    exact (lookupA_sound hk (hρ x) (hρ i) h hp).op (by simp [execOp, e])
  · rename_i T ps e
    exact (buildA_sound hρ h hp).op (by simp [execOp, e])
  · rename_i x xT T ok e
    exact (assertA_sound (xT := xT) (hρ x) h hp).op (by simp [execOp, e])
  · rename_i t i e
    split at h
    · rename_i vs ht
      split at h
      · rename_i a ha
        simp only [Option.some.injEq, Prod.mk.injEq] at h
        obtain ⟨_, rfl⟩ := h
        have hx := hρ t
        rw [ht] at hx
        generalize hy : ρ t = y at hx
        cases hx with
        | tuple hr =>
          obtain ⟨u, hu, hra⟩ := hr.get ha
          refine ⟨u, ?_, hra⟩
          simp [execOp, e, hy, Instr.extract, hu]
      · cases h
    · cases h
  · rename_i b args ts e
    obtain ⟨cs, hrun⟩ : ∃ cs, (execOp ρ o).run P w = (builtin b ts o.type cs (args.map ρ)).run P w := ⟨_, by
      simp only [execOp, e, resolve, Sem.run_bind, Sem.run_pure, Result.andThen_ok, invoke]; rfl⟩
    obtain ⟨u, h1, h2⟩ := builtinA_sound hk (RepL.map hρ args.toList) h hp o.type cs
    refine ⟨u, ?_, h2⟩
    have e1 : (args.toList.map ρ).toArray = args.map ρ := Array.ext' (by simp)
    rw [hrun, ← e1]
    simpa using h1
  · cases h

end
end Go.AL
end

section
namespace Go.AL
noncomputable section
set_option linter.unusedSimpArgs false
set_option linter.unusedVariables false

def Sto.setOwn (σ : Sto) (p n : Nat) : Sto := { σ with own := fun q => if q = p then some n else σ.own q }
def Sto.pushOwn (σ : Sto) (n : Nat) : Sto := { σ with nown := σ.nown + 1, own := fun q => if q = σ.nown then some n else σ.own q }

def Gh.setOwn (γ : Gh) (p : Nat) (x : Own) (b lo hi : Nat) : Gh :=
  { γ with imm := fun b' o => γ.imm b' o ∨ (b' = b ∧ lo ≤ o ∧ o < hi), own := fun q => if q = p then x else γ.own q }

theorem Conc.ownNew {γ : Gh} {w w1 : World} {a : Act} {st : St} (h : Conc γ w a st) {cur : Array Value} {T : TypeId} (hh : w1.heap = w.heap.push (.cells cur T)) (hos : w1.os = w.os) (htp : w1.tape = w.tape) (hou : w1.output = w.output)
    {p cap n s : Nat} (hs : 0 < s) (hcur : cur.size = cap * s) (hn : n ≤ cap) (hm : cap ≤ maxLen) (hstep : OwnStep (γ.own p) (.row w.heap.size cap n s)) {σ' : Sto} (ho : σ'.obj = st.σ.obj) (hno : σ'.nobj = st.σ.nobj)
    (hw : σ'.own = fun q => if q = p then some n else st.σ.own q) (hnw : p < σ'.nown) (hnw2 : st.σ.nown ≤ σ'.nown) :
    Conc (γ.setOwn p (.row w.heap.size cap n s) w.heap.size 0 (n * s)) w1 a { st with σ := σ' } ∧ EvoS γ w st (γ.setOwn p (.row w.heap.size cap n s) w.heap.size 0 (n * s)) w1 { st with σ := σ' } ∧
      Ext true γ w (γ.setOwn p (.row w.heap.size cap n s) w.heap.size 0 (n * s)) w1 := by
  have hold : ∀ b, b < w.heap.size → w1.heap[b]? = w.heap[b]? := fun b hb => by rw [hh, Array.getElem?_push, if_neg (by omega)]
  have hnew : w1.heap[w.heap.size]? = some (.cells cur T) := by rw [hh]; simp
  have hOb : St.objAt { st with σ := σ' } = st.objAt := by funext i; cases i <;> simp [St.objAt, ho]
  have e : ∀ l, Ext l γ w (γ.setOwn p (.row w.heap.size cap n s) w.heap.size 0 (n * s)) w1 := fun l =>
    ⟨fun b o hi => ⟨.inl hi, cell?_heap (hold b (h.inv.imm_lt hi))⟩, fun _ _ _ hi => hi, fun q => by
      simp only [Gh.setOwn]
      split
      · rename_i e; subst e; exact hstep
      · exact OwnStep.refl _⟩
  have nimm : ∀ b o, b < w.heap.size → (γ.setOwn p (.row w.heap.size cap n s) w.heap.size 0 (n * s)).imm b o → γ.imm b o := fun b o hb hi => hi.elim id (fun hh => by omega)
  have hlt : ∀ i x b, st.objAt i = some x → γ.obj i = some b → b < w.heap.size := fun i x b hx hb => by
    exact (h.inv.objb hx hb).lt
  refine ⟨⟨h.size, fun t => Rep.mono (e true) (h.fr t), h.defers, ?_⟩, ⟨hos, htp, hou, by rw [hh]; simp, fun b hb _ => hold b hb, e false, fun b o hi => ?_, fun b hm' => ?_⟩, e true⟩
  · rw [hOb]
    refine ⟨fun b o hi => ?_, fun i x hx => ?_, h.inv.inj, fun q k hq => ?_, fun q r k m b hq hr hbq hbr => ?_, fun i x q k b hx hq hbi hbq => ?_, fun k hk => h.inv.freshO k (hno ▸ hk), fun q hq => ?_, h.inv.amb.mono (e true) (by rw [hh]; simp)⟩
    · rcases hi with hi | ⟨rfl, h1, h2⟩
      · exact Nat.lt_of_lt_of_le (h.inv.imm b o hi) (by rw [hh]; simp)
      · exact block_lt hnew
    · rcases h.inv.obj i x hx with h1 | ⟨b, hb, hok⟩
      · exact .inl h1
      exact .inr ⟨b, hb, hok.mono (e _) (hold b hok.lt) (fun o hi => hok.notImm o (nimm b o hok.lt hi))⟩
    · simp only [hw] at hq
      simp only [Gh.setOwn]
      split at hq
      · rename_i e1
        cases hq
        rw [if_pos e1]
        refine ⟨rfl, hs, hn, hm, ⟨cur, T, hnew, hcur⟩, fun o ho hi => ?_⟩
        rcases hi with hi | ⟨_, _, h2⟩
        · have := h.inv.imm_lt hi; omega
        · omega
      · rename_i e1
        rw [if_neg e1]
        have hok := h.inv.own q k hq
        exact hok.mono (fun b hb => hold b (hok.lt hb)) (fun b o hb hi => nimm b o (hok.lt hb) hi)
    · simp only [hw] at hq hr
      simp only [Gh.setOwn] at hbq hbr
      by_cases e1 : q = p <;> by_cases e2 : r = p
      · rw [e1, e2]
      · rw [if_pos e1] at hbq; rw [if_neg e2] at hbr hr
        have := (h.inv.own r m hr).lt hbr
        simp only [Own.blk, Option.some.injEq] at hbq; omega
      · rw [if_neg e1] at hbq hq; rw [if_pos e2] at hbr
        have := (h.inv.own q k hq).lt hbq
        simp only [Own.blk, Option.some.injEq] at hbr; omega
      · rw [if_neg e1] at hbq hq; rw [if_neg e2] at hbr hr
        exact h.inv.ownInj q r k m b hq hr hbq hbr
    · simp only [hw] at hq
      simp only [Gh.setOwn] at hbq
      by_cases e1 : q = p
      · rw [if_pos e1] at hbq
        simp only [Own.blk, Option.some.injEq] at hbq
        have := hlt i x b hx hbi
        omega
      · rw [if_neg e1] at hbq hq
        exact h.inv.apart i x q k b hx hq hbi hbq
    · simp only [Gh.setOwn]
      have hq' : σ'.nown ≤ q := hq
      rw [if_neg (by omega)]
      exact h.inv.freshW q (by omega)
  · rcases hi with hi | ⟨rfl, _⟩
    · exact .inl hi
    · exact .inr (.inl (Nat.le_refl _))
  · rcases hm' with ⟨i, x, hx, hb⟩ | ⟨q, k, hq, hb⟩
    · rw [hOb] at hx
      exact .inl (.inl ⟨i, x, hx, hb⟩)
    · simp only [hw] at hq
      simp only [Gh.setOwn] at hb
      by_cases e1 : q = p
      · rw [if_pos e1] at hb
        simp only [Own.blk, Option.some.injEq] at hb
        exact .inr (by omega)
      · rw [if_neg e1] at hq hb
        exact .inl (.inr ⟨q, k, hq, hb⟩)

theorem Conc.ownIn {γ : Gh} {w w1 : World} {a : Act} {st : St} (h : Conc γ w a st) {p b cap n m s : Nat} {cur : Array Value} {T : TypeId} {news : List Value} (hp : st.σ.own p = some n) (hg : γ.own p = .row b cap n s)
    (hb : w.heap[b]? = some (.cells cur T (0, 0))) (hcur : cur.size = cap * s) (hl : news.length = m * s) (hroom : n + m ≤ cap) (hw1 : w1 = w.setRow b (cur.toList.take (n * s) ++ news ++ cur.toList.drop (n * s + news.length)).toArray)
    (hm0 : 0 < m) :
    Conc (γ.setOwn p (.row b cap (n + m) s) b (n * s) ((n + m) * s)) w1 a { st with σ := st.σ.setOwn p (n + m) } ∧
      EvoS γ w st (γ.setOwn p (.row b cap (n + m) s) b (n * s) ((n + m) * s)) w1 { st with σ := st.σ.setOwn p (n + m) } ∧
      Ext true γ w (γ.setOwn p (.row b cap (n + m) s) b (n * s) ((n + m) * s)) w1 ∧ AL.cellsAt (γ.setOwn p (.row b cap (n + m) s) b (n * s) ((n + m) * s)) w1 b (n * s) news := by
  obtain ⟨_, hs, hnc, hcm, _, hni⟩ : ownOk γ w (.row b cap n s) n := hg ▸ h.inv.own p n hp
  have hbs : b < w.heap.size := block_lt hb
  have hfit : n * s + news.length ≤ cur.size := by rw [hl, hcur, ← Nat.add_mul]; exact Nat.mul_le_mul_right _ hroom
  have hns : n * s ≤ cur.size := by omega
  have hold : ∀ b', b' ≠ b → w1.heap[b']? = w.heap[b']? := fun b' hb' => by rw [hw1]; exact setRow_other w b b' _ hb'
  have hnew : w1.heap[b]? = some (.cells (cur.toList.take (n * s) ++ news ++ cur.toList.drop (n * s + news.length)).toArray T (0, 0)) := by rw [hw1]; exact setRow_heap w b cur _ T (0, 0) hb
  have hsz : w1.heap.size = w.heap.size := by rw [hw1]; simp
  have hcell : ∀ o, o < n * s → w1.cell? ⟨b, o, none⟩ = w.cell? ⟨b, o, none⟩ := fun o ho => by
    simp only [World.cell?, hnew, hb]
    simp only [Option.isSome_none, Bool.false_eq_true, if_false]
    rw [List.getElem?_toArray, List.append_assoc, List.getElem?_append_left (by simp; omega), List.getElem?_take, if_pos ho]
    simp
  have himm : ∀ o, γ.imm b o → o < n * s := fun o hi => by
    rcases Nat.lt_or_ge o (n * s) with h1 | h1
    · exact h1
    · exact absurd hi (hni o h1)
  have e : ∀ l, Ext l γ w (γ.setOwn p (.row b cap (n + m) s) b (n * s) ((n + m) * s)) w1 := fun l =>
    ⟨fun b' o hi => ⟨.inl hi, by
      by_cases eb : b' = b
      · subst eb; exact hcell o (himm o hi)
      · exact cell?_heap (hold b' eb)⟩, fun _ _ _ hi => hi, fun q => by
      simp only [Gh.setOwn]
      split
      · rename_i e; subst e; rw [hg]; exact .inr (.inr ⟨_, _, _, _, rfl, by omega⟩)
      · exact OwnStep.refl _⟩
  have nimm : ∀ b' o, b' ≠ b → (γ.setOwn p (.row b cap (n + m) s) b (n * s) ((n + m) * s)).imm b' o → γ.imm b' o := fun b' o hb' hi => hi.elim id (fun hh => absurd hh.1 hb')
  have hsize2 : (cur.toList.take (n * s) ++ news ++ cur.toList.drop (n * s + news.length)).toArray.size = cap * s := by
    simp; omega
  have hOb : St.objAt { st with σ := st.σ.setOwn p (n + m) } = st.objAt := by funext i; cases i <;> simp [St.objAt, Sto.setOwn]
  refine ⟨⟨h.size, fun t => Rep.mono (e true) (h.fr t), h.defers, ?_⟩, ⟨by rw [hw1]; rfl, by rw [hw1]; rfl, by rw [hw1]; rfl, by omega, fun b' hb' hm' => hold b' (fun eb => hm' (.inr ⟨p, n, hp, by rw [hg, eb]; rfl⟩)), e false, fun b' o hi => ?_, fun b' hm' => ?_⟩, e true, fun j v hj => ?_⟩
  · rw [hOb]
    refine ⟨fun b' o hi => ?_, fun i x hx => ?_, h.inv.inj, fun q k hq => ?_, fun q r k m' b' hq hr hbq hbr => ?_, fun i x q k b' hx hq hbi hbq => ?_, h.inv.freshO, fun q hq => ?_, h.inv.amb.mono (e true) (by omega)⟩
    · rcases hi with hi | ⟨rfl, h1, h2⟩
      · exact Nat.lt_of_lt_of_le (h.inv.imm b' o hi) (by omega)
      · exact block_lt hnew
    · rcases h.inv.obj i x hx with hh1 | ⟨b', hb', hok⟩
      · exact .inl hh1
      have hne : b' ≠ b := fun eb => h.inv.apart i x p n b' hx hp hb' (by rw [hg, eb]; rfl)
      exact .inr ⟨b', hb', hok.mono (e _) (hold b' hne) (fun o hi => hok.notImm o (nimm b' o hne hi))⟩
    · simp only [Sto.setOwn] at hq
      simp only [Gh.setOwn]
      split at hq
      · rename_i e1
        cases hq
        rw [if_pos e1]
        refine ⟨rfl, hs, hroom, hcm, ⟨_, T, hnew, hsize2⟩, fun o ho hi => ?_⟩
        rcases hi with hi | ⟨_, _, h2⟩
        · have := himm o hi
          have : n * s ≤ (n + m) * s := Nat.mul_le_mul_right _ (by omega)
          omega
        · omega
      · rename_i e1
        rw [if_neg e1]
        have hok := h.inv.own q k hq
        have hne : ∀ b', (γ.own q).blk = some b' → b' ≠ b := fun b' hb' eb => e1 (h.inv.ownInj q p k n b' hq hp hb' (by rw [hg, eb]; rfl))
        exact hok.mono (fun b' hb' => hold b' (hne b' hb')) (fun b' o hb' hi => nimm b' o (hne b' hb') hi)
    · have key : ∀ q k b', (st.σ.setOwn p (n + m)).own q = some k → ((γ.setOwn p (.row b cap (n + m) s) b (n * s) ((n + m) * s)).own q).blk = some b' → ∃ k', st.σ.own q = some k' ∧ (γ.own q).blk = some b' := fun q k b' hq hb' => by
        simp only [Sto.setOwn] at hq
        simp only [Gh.setOwn] at hb'
        by_cases e1 : q = p
        · rw [if_pos e1] at hb'
          subst e1
          exact ⟨n, hp, by rw [hg]; exact hb'⟩
        · rw [if_neg e1] at hq hb'
          exact ⟨k, hq, hb'⟩
      obtain ⟨k1, g1, g2⟩ := key q k b' hq hbq
      obtain ⟨k2, g3, g4⟩ := key r m' b' hr hbr
      exact h.inv.ownInj q r k1 k2 b' g1 g3 g2 g4
    · simp only [Sto.setOwn] at hq
      simp only [Gh.setOwn] at hbq
      by_cases e1 : q = p
      · rw [if_pos e1] at hbq
        exact h.inv.apart i x p n b' hx hp hbi (by rw [hg]; exact hbq)
      · rw [if_neg e1] at hbq hq
        exact h.inv.apart i x q k b' hx hq hbi hbq
    · simp only [Gh.setOwn]
      have hq' : st.σ.nown ≤ q := hq
      have hfree := h.inv.freshW q hq'
      have : q ≠ p := fun e1 => by rw [e1, hg] at hfree; cases hfree
      rw [if_neg this]
      exact hfree
  · rcases hi with hi | ⟨rfl, _⟩
    · exact .inl hi
    · exact .inr (.inr (.inr ⟨p, n, hp, by rw [hg]; rfl⟩))
  · refine .inl ?_
    rcases hm' with ⟨i, x, hx, hb'⟩ | ⟨q, k, hq, hb'⟩
    · rw [hOb] at hx
      exact .inl ⟨i, x, hx, hb'⟩
    · simp only [Sto.setOwn] at hq
      simp only [Gh.setOwn] at hb'
      by_cases e1 : q = p
      · rw [if_pos e1] at hb'
        exact .inr ⟨p, n, hp, by rw [hg]; exact hb'⟩
      · rw [if_neg e1] at hq hb'
        exact .inr ⟨q, k, hq, hb'⟩
  · have hlt : j < news.length := by
      rcases Nat.lt_or_ge j news.length with h1 | h1
      · exact h1
      · rw [List.getElem?_eq_none h1] at hj; cases hj
    refine ⟨.inr ⟨rfl, by omega, by rw [Nat.add_mul, ← hl]; omega⟩, ?_⟩
    simp only [World.cell?, hnew]
    simp only [Option.isSome_none, Bool.false_eq_true, if_false]
    rw [List.getElem?_toArray, List.append_assoc, List.getElem?_append_right (by simp; omega)]
    have : n * s + j - (cur.toList.take (n * s)).length = j := by simp; omega
    rw [this, List.getElem?_append_left hlt]
    exact hj

theorem Conc.ownFull {γ : Gh} {w : World} {a : Act} {st : St} (h : Conc γ w a st) (n : Nat) :
    Conc { γ with own := fun q => if q = st.σ.nown then .full n else γ.own q } w a { st with σ := st.σ.pushOwn n } ∧ EvoS γ w st { γ with own := fun q => if q = st.σ.nown then .full n else γ.own q } w { st with σ := st.σ.pushOwn n } ∧
      Ext true γ w { γ with own := fun q => if q = st.σ.nown then .full n else γ.own q } w := by
  have hfree := h.inv.freshW st.σ.nown (Nat.le_refl _)
  have e : ∀ l, Ext l γ w { γ with own := fun q => if q = st.σ.nown then .full n else γ.own q } w := fun l =>
    ⟨fun b o hi => ⟨hi, rfl⟩, fun _ _ _ hi => hi, fun q => by
      simp only []
      split
      · rename_i e; subst e; rw [hfree]; trivial
      · exact OwnStep.refl _⟩
  have hOb : St.objAt { st with σ := st.σ.pushOwn n } = st.objAt := by funext i; cases i <;> simp [St.objAt, Sto.pushOwn]
  have hblk : ∀ q b k, (st.σ.pushOwn n).own q = some k → ((if q = st.σ.nown then Own.full n else γ.own q)).blk = some b → ∃ k', st.σ.own q = some k' ∧ (γ.own q).blk = some b := fun q b k hq hb => by
    simp only [Sto.pushOwn] at hq
    by_cases e1 : q = st.σ.nown
    · rw [if_pos e1] at hb; simp [Own.blk] at hb
    · rw [if_neg e1] at hb hq
      exact ⟨k, hq, hb⟩
  refine ⟨⟨h.size, fun t => Rep.mono (e true) (h.fr t), h.defers, ?_⟩, ⟨rfl, rfl, rfl, Nat.le_refl _, fun _ _ _ => rfl, e false, fun _ _ hi => .inl hi, fun b hm => ?_⟩, e true⟩
  · rw [hOb]
    refine ⟨h.inv.imm, fun i x hx => ?_, h.inv.inj, fun q k hq => ?_, fun q r k m b hq hr hbq hbr => ?_, fun i x q k b hx hq hbi hbq => ?_, h.inv.freshO, fun q hq => ?_, h.inv.amb.mono (e true) (Nat.le_refl _)⟩
    · rcases h.inv.obj i x hx with h1 | ⟨b, hb, hok⟩
      · exact .inl h1
      exact .inr ⟨b, hb, hok.mono (e _) rfl hok.notImm⟩
    · simp only [Sto.pushOwn] at hq
      simp only []
      split at hq
      · rename_i e1; cases hq; rw [if_pos e1]; rfl
      · rename_i e1; rw [if_neg e1]
        exact (h.inv.own q k hq).mono (fun _ _ => rfl) (fun _ _ _ hi => hi)
    · obtain ⟨k1, g1, g2⟩ := hblk q b k hq hbq
      obtain ⟨k2, g3, g4⟩ := hblk r b m hr hbr
      exact h.inv.ownInj q r k1 k2 b g1 g3 g2 g4
    · obtain ⟨k1, g1, g2⟩ := hblk q b k hq hbq
      exact h.inv.apart i x q k1 b hx g1 hbi g2
    · have hq' : st.σ.nown + 1 ≤ q := hq
      simp only []
      rw [if_neg (by omega)]
      exact h.inv.freshW q (by omega)
  · refine .inl ?_
    rcases hm with ⟨i, x, hx, hb⟩ | ⟨q, k, hq, hb⟩
    · rw [hOb] at hx; exact .inl ⟨i, x, hx, hb⟩
    · obtain ⟨k1, g1, g2⟩ := hblk q b k hq hb
      exact .inr ⟨q, k1, g1, g2⟩

end
end Go.AL
end

section
namespace Go.AL
noncomputable section
set_option linter.unusedSimpArgs false
set_option linter.unusedVariables false

def ofByte (b : UInt8) : AVal := .int .u8 b.toNat

def srcA (P : Program) (lk : Oid → Option AObj) (n : Nat) (T : TypeId) : AVal → Option (Bool × List AVal)
  | .slice es s tag =>
    match tElem P T with
    | some _ => if s = n ∨ tag.isNil = true then some (true, es) else none
    | none => none
  | .str l => if isStr P T ∧ n = 1 then some (true, l.map ofByte) else none
  | .arr o off len _ =>
    match tElem P T, lk o with
    | some _, some (.cells cs) => if n = 1 then some (decide (off + len ≤ cs.length ∧ noLocL ((cs.drop off).take len) = true), (cs.drop off).take len) else none
    | _, _ => none
  | _ => none

def appendA (P : Program) (lk : Oid → Option AObj) (σ : Sto) (T T' : TypeId) (s x : AVal) : Option (Bool × AVal × Sto) :=
  match tElem P T, s with
  | some (_, n, bs, zs), .slice es s0 tag =>
    if 0 < n ∧ zs.length = n ∧ (s0 = n ∨ tag.isNil = true) then
      match srcA P lk n T' x with
      | some (q, es') =>
        match tag with
        | .own p => some (decide (q ∧ σ.own p = some es.length ∧ (es.length + es'.length) * bs ≤ 140737488355328 ∧ es.length + es'.length ≤ 9223372036854775807), .slice (es ++ es') n (.own p), σ.setOwn p (es.length + es'.length))
        | .ro => none
        | .nil => some (decide (q ∧ es'.length * bs ≤ 140737488355328 ∧ es'.length ≤ 9223372036854775807), .slice es' n (.own σ.nown), σ.pushOwn es'.length)
        | .full => some (decide (q ∧ (es.isEmpty = true ∨ 0 < es'.length) ∧ (es.length + es'.length) * bs ≤ 140737488355328 ∧ es.length + es'.length ≤ 9223372036854775807), .slice (es ++ es') n (.own σ.nown), σ.pushOwn (es.length + es'.length))
      | none => none
    else none
  | _, _ => none

theorem flat_length {s : Nat} : ∀ {es : List AVal}, (∀ e ∈ es, e.cells.length = s) → (flat es).length = es.length * s
  | [], _ => by simp [flat]
  | x :: es, h => by
    have := flat_length (es := es) (fun e he => h e (by simp [he]))
    simp only [flat, List.flatMap_cons, List.length_append, List.length_cons] at this ⊢
    rw [this, h x (by simp), Nat.succ_mul, Nat.add_comm]

theorem flat_append (as bs : List AVal) : flat (as ++ bs) = flat as ++ flat bs := by simp [flat]

theorem cells_one {γ : Gh} {w : World} {l : Bool} {a : AVal} {v : Value} (h : Rep γ w l a v) (h1 : v.oneCell' = true) : a.cells = [a] := by
  cases h <;> first | rfl | cases h1

theorem flat_ones {γ : Gh} {w : World} {l : Bool} : ∀ {as : List AVal} {vs : List Value}, RepL γ w l as vs → (∀ v ∈ vs, v.oneCell' = true) → flat as = as ∧ ∀ e ∈ as, e.cells.length = 1
  | _, _, .nil _, _ => ⟨rfl, fun _ h => by cases h⟩
  | _, _, .cons h t, h1 => by
    have hc := cells_one h (h1 _ (by simp))
    obtain ⟨g1, g2⟩ := flat_ones t (fun v hv => h1 v (by simp [hv]))
    refine ⟨by simp only [flat, List.flatMap_cons, hc] at g1 ⊢; rw [g1]; rfl, fun e he => ?_⟩
    rcases List.mem_cons.1 he with rfl | he
    · rw [hc]; rfl
    · exact g2 e he

theorem run_firstCells_zero {P : Program} (w : World) (n len cap : Nat) (base : Option Addr) : (Builtin.firstCells n 0 (.slice base len cap)).run P w = .ok #[] w := by
  cases base with
  | none => exact run_firstCells_none w n 0 len cap
  | some a => exact run_firstCells_some w n 0 a len cap [] (by simp) (fun j v hj => by simp at hj)

theorem Src.ofHole {P : Program} {w : World} {size : Nat} {tx e' : TypeId} (hk : P.underlying tx = some (.slice e')) (o : Option Addr) (c : Nat) : Src P size tx (.slice o 0 c) 0 [] w := by
  cases o with
  | none => exact Src.ofNil w hk c
  | some a => exact Src.ofSlice w hk a 0 c [] (by simp) (fun j v hj => by simp at hj) (fun _ h => by cases h)

theorem srcA_sound {P : Program} {γ : Gh} {w : World} {lk : Oid → Option AObj} (hk : Ok γ w lk) {n : Nat} {T : TypeId} {x : AVal} {u : Value} (hu : Rep γ w true x u) {q : Bool} {es : List AVal} (h : srcA P lk n T x = some (q, es)) (hq : q) :
    ∃ news, Src P n T u es.length news w ∧ RepL γ w false (flat es) news ∧ (∀ e ∈ es, e.cells.length = n) ∧ ∀ v ∈ news, v.oneCell' = true := by
  unfold srcA at h
  split at h
  · rename_i es0 s tag
    split at h
    · rename_i te hte
      obtain ⟨e, n', bs, zs⟩ := te
      obtain ⟨inf, z, g1, _⟩ := tElem_spec hte
      split at h
      · rename_i hn
        simp only [Option.some.injEq, Prod.mk.injEq] at h
        obtain ⟨_, rfl⟩ := h
        cases hu with
        | @sliceRow _ _ _ _ b off cap vs hr hse hc h1 hnc hm ht =>
          have hns : s = n := by
            rcases hn with hn | hn
            · exact hn
            · cases tag <;> simp [Tag.isNil] at hn
              exact ht.elim
          subst hns
          refine ⟨vs, Src.ofSlice w g1 _ _ _ vs ?_ (fun j v hj => by rw [addr_add]; exact (hc j v hj).2) h1, hr, hse, h1⟩
          rw [← hr.length, flat_length hse]
        | @sliceNil _ _ _ oo ht ho => exact ⟨[], Src.ofHole g1 oo 0, .nil _, by simp, by simp⟩
      · cases h
    · cases h
  · rename_i l
    split at h
    · rename_i hs
      simp only [Option.some.injEq, Prod.mk.injEq] at h
      obtain ⟨_, rfl⟩ := h
      cases hu
      have hb : byteCells ⟨l.toArray⟩ = l.map fun b => Value.int .u8 b.toNat := by simp [byteCells]
      have hl : (ByteArray.mk l.toArray).size = l.length := by simp [ByteArray.size]
      have hsrc := Src.ofString w (isStr_spec hs.1) ⟨l.toArray⟩
      rw [hb, hl] at hsrc
      obtain ⟨_, rfl⟩ := hs
      have hrep : ∀ l : List UInt8, RepL γ w false (l.map ofByte) (l.map fun b => Value.int .u8 b.toNat) := by
        intro l
        induction l with
        | nil => exact .nil _
        | cons b l ih => exact .cons (.int _ _ _) ih
      have hone : ∀ v ∈ (l.map fun b => Value.int .u8 b.toNat), v.oneCell' = true := by
        intro v hv
        obtain ⟨_, _, rfl⟩ := List.mem_map.1 hv
        rfl
      obtain ⟨f1, f2⟩ := flat_ones (hrep l) hone
      exact ⟨_, by simpa using hsrc, by rw [f1]; exact hrep l, f2, hone⟩
    · cases h
  · rename_i o off len cap
    split at h
    · rename_i te cs hte hcs
      split at h
      · rename_i hn
        simp only [Option.some.injEq, Prod.mk.injEq] at h
        obtain ⟨rfl, rfl⟩ := h
        first | replace hq := of_decide_eq_true hq | skip
        subst hn
        obtain ⟨e, n', bs, zs⟩ := te
        obtain ⟨inf, z, g1, _⟩ := tElem_spec hte
        cases hu with
        | @arr _ _ _ off' _ _ b hb ho hnc h0 =>
          obtain ⟨b', hb2, vs, T', hh, hr, h1, hni⟩ := hk.obj _ _ hcs (by simp)
          rw [hb] at hb2
          cases hb2
          have hr2 := RepL.noLoc ((hr.drop off).take len) hq.2
          have hone : ∀ v ∈ (vs.drop off).take len, v.oneCell' = true := fun v hv => h1 v (List.mem_of_mem_drop (List.mem_of_mem_take hv))
          obtain ⟨f1, f2⟩ := flat_ones hr2 hone
          have hlv := hr.length
          have hlen : ((cs.drop off).take len).length = len := by simp; omega
          have hlen2 : ((vs.drop off).take len).length = len := by simp; omega
          refine ⟨(vs.drop off).take len, ?_, by rw [f1]; exact hr2, f2, hone⟩
          rw [hlen]
          refine Src.ofSlice w g1 _ _ _ _ (by simp; omega) (fun j v hj => ?_) hone
          rw [addr_add]
          rw [List.getElem?_take] at hj
          split at hj
          · rw [List.getElem?_drop] at hj
            obtain rfl := h0 (by omega)
            simp only [World.cell?, hh]
            simpa using hj
          · cases hj
      · cases h
    · cases h
  · cases h

theorem append_grow {P : Program} {γ : Gh} {w : World} {a : Act} {st : St} (hC : Conc γ w a st) {T T' e n bs : Nat} {inf : TypeInfo} {z : Value} (g1 : P.underlying T = some (.slice e)) (g2 : P.info? e = some inf) (g3 : inf.size = n) (g4 : inf.bytes = bs) (g5 : inf.zero = some z)
    (hz : z.cells.size = n) (hn : 0 < n) {base : Option Addr} {cap : Nat} {es es' : List AVal} {olds news : List Value} (hold : (Builtin.firstCells n es.length (.slice base es.length cap)).run P w.drew = .ok olds.toArray w.drew)
    (ho : RepL γ w false (flat es) olds) (hes : ∀ e ∈ es, e.cells.length = n) (ho1 : ∀ v ∈ olds, v.oneCell' = true) {x : Value} (hs : Src P n T' x es'.length news w) (hw : RepL γ w false (flat es') news) (hes' : ∀ e ∈ es', e.cells.length = n) (hw1 : ∀ v ∈ news, v.oneCell' = true)
    (hg : cap < es.length + es'.length) (h63 : es.length + es'.length ≤ 9223372036854775807) (hb : (es.length + es'.length) * bs ≤ 140737488355328) {p : Nat}
    (hstep : ∀ b c, OwnStep (γ.own p) (.row b c (es.length + es'.length) n)) {σ' : Sto} (hob : σ'.obj = st.σ.obj) (hno : σ'.nobj = st.σ.nobj) (hww : σ'.own = fun q => if q = p then some (es.length + es'.length) else st.σ.own q) (hnw : p < σ'.nown) (hnw2 : st.σ.nown ≤ σ'.nown) (ty : TypeId) :
    ∃ γ' w' v, (Builtin.append_ #[T, T'] ty #[.slice base es.length cap, x]).run P w = .ok v w' ∧ Rep γ' w' true (.slice (es ++ es') n (.own p)) v ∧ Conc γ' w' a { st with σ := σ' } ∧ EvoS γ w st γ' w' { st with σ := σ' } := by
  subst g3; subst g4
  have hrun := run_append_grow_src w T T' ty e inf z g1 g2 g5 base es.length cap olds hold x es'.length news hs hg (by omega) (growslice_fits hg hb)
  have hm : grownCap w (es.length + es'.length) cap e ≤ maxLen := grownCap_le_maxLen w _ _ e (by simp [maxLen]; omega)
  have hge := grownCap_ge w (es.length + es'.length) cap e
  have hlo := ho.length
  have hln := hw.length
  rw [flat_length hes] at hlo
  rw [flat_length hes'] at hln
  have hcur : ((olds ++ news).toArray ++ Builtin.zeroCells z.cells (grownCap w (es.length + es'.length) cap e - (es.length + es'.length))).size = grownCap w (es.length + es'.length) cap e * inf.size := by
    simp only [Array.size_append, List.size_toArray, List.length_append, size_zeroCells, hz, ← hlo, ← hln, ← Nat.add_mul]
    congr 1
    omega
  obtain ⟨hC', hE, hX⟩ := hC.ownNew (w1 := w.drew.alloc (.cells ((olds ++ news).toArray ++ Builtin.zeroCells z.cells (grownCap w (es.length + es'.length) cap e - (es.length + es'.length))) e)) (p := p) (n := es.length + es'.length) (s := inf.size) rfl rfl rfl rfl hn hcur hge hm (hstep _ _) hob hno hww hnw hnw2
  refine ⟨_, _, _, hrun, ?_, hC', hE⟩
  have hrep : RepL γ w false (flat (es ++ es')) (olds ++ news) := by rw [flat_append]; exact RepL.append hw ho
  have hes2 : ∀ e ∈ es ++ es', e.cells.length = inf.size := fun e he => (List.mem_append.1 he).elim (hes e) (hes' e)
  have hlen : (es ++ es').length = es.length + es'.length := List.length_append
  generalize hN : es.length + es'.length = N at *
  have key := Rep.sliceRow (γ := γ.setOwn p (Own.row w.heap.size (grownCap w N cap e) N inf.size) w.heap.size 0 (N * inf.size)) (l := true) (tag := .own p) (b := w.heap.size) (off := 0) (cap := grownCap w N cap e) (vs := olds ++ news) (RepL.mono hX.weak hrep) hes2 (fun j v hj => by
    have hlt : j < (olds ++ news).length := by
      rcases Nat.lt_or_ge j (olds ++ news).length with h1 | h1
      · exact h1
      · rw [List.getElem?_eq_none h1] at hj; cases hj
    have hj2 : j < N * inf.size := by rw [List.length_append, ← hlo, ← hln, ← Nat.add_mul, hN] at hlt; exact hlt
    refine ⟨.inr ⟨rfl, by omega, by omega⟩, ?_⟩
    have hnew := heap_alloc_new w.drew (.cells ((olds ++ news).toArray ++ Builtin.zeroCells z.cells (grownCap w N cap e - N)) e)
    have hnew' : (w.drew.alloc (.cells ((olds ++ news).toArray ++ Builtin.zeroCells z.cells (grownCap w N cap e - N)) e)).heap[w.heap.size]? = _ := hnew
    simp only [World.cell?, hnew', Nat.zero_add]
    simp only [Option.isSome_none, Bool.false_eq_true, if_false]
    rw [Array.getElem?_append_left (by simpa using hlt)]
    simpa using hj) (fun v hv => (List.mem_append.1 hv).elim (ho1 v) (hw1 v)) (by rw [hlen]; exact hge) hm (by
      simp only [AL.tagRow, Gh.setOwn, if_true, Own.isRow]
      exact ⟨by omega, fun _ => by simp⟩)
  rw [hlen] at key
  exact key

theorem run_firstCells_row {P : Program} {γ : Gh} {w : World} {b off n len cap : Nat} {vs : List Value} (hc : AL.cellsAt γ w b off vs) (hl : vs.length = len * n) : (Builtin.firstCells n len (.slice (some ⟨b, off, none⟩) len cap)).run P w.drew = .ok vs.toArray w.drew :=
  run_firstCells_some w.drew n len ⟨b, off, none⟩ len cap vs hl (fun j v hj => by rw [addr_add]; exact (hc j v hj).2)

theorem run_append_same {P : Program} {w : World} {T T' e n : Nat} {inf : TypeInfo} (g1 : P.underlying T = some (.slice e)) (g2 : P.info? e = some inf) (base : Option Addr) (len cap : Nat) (hlc : len ≤ cap) {x : Value} (hs : Src P n T' x 0 [] w) (g3 : inf.size = n) (ty : TypeId) :
    (Builtin.append_ #[T, T'] ty #[.slice base len cap, x]).run P w = .ok (.slice base len cap) w := by
  have hk := hs.kind
  have h0 : len + 0 ≤ cap := hlc
  have hc := hs.cells
  rcases hk with ⟨e', hk⟩ | hk <;> cases base <;>
    simp [Builtin.append_, run_underlying g1, run_underlying hk, sizeOf, typeInfo, g2, g3, hs.len, hlc, hc, storeCells]

theorem appendA_sound {P : Program} {γ : Gh} {w : World} {a : Act} {st : St} (hC : Conc γ w a st) {T T' : TypeId} {so xo : Operand} {q : Bool} {r : AVal} {σ' : Sto}
    (h : appendA P st.objAt st.σ T T' (st.eval so) (st.eval xo) = some (q, r, σ')) (hq : q) (ty : TypeId) :
    ∃ γ' w' v, (Builtin.append_ #[T, T'] ty #[a.eval so, a.eval xo]).run P w = .ok v w' ∧ Rep γ' w' true r v ∧ Conc γ' w' a { st with σ := σ' } ∧ EvoS γ w st γ' w' { st with σ := σ' } := by
  have hS := hC.eval so
  have hX := hC.eval xo
  generalize a.eval so = u at hS ⊢
  generalize a.eval xo = x at hX ⊢
  unfold appendA at h
  split at h
  · rename_i e n bs zs es s0 tag he hes0
    rw [hes0] at hS
    obtain ⟨inf, z, g1, g2, g3, g4, g5, g6⟩ := tElem_spec he
    split at h
    · rename_i hc
      obtain ⟨hn, hzl, hs0⟩ := hc
      have hz : z.cells.size = n := by rw [← hzl, g6]; simp
      split at h
      · rename_i q' es' hsrc
        -- what the second argument yields, once its premise is known
        have src : q' → ∃ news, Src P n T' x es'.length news w ∧ RepL γ w false (flat es') news ∧ (∀ e ∈ es', e.cells.length = n) ∧ ∀ v ∈ news, v.oneCell' = true := fun hq' => srcA_sound hC.ok hX hsrc hq'
        split at h
        · -- a permission
          rename_i p
          simp only [Option.some.injEq, Prod.mk.injEq] at h
          obtain ⟨rfl, rfl, rfl⟩ := h
          first | replace hq := of_decide_eq_true hq | skip
          obtain ⟨q1, q2, q3, q4⟩ := hq
          obtain ⟨news, s1, s2, s3, s4⟩ := src q1
          have hln := s2.length
          rw [flat_length s3] at hln
          have hok := hC.inv.own p _ q2
          have grow : ∀ (base : Option Addr) (cap : Nat) (olds : List Value), (Builtin.firstCells n es.length (.slice base es.length cap)).run P w.drew = .ok olds.toArray w.drew → RepL γ w false (flat es) olds → (∀ e ∈ es, e.cells.length = n) → (∀ v ∈ olds, v.oneCell' = true) →
              cap < es.length + es'.length → 0 < es'.length → ∃ γ' w' v, (Builtin.append_ #[T, T'] ty #[.slice base es.length cap, x]).run P w = .ok v w' ∧ Rep γ' w' true (.slice (es ++ es') n (.own p)) v ∧ Conc γ' w' a { st with σ := st.σ.setOwn p (es.length + es'.length) } ∧ EvoS γ w st γ' w' { st with σ := st.σ.setOwn p (es.length + es'.length) } := by
            intro base cap olds f1 f2 f3 f4 f5 f6
            have hp : p < st.σ.nown := by
              rcases Nat.lt_or_ge p st.σ.nown with h1 | h1
              · exact h1
              · have := hC.inv.freshW p h1; rw [this] at hok; exact hok.elim
            refine append_grow (σ' := st.σ.setOwn p (es.length + es'.length)) hC g1 g2 g3 g4 g5 hz hn f1 f2 f3 f4 s1 s2 s3 s4 f5 q4 q3 (fun b c => ?_) rfl rfl rfl hp (Nat.le_refl _) ty
            cases hg : γ.own p with
            | free => rw [hg] at hok; exact hok.elim
            | dead => rw [hg] at hok; exact hok.elim
            | full n' => rw [hg] at hok; exact .inr (.inr ⟨_, _, _, _, rfl, by have : n' = es.length := hok; omega⟩)
            | row b' c' n' s' => rw [hg] at hok; exact .inr (.inr ⟨_, _, _, _, rfl, by have := hok.1; omega⟩)
          cases hS with
          | @sliceRow _ _ _ _ b off cap vs hr hse hcA h1 hnc hm ht =>
            have hsn : s0 = n := by
              rcases hs0 with h2 | h2
              · exact h2
              · simp [Tag.isNil] at h2
            subst hsn
            have hlv := hr.length
            rw [flat_length hse] at hlv
            by_cases hroom : es.length + es'.length ≤ cap
            · by_cases hm0 : es'.length = 0
              · have hnil : es' = [] := List.eq_nil_of_length_eq_zero hm0
                subst hnil
                have hnews : news = [] := List.eq_nil_of_length_eq_zero (by simpa using hln.symm)
                subst hnews
                refine ⟨γ, w, _, run_append_same g1 g2 _ _ _ hnc s1 g3 ty, ?_, ?_, ?_⟩
                · simp only [List.append_nil]; exact .sliceRow hr hse hcA h1 hnc hm ht
                · have e1 : st.σ.setOwn p (es.length + ([] : List AVal).length) = st.σ := by
                    simp only [Sto.setOwn, List.length_nil, Nat.add_zero]
                    have : (fun q => if q = p then some es.length else st.σ.own q) = st.σ.own := by
                      funext q
                      split
                      · rename_i e1; rw [e1, q2]
                      · rfl
                    rw [this]
                  rw [e1]; exact hC
                · have e1 : st.σ.setOwn p (es.length + ([] : List AVal).length) = st.σ := by
                    simp only [Sto.setOwn, List.length_nil, Nat.add_zero]
                    have : (fun q => if q = p then some es.length else st.σ.own q) = st.σ.own := by
                      funext q
                      split
                      · rename_i e1; rw [e1, q2]
                      · rfl
                    rw [this]
                  rw [e1]; exact Evo.refl _ _ _ _
              · -- in place
                simp only [AL.tagRow] at ht
                cases hg : γ.own p with
                | free => rw [hg] at hok; exact hok.elim
                | dead => rw [hg] at hok; exact hok.elim
                | full n' => rw [hg] at ht hok; simp only [Own.isRow] at ht; have : n' = es.length := hok; omega
                | row b' cap' n' s' =>
                  rw [hg] at ht hok
                  obtain ⟨k1, k2, k3, k4, ⟨cur, Tc, k5, k6⟩, k7⟩ := hok
                  obtain ⟨_, ht2⟩ := ht
                  obtain ⟨rfl, rfl, rfl, rfl⟩ := ht2 k1.symm
                  subst k1
                  have hroom2 : es.length + es'.length ≤ cap := hroom
                  have hcurl : es.length * s0 + news.length ≤ cur.size := by rw [← hln, k6, ← Nat.add_mul]; exact Nat.mul_le_mul_right _ hroom
                  have hst := run_storeCells_at P b (0 + es.length * s0) Tc news 0 cur w k5 (by simpa using hcurl) s4
                  simp only [Nat.add_zero, Nat.zero_add] at hst
                  have hrun : (Builtin.append_ #[T, T'] ty #[.slice (some ⟨b, 0, none⟩) es.length cap, x]).run P w = .ok (.slice (some ⟨b, 0, none⟩) (es.length + es'.length) cap) (w.setRow b (cur.toList.take (es.length * s0) ++ news ++ cur.toList.drop (es.length * s0 + news.length)).toArray) := by
                    rcases s1.kind with ⟨e', hk⟩ | hk <;> simp [Builtin.append_, run_underlying g1, run_underlying hk, sizeOf, typeInfo, g2, g3, s1.len, hroom, s1.cells, Addr.add_lit, hst]
                  obtain ⟨c1, c2, c3, c4⟩ := hC.ownIn (p := p) (n := es.length) (m := es'.length) (s := s0) q2 hg k5 k6 hln.symm hroom rfl (by omega)
                  refine ⟨_, _, _, hrun, ?_, c1, c2⟩
                  have hlen : (es ++ es').length = es.length + es'.length := List.length_append
                  have hcells : AL.cellsAt (γ.setOwn p (.row b cap (es.length + es'.length) s0) b (es.length * s0) ((es.length + es'.length) * s0)) (w.setRow b (cur.toList.take (es.length * s0) ++ news ++ cur.toList.drop (es.length * s0 + news.length)).toArray) b 0 (vs ++ news) :=
                    (c3.cellsAt hcA).append (by rw [← hlv, Nat.zero_add]; exact c4)
                  generalize hN : es.length + es'.length = N at *
                  have key := Rep.sliceRow (γ := γ.setOwn p (.row b cap N s0) b (es.length * s0) (N * s0)) (l := true) (tag := .own p) (cap := cap) (vs := vs ++ news) (RepL.mono c3.weak (by rw [flat_append]; exact RepL.append s2 hr : RepL γ w false (flat (es ++ es')) (vs ++ news)))
                    (fun e he => (List.mem_append.1 he).elim (hse e) (s3 e)) hcells (fun v hv => (List.mem_append.1 hv).elim (h1 v) (s4 v)) (by rw [hlen]; exact hroom) hm (by
                      simp only [AL.tagRow, Gh.setOwn, if_true, Own.isRow]
                      exact ⟨by omega, fun _ => by simp⟩)
                  rw [hlen] at key
                  exact key
            · exact grow _ cap vs (run_firstCells_row hcA hlv.symm) hr hse h1 (by omega) (by omega)
          | @sliceNil _ _ _ oo ht ho =>
            by_cases hm0 : es'.length = 0
            · have hnil : es' = [] := List.eq_nil_of_length_eq_zero hm0
              subst hnil
              have hnews : news = [] := List.eq_nil_of_length_eq_zero (by simpa using hln.symm)
              subst hnews
              have e1 : st.σ.setOwn p (([] : List AVal).length + ([] : List AVal).length) = st.σ := by
                simp only [Sto.setOwn, List.length_nil, Nat.add_zero]
                have : (fun q => if q = p then some 0 else st.σ.own q) = st.σ.own := by
                  funext q
                  split
                  · rename_i e1; rw [e1, q2]; rfl
                  · rfl
                rw [this]
              refine ⟨γ, w, _, run_append_same g1 g2 _ _ _ (Nat.le_refl _) s1 g3 ty, ?_, ?_, ?_⟩
              · exact .sliceNil ht ho
              · rw [e1]; exact hC
              · rw [e1]; exact Evo.refl _ _ _ _
            · exact grow oo 0 [] (run_firstCells_zero w.drew n 0 0 oo) (.nil _) (fun _ h => by cases h) (fun _ h => by cases h) (by simp; omega) (by omega)
        · cases h
        · -- a nil slice
          simp only [Option.some.injEq, Prod.mk.injEq] at h
          obtain ⟨rfl, rfl, rfl⟩ := h
          first | replace hq := of_decide_eq_true hq | skip
          obtain ⟨q1, q3, q4⟩ := hq
          obtain ⟨news, s1, s2, s3, s4⟩ := src q1
          have hln := s2.length
          rw [flat_length s3] at hln
          cases hS with
          | sliceRow hr hse hcA h1 hnc hm ht => exact ht.elim
          | sliceNil ht ho =>
            obtain rfl := ho.resolve_right (by simp [Tag.isNil])
            by_cases hm0 : es'.length = 0
            · have hnil : es' = [] := List.eq_nil_of_length_eq_zero hm0
              subst hnil
              have hnews : news = [] := List.eq_nil_of_length_eq_zero (by simpa using hln.symm)
              subst hnews
              obtain ⟨c1, c2, c3⟩ := hC.ownFull 0
              refine ⟨_, w, _, run_append_same g1 g2 _ _ _ (Nat.le_refl _) s1 g3 ty, ?_, c1, c2⟩
              exact .sliceNil (by simp [AL.tagNil, Own.isNil]) (.inl rfl)
            · have := append_grow (σ' := st.σ.pushOwn (([] : List AVal).length + es'.length)) (es := []) (olds := []) (base := none) (cap := 0) (p := st.σ.nown) hC g1 g2 g3 g4 g5 hz hn (run_firstCells_none w.drew n 0 0 0) (.nil _) (fun _ h => by cases h) (fun _ h => by cases h) s1 s2 s3 s4 (by simp; omega)
                (by simpa using q4) (by simpa using q3) (fun b c => by rw [hC.inv.freshW _ (Nat.le_refl _)]; trivial) rfl rfl (by simp [Sto.pushOwn]) (by simp [Sto.pushOwn]) (by simp [Sto.pushOwn]) ty
              simpa using this
        · -- a slice without room
          simp only [Option.some.injEq, Prod.mk.injEq] at h
          obtain ⟨rfl, rfl, rfl⟩ := h
          first | replace hq := of_decide_eq_true hq | skip
          obtain ⟨q1, q2, q3, q4⟩ := hq
          obtain ⟨news, s1, s2, s3, s4⟩ := src q1
          have hln := s2.length
          rw [flat_length s3] at hln
          by_cases hm0 : es'.length = 0
          · have hes : es = [] := List.isEmpty_iff.1 (q2.resolve_right (by omega))
            subst hes
            have hnil : es' = [] := List.eq_nil_of_length_eq_zero hm0
            subst hnil
            have hnews : news = [] := List.eq_nil_of_length_eq_zero (by simpa using hln.symm)
            subst hnews
            obtain ⟨c1, c2, c3⟩ := hC.ownFull 0
            cases hS with
            | @sliceRow _ _ _ _ b off cap vs hr hse hcA h1 hnc hm ht =>
              simp only [AL.tagRow, List.length_nil] at ht
              refine ⟨_, w, _, run_append_same g1 g2 _ _ _ hnc s1 g3 ty, ?_, c1, c2⟩
              simp only [List.append_nil]
              have hv : vs = [] := List.eq_nil_of_length_eq_zero (by have := hr.length; simpa [flat] using this.symm)
              subst hv
              exact .sliceRow (RepL.mono c3.weak hr) (fun _ h => by cases h) (fun j v hj => by simp at hj) h1 hnc hm (by simp [AL.tagRow, Own.isRow, ht])
            | sliceNil ht ho =>
              refine ⟨_, w, _, run_append_same g1 g2 _ _ _ (Nat.le_refl _) s1 g3 ty, ?_, c1, c2⟩
              exact .sliceNil (by simp [AL.tagNil, Own.isNil]) (ho.imp_right fun _ => rfl)
          · cases hS with
            | @sliceRow _ _ _ _ b off cap vs hr hse hcA h1 hnc hm ht =>
              simp only [AL.tagRow] at ht
              subst ht
              have hsn : s0 = n := by
                rcases hs0 with h2 | h2
                · exact h2
                · simp [Tag.isNil] at h2
              subst hsn
              have hlv := hr.length
              rw [flat_length hse] at hlv
              exact append_grow (σ' := st.σ.pushOwn (es.length + es'.length)) (p := st.σ.nown) hC g1 g2 g3 g4 g5 hz hn (run_firstCells_row hcA hlv.symm) hr hse h1 s1 s2 s3 s4 (by omega) q4 q3 (fun b c => by rw [hC.inv.freshW _ (Nat.le_refl _)]; trivial) rfl rfl rfl (by simp [Sto.pushOwn]) (by simp [Sto.pushOwn]) ty
            | @sliceNil _ _ _ oo ht ho =>
              exact append_grow (σ' := st.σ.pushOwn (([] : List AVal).length + es'.length)) (es := []) (olds := []) (p := st.σ.nown) hC g1 g2 g3 g4 g5 hz hn (run_firstCells_zero w.drew n 0 0 oo) (.nil _) (fun _ h => by cases h) (fun _ h => by cases h) s1 s2 s3 s4 (by simp; omega)
                q4 q3 (fun b c => by rw [hC.inv.freshW _ (Nat.le_refl _)]; trivial) rfl rfl rfl (by simp [Sto.pushOwn]) (by simp [Sto.pushOwn]) ty
      · cases h
    · cases h
  · cases h

end
end Go.AL
end
