/-
  The abstract layer, part 16: mutable rows: they are read as rows that never change, they are opened, they are frozen at a call's end.
-/
import Derived.Test.YtakidnohmfebmaaA15
namespace Go.AL
set_option linter.unusedSimpArgs false
set_option linter.unusedVariables false

/-! ### Rows, as they read -/
mutual
def viewA (ob : Nat → Option AObj) : AVal → AVal
  | .mrow k _ => match ob k with
    | some (.buf es s _) => .slice es s .ro
    | _ => .undef
  | .agg cs => .agg (viewL ob cs)
  | .tuple vs => .tuple (viewL ob vs)
  | a => a
def viewL (ob : Nat → Option AObj) : List AVal → List AVal
  | [] => []
  | a :: as => viewA ob a :: viewL ob as
end
mutual
noncomputable def viewOk (ob : Nat → Option AObj) : AVal → Bool
  | .mrow k len => match ob k with
    | some (.buf es _ g) => Nat.beq g (k + 1) && (hold (decide (len = es.length)) && (noOutL 0 es && noTokL 0 es))
    | _ => false
  | .agg cs => viewOkL ob cs
  | .tuple vs => viewOkL ob vs
  | a => a.noOut 0 && a.noTok 0
noncomputable def viewOkL (ob : Nat → Option AObj) : List AVal → Bool
  | [] => true
  | a :: as => viewOk ob a && viewOkL ob as
end
mutual
def AVal.hasRow : AVal → Bool
  | .mrow _ _ => true
  | .agg cs => hasRowL cs
  | .tuple vs => hasRowL vs
  | _ => false
def hasRowL : List AVal → Bool
  | [] => false
  | a :: as => a.hasRow || hasRowL as
end
mutual
/-- Nothing but numbers, texts, truth values. -/
def AVal.plain : AVal → Bool
  | .bool _ => true
  | .int _ _ => true
  | .str _ => true
  | .agg cs => plainL cs
  | .tuple vs => plainL vs
  | _ => false
def plainL : List AVal → Bool
  | [] => true
  | a :: as => a.plain && plainL as
end

mutual
theorem Rep.plain {γ γ2 : Gh} {w w2 : World} {l : Bool} : ∀ {a : AVal} {u : Value}, Rep γ w l a u → a.plain = true → Rep γ2 w2 l a u
  | .bool _, _, .bool _ _, _ => .bool _ _
  | .int _ _, _, .int _ _ _, _ => .int _ _ _
  | .str _, _, .str _ _, _ => .str _ _
  | .agg _, _, .agg h h1, e => .agg (RepL.plain h (by simpa [AVal.plain] using e)) h1
  | .tuple _, _, .tuple h, e => .tuple (RepL.plain h (by simpa [AVal.plain] using e))
theorem RepL.plain {γ γ2 : Gh} {w w2 : World} {l : Bool} : ∀ {as : List AVal} {us : List Value}, RepL γ w l as us → plainL as = true → RepL γ2 w2 l as us
  | [], _, .nil _, _ => .nil _
  | _ :: _, _, .cons h t, e => by
    simp only [plainL, Bool.and_eq_true] at e
    exact .cons (Rep.plain h e.1) (RepL.plain t e.2)
end

/-- The ghost under which the rows of a store never change, and nothing else is known. -/
def Gh.view (γ : Gh) (w : World) (σ : Sto) : Gh where
  imm := fun b o => γ.imm b o ∨ ((∃ v, w.cell? ⟨b, o, none⟩ = some v) ∧ ∃ k es s g, σ.obj k = some (.buf es s g) ∧ γ.obj (.out k) = some b)
  obj := fun _ => none
  own := fun _ => .free

theorem Ext.cut0 {γ γ2 : Gh} {w : World} (h : ∀ b o, γ.imm b o → γ2.imm b o) : Ext false (γ.cut 0 0) w γ2 w :=
  ⟨fun b o hb => ⟨h b o hb, rfl⟩, (fun i b hl hb => by
    cases i with
    | loc k => simp [Oid.isOut] at hl
    | out k => rw [cut0_obj] at hb; cases hb), fun p => by rw [cut0_own]; trivial⟩

theorem RepL.closed {γ γ2 : Gh} {w : World} {as : List AVal} {us : List Value} (h : RepL γ w false as us) (h1 : noOutL 0 as = true) (h2 : noTokL 0 as = true) (hi : ∀ b o, γ.imm b o → γ2.imm b o) : RepL γ2 w false as us := by
  have e := sealL_noTok as h2
  have := RepL.cut (n := 0) (m := 0) h (by rw [e]; exact h1)
  rw [e] at this
  exact RepL.mono (Ext.cut0 hi) this
theorem Rep.closed {γ γ2 : Gh} {w : World} {a : AVal} {u : Value} (h : Rep γ w false a u) (h1 : a.noOut 0 = true) (h2 : a.noTok 0 = true) (hi : ∀ b o, γ.imm b o → γ2.imm b o) : Rep γ2 w false a u := by
  have e := seal_noTok a h2
  have := Rep.cut (n := 0) (m := 0) h (by rw [e]; exact h1)
  rw [e] at this
  exact Rep.mono (Ext.cut0 hi) this

mutual
theorem Rep.view {γ : Gh} {w : World} {σ : Sto} (hi : Inv γ w σ.O σ.own σ.nobj σ.nown) : ∀ {a : AVal} {u : Value}, Rep γ w false a u → viewOk σ.obj a = true → Rep (γ.view w σ) w false (viewA σ.obj a) u
  | .mrow k len, _, .mrow (cap := cap) (a := ad) hc hn hb, e => by
    unfold viewOk at e
    unfold viewA
    split at e
    · rename_i es s g hk
      simp only [Bool.and_eq_true, hold_eq, decide_eq_true_eq] at e
      obtain ⟨e1, rfl, e2, e3⟩ := e
      have e1 := Nat.eq_of_beq_eq_true e1
      subst e1
      by_cases h0 : cap = 0
      · subst h0
        have hes : es = [] := List.eq_nil_of_length_eq_zero (by omega)
        subst hes
        exact .sliceNil trivial (.inr rfl)
      · obtain ⟨b, rfl, hb2⟩ := hb (by omega)
        obtain ⟨vs, junk, T, cap', h1, h2, h3, h4, h5, h6, h7, h8, h9⟩ := hi.objb (i := .out k) hk hb2
        rw [hc] at h5
        cases h5
        have hlv := h2.length
        refine .sliceRow (RepL.closed h2 (by rw [noOut_flat]; exact e2) (by rw [noTok_flat]; exact e3) fun b o h => .inl h) h3 (fun j v hj => ?_) (fun v hv => h4 v (List.mem_append_left _ hv)) hn h8 trivial
        have hlt : j < vs.length := (List.getElem?_eq_some_iff.1 hj).1
        have hcell : w.cell? ⟨b, 0 + j, none⟩ = some v := by
          simp only [World.cell?, h1, Nat.zero_add]
          simp only [Option.isSome_none, Bool.false_eq_true, if_false]
          rw [List.getElem?_toArray, List.getElem?_append_left hlt]
          exact hj
        exact ⟨.inr ⟨⟨v, hcell⟩, k, es, s, _, hk, hb2⟩, hcell⟩
    · cases e
  | .agg cs, _, .agg h h1, e => by
    unfold viewOk at e
    unfold viewA
    exact .agg (RepL.view hi h e) h1
  | .tuple cs, _, .tuple h, e => by
    unfold viewOk at e
    unfold viewA
    exact .tuple (RepL.view hi h e)
  | .undef, _, h, e => by simp only [viewOk, Bool.and_eq_true] at e; exact Rep.closed h e.1 e.2 fun b o h => .inl h
  | .bool _, _, h, e => by simp only [viewOk, Bool.and_eq_true] at e; exact Rep.closed h e.1 e.2 fun b o h => .inl h
  | .int _ _, _, h, e => by simp only [viewOk, Bool.and_eq_true] at e; exact Rep.closed h e.1 e.2 fun b o h => .inl h
  | .str _, _, h, e => by simp only [viewOk, Bool.and_eq_true] at e; exact Rep.closed h e.1 e.2 fun b o h => .inl h
  | .slice _ _ _, _, h, e => by simp only [viewOk, Bool.and_eq_true] at e; exact Rep.closed h e.1 e.2 fun b o h => .inl h
  | .arr _ _ _ _, _, h, e => by simp only [viewOk, Bool.and_eq_true] at e; exact Rep.closed h e.1 e.2 fun b o h => .inl h
  | .iptr _, _, h, e => by simp only [viewOk, Bool.and_eq_true] at e; exact Rep.closed h e.1 e.2 fun b o h => .inl h
  | .ptr _ _, _, h, e => by simp only [viewOk, Bool.and_eq_true] at e; exact Rep.closed h e.1 e.2 fun b o h => .inl h
  | .nilptr, _, h, e => by simp only [viewOk, Bool.and_eq_true] at e; exact Rep.closed h e.1 e.2 fun b o h => .inl h
  | .map _, _, h, e => by simp only [viewOk, Bool.and_eq_true] at e; exact Rep.closed h e.1 e.2 fun b o h => .inl h
  | .nilmap, _, h, e => by simp only [viewOk, Bool.and_eq_true] at e; exact Rep.closed h e.1 e.2 fun b o h => .inl h
  | .func _ _ _, _, h, e => by simp only [viewOk, Bool.and_eq_true] at e; exact Rep.closed h e.1 e.2 fun b o h => .inl h
  | .nilfunc, _, h, e => by simp only [viewOk, Bool.and_eq_true] at e; exact Rep.closed h e.1 e.2 fun b o h => .inl h
  | .iface _ _, _, h, e => by simp only [viewOk, Bool.and_eq_true] at e; exact Rep.closed h e.1 e.2 fun b o h => .inl h
  | .nilIface, _, h, e => by simp only [viewOk, Bool.and_eq_true] at e; exact Rep.closed h e.1 e.2 fun b o h => .inl h
theorem RepL.view {γ : Gh} {w : World} {σ : Sto} (hi : Inv γ w σ.O σ.own σ.nobj σ.nown) : ∀ {as : List AVal} {us : List Value}, RepL γ w false as us → viewOkL σ.obj as = true → RepL (γ.view w σ) w false (viewL σ.obj as) us
  | [], _, .nil _, _ => .nil _
  | _ :: _, _, .cons h t, e => by
    simp only [viewOkL, Bool.and_eq_true] at e
    exact .cons (Rep.view hi h e.1) (RepL.view hi t e.2)
end

theorem Inv.emptyOf {γ : Gh} {w : World} (h1 : ∀ b o, γ.imm b o → b < w.heap.size) (h2 : ∀ n, γ.obj (.out n) = none) (h3 : ∀ p, γ.own p = .free) (h4 : Amb γ w) : Inv γ w Sto.empty.O Sto.empty.own Sto.empty.nobj Sto.empty.nown :=
  ⟨h1, fun i x hx => (top_none i x hx).elim, fun i j x y b hx => (top_none i x hx).elim, fun p n hp => (by cases hp), fun p q n m b hp => (by cases hp), fun i x p n b hx => (top_none i x hx).elim, fun n _ => h2 n, fun p _ => h3 p, h4⟩

theorem Inv.viewOf {γ : Gh} {w : World} {σ : Sto} (hi : Inv γ w σ.O σ.own σ.nobj σ.nown) : Inv (γ.view w σ) w Sto.empty.O Sto.empty.own Sto.empty.nobj Sto.empty.nown :=
  Inv.emptyOf (fun b o h => h.elim (hi.imm b o) (fun h => h.1.elim fun _ hv => World.block_lt_of_cell? w ⟨b, o, none⟩ hv)) (fun _ => rfl) (fun _ => rfl) ⟨hi.amb.1, fun x hx => .inl (hi.amb.2.1 x hx), fun x hx => .inl (hi.amb.2.2.1 x hx), fun x hx o ho => .inl (hi.amb.2.2.2 x hx o ho)⟩

/-- A CALL THAT ONLY READS, AND ANSWERS NUMBERS, TEXTS, TRUTH VALUES, READS MUTABLE ROWS AS ROWS THAT NEVER CHANGE. -/
theorem PCall.view {P : Program} {f : FuncId} {xs : List AVal} {v : AVal} {σ : Sto} (h : PCall P f (viewL σ.obj xs) v) (hok : viewOkL σ.obj xs = true) (hp : v.plain = true) : ACall P f xs σ fun r τ => r = v ∧ τ = σ := by
  intro γ w vs hi hr
  refine (h Sto.empty (γ.view w σ) w vs hi.viewOf (RepL.view hi hr hok)).mono fun e w' ⟨u, r, γ', τ, he, hrep, hinv, hev, hr1, hτ⟩ => ?_
  subst hr1
  have hmut : ∀ b, ¬ Mut (γ.view w σ) Sto.empty.O Sto.empty.own b := fun b hb => by
    rcases hb with ⟨i, x, hx, _⟩ | ⟨p, n, hp, _⟩
    · exact top_none i x hx
    · cases hp
  have hold : ∀ b, b < w.heap.size → w'.heap[b]? = w.heap[b]? := fun b hb => hev.old b hb (hmut b)
  have e1 : ∀ l, Ext l γ w γ w' := fun l => ⟨fun b o hb => ⟨hb, cell?_heap (hold b (hi.imm_lt hb))⟩, fun _ _ _ h => h, fun p => OwnStep.refl _⟩
  refine ⟨u, r, γ, σ, he, Rep.plain hrep hp, ?_, ?_, rfl, rfl⟩
  · refine ⟨fun b o hb => ?_, fun i x hx => ?_, hi.inj, fun p n hp => ?_, hi.ownInj, hi.apart, hi.freshO, hi.freshW, hi.amb.mono (e1 true) hev.size⟩
    · exact Nat.lt_of_lt_of_le (hi.imm b o hb) hev.size
    · rcases hi.obj i x hx with h1 | ⟨b, hb, hok⟩
      · exact .inl h1
      exact .inr ⟨b, hb, hok.mono (e1 _) (hold b hok.lt) hok.notImm⟩
    · have hok := hi.own p n hp
      exact hok.mono (fun b hb => hold b (hok.lt hb)) (fun b o hb ho => ho)
  · exact ⟨hev.os, hev.tape, hev.output, hev.size, fun b hb _ => hold b hb, e1 false, fun b o hb => .inl hb, fun b hb => .inl hb⟩

noncomputable section
/-- What is told of a call that reads mutable rows. -/
def roAns (ok : Bool) (σ : Sto) : Ans → Ans
  | .pure c v => .full (ok && (c && v.plain)) v σ
  | .nm x f => .nm x fun y => roAns ok σ (f y)
  | .br b x y => .br b (roAns ok σ x) (roAns ok σ y)
  | _ => .pure false .undef
def roE (e : Ent) : Ent := (e.1, fun xs σ =>
  match hasRowL xs with
  | false => e.2 xs σ
  | true => match e.2 (viewL σ.obj xs) Sto.empty with
    | some a => some (roAns (viewOkL σ.obj xs) σ a)
    | none => none)
end

theorem roAns_ok {P : Program} {g : FuncId} {xs : List AVal} {σ : Sto} : ∀ (a : Ans), ansOk P g (viewL σ.obj xs) Sto.empty a → ansOk P g xs σ (roAns (viewOkL σ.obj xs) σ a) := by
  intro a
  induction a with
  | pure c v =>
    intro h hc
    simp only [Bool.and_eq_true] at hc
    exact PCall.view (h hc.2.1) hc.1 hc.2.2
  | own c v ow nw => intro _ hc; cases hc
  | full c v σ' => intro _ hc; cases hc
  | nm x f ih => intro h; exact ih x h
  | br b x y ihx ihy => intro h; exact ⟨fun e => ihx (h.1 e), fun e => ihy (h.2 e)⟩

theorem roE_ok {P : Program} {e : Ent} (h : EntOk P e) : EntOk P (roE e) := by
  intro xs σ
  simp only [roE]
  split
  · exact h xs σ
  · have := h (viewL σ.obj xs) Sto.empty
    split
    · rename_i a ha
      rw [ha] at this
      unfold AnsOk at this ⊢
      exact roAns_ok a this
    · trivial

/-! ### Rows, frozen at a call's end -/

/-- WHAT IS MADE OF MUTABLE ROWS IS FROZEN WHEN IT IS HANDED BACK. -/
theorem PCall.ofRows {P : Program} {f : FuncId} {args args' : List AVal} {v : AVal} (hw : WkL args args') (h : ACall P f args' Sto.empty fun r τ => ∃ r1, Wk r r1 ∧ viewOk τ.obj r1 = true ∧ Wk (viewA τ.obj r1) v)
    (ho : noOutL 0 args' = true) (ht : noTokL 0 args' = true) (hv : v.noOut 0 = true) (hv2 : v.noTok 0 = true) : PCall P f args v := by
  intro σ
  refine ACall.args ?_ hw
  intro γ w vs hi hr
  have hr0 : RepL (γ.cut 0 0) w false args' vs := by
    have e := sealL_noTok args' ht
    have := RepL.cut (n := 0) (m := 0) hr (by rw [e]; exact ho)
    rwa [e] at this
  have hi0 : Inv (γ.cut 0 0) w Sto.empty.O Sto.empty.own Sto.empty.nobj Sto.empty.nown := Inv.emptyOf hi.imm (cut0_obj γ) (cut0_own γ) hi.amb
  refine (h (γ.cut 0 0) w vs hi0 hr0).mono fun e w' ⟨u, r, γ', τ, he, hrep, hinv, hev, r1, q1, q2, q3⟩ => ?_
  have hmut : ∀ b, ¬ Mut (γ.cut 0 0) Sto.empty.O Sto.empty.own b := fun b hb => by
    rcases hb with ⟨i, x, hx, _⟩ | ⟨p, n, hp, _⟩
    · exact top_none i x hx
    · cases hp
  have hold : ∀ b, b < w.heap.size → w'.heap[b]? = w.heap[b]? := fun b hb => hev.old b hb (hmut b)
  have hfz : ∀ b o, (γ'.view w' τ).imm b o → γ.imm b o ∨ w.heap.size ≤ b := fun b o hi' => by
    rcases hi' with h1 | ⟨_, k, es, s, g, hk, hb⟩
    · rcases hev.new b o h1 with h2 | h2 | h2
      · exact .inl h2
      · exact .inr h2
      · exact (hmut b h2).elim
    · rcases hev.mutd b (.inl ⟨.out k, _, hk, hb⟩) with h2 | h2
      · exact (hmut b h2).elim
      · exact .inr h2
  have hnew : ∀ b o, b < w.heap.size → (γ'.view w' τ).imm b o → γ.imm b o := fun b o hb hi' => (hfz b o hi').elim id (fun h => by omega)
  have e1 : ∀ l, Ext l γ w { γ with imm := (γ'.view w' τ).imm } w' := fun l => ⟨fun b o hb => ⟨.inl (hev.ext.imm b o hb).1, (hev.ext.imm b o hb).2⟩, fun _ _ _ h => h, fun p => OwnStep.refl _⟩
  have hrv : Rep (γ'.view w' τ) w' false v u := q3 _ _ _ _ (Rep.view hinv (q1 _ _ _ _ hrep) q2)
  refine ⟨u, v, { γ with imm := (γ'.view w' τ).imm }, σ, he, Rep.closed hrv hv hv2 (fun b o h => h), ?_, ?_, rfl, rfl⟩
  · refine ⟨fun b o hb => ?_, fun i x hx => ?_, hi.inj, fun p n hp => ?_, hi.ownInj, hi.apart, hi.freshO, hi.freshW, hi.amb.mono (e1 true) hev.size⟩
    · exact hb.elim (hinv.imm b o) (fun h => h.1.elim fun _ hv => World.block_lt_of_cell? w' ⟨b, o, none⟩ hv)
    · rcases hi.obj i x hx with h1 | ⟨b, hb, hok⟩
      · exact .inl h1
      exact .inr ⟨b, hb, hok.mono (e1 _) (hold b hok.lt) (fun o ho => hok.notImm o (hnew b o hok.lt ho))⟩
    · have hok := hi.own p n hp
      exact hok.mono (fun b hb => hold b (hok.lt hb)) (fun b o hb ho => hnew b o (hok.lt hb) ho)
  · exact ⟨hev.os, hev.tape, hev.output, hev.size, fun b hb _ => hold b hb, e1 false, fun b o hb => (hfz b o hb).imp_right .inl, fun b hb => .inl hb⟩

/-! ### A row is made -/

def Sto.pushRow (σ : Sto) (es : List AVal) (s : Nat) : Sto := { σ with nobj := σ.nobj + 2, obj := fun n => if n = σ.nobj then some (.buf es s (σ.nobj + 1)) else σ.obj n }
def Sto.del (σ : Sto) (k : Nat) : Sto := { σ with obj := fun n => if n = k then none else σ.obj n }
def Sto.one (x : AObj) : Sto := { nobj := 1, obj := fun n => if n = 0 then some x else none, nown := 0, own := fun _ => none }

theorem hole.setGh {γ : Gh} {i : Oid} {x : AObj} (h : hole γ i x) {n : Nat} {y : Option Nat} (hf : γ.obj (.out n) = none) (hi : i ≠ .out n) : hole (γ.setObj (.out n) y) i x := by
  obtain ⟨j, s, h1, h2, h3, h4⟩ := h
  subst h1
  have e1 : j ≠ n := fun e => hi (by rw [e])
  have e2 : j + 1 ≠ n := fun e => by rw [e, hf] at h4; cases h4
  exact ⟨j, s, rfl, h2, by simpa [Gh.setObj, e1] using h3, by simpa [Gh.setObj, e2] using h4⟩

/-- A NEW ARRAY, OR NONE, IS A MUTABLE ROW. -/
theorem ACall.closeRow {P : Program} {f : FuncId} {args : List AVal} {σ : Sto} {es : List AVal} {s : Nat} (hs : 0 < s) (hes : ∀ e ∈ es, e.cells.length = s)
    (h : ACall P f args σ fun r τ => (es = [] ∧ τ = σ ∧ ∃ s', r = .slice [] s' .nil ∨ r = .slice [] s' .full) ∨
      ∃ k jk, r = .arr (.out σ.nobj) 0 es.length (es.length + k) ∧ τ = σ.push (.cells (flat es ++ jk)) ∧ jk.length = k * s ∧ es.length + k ≤ 9223372036854775807) :
    ACall P f args σ fun r τ => r = .mrow σ.nobj es.length ∧ τ = σ.pushRow es s := by
  intro γ w vs hi hr
  refine (h γ w vs hi hr).mono fun e w' ⟨u, r, γ', τ, he, hrep, hinv, hev, hq⟩ => ?_
  rcases hq with ⟨rfl, rfl, s', hr1⟩ | ⟨k, jk, rfl, rfl, hjk, hmax⟩
  · -- no row
    obtain ⟨a, rfl⟩ : ∃ a, u = .slice a 0 0 := by
      have key : ∀ t, r = .slice [] s' t → (t = .nil ∨ t = .full) → ∃ a, u = .slice a 0 0 := by
        intro t hrt ht
        subst hrt
        generalize hel : ([] : List AVal) = el at hrep
        cases hrep with
        | sliceRow hr hs hc h1 hnc hm htr =>
          subst hel
          rcases ht with rfl | rfl
          · exact htr.elim
          · simp only [AL.tagRow, List.length_nil] at htr
            subst htr
            exact ⟨_, rfl⟩
        | sliceNil _ _ => exact ⟨_, rfl⟩
      rcases hr1 with hr1 | hr1
      · exact key _ hr1 (.inl rfl)
      · exact key _ hr1 (.inr rfl)
    have hf0 := hinv.freshO τ.nobj (Nat.le_refl _)
    have hf1 := hinv.freshO (τ.nobj + 1) (by omega)
    have eO : ∀ i, (τ.pushRow [] s).O i = if i = .out τ.nobj then some (.buf [] s (τ.nobj + 1)) else τ.O i := fun i => by cases i <;> simp [Sto.O, Sto.pushRow]
    have e : ∀ l, Ext l γ' w' (γ'.setObj (.out (τ.nobj + 1)) (some 0)) w' := fun l => ⟨fun b o hb => ⟨hb, rfl⟩, fun i b _ hb => by
      have : i ≠ .out (τ.nobj + 1) := by rintro rfl; rw [hf1] at hb; cases hb
      simpa [Gh.setObj, this] using hb, fun p => OwnStep.refl _⟩
    have hne : ∀ i x, (τ.pushRow [] s).O i = some x → i ≠ .out (τ.nobj + 1) := fun i x hx hi1 => by
      subst hi1
      rw [eO] at hx
      simp at hx
      rcases hinv.obj _ _ hx with ⟨j, s2, g1, g2, g3, g4⟩ | ⟨b, hb, _⟩
      · cases g1
        rw [hinv.freshO (τ.nobj + 1 + 1) (by omega)] at g4; cases g4
      · rw [hf1] at hb; cases hb
    have hgo : ∀ i, i ≠ .out (τ.nobj + 1) → (γ'.setObj (.out (τ.nobj + 1)) (some 0)).obj i = γ'.obj i := fun i hi1 => by simp [Gh.setObj, hi1]
    have hold : ∀ i x b, (τ.pushRow [] s).O i = some x → (γ'.setObj (.out (τ.nobj + 1)) (some 0)).obj i = some b → τ.O i = some x ∧ γ'.obj i = some b := fun i x b hx hb => by
      rw [hgo i (hne i x hx)] at hb
      rw [eO] at hx
      split at hx
      · rename_i e1; subst e1; rw [hf0] at hb; cases hb
      · exact ⟨hx, hb⟩
    refine ⟨.slice a 0 0, .mrow τ.nobj 0, γ'.setObj (.out (τ.nobj + 1)) (some 0), τ.pushRow [] s, he, .mrow (cap := 0) (by simp [Gh.setObj]) (Nat.le_refl _) (fun h => by omega), ?_, ?_, rfl, rfl⟩
    · refine ⟨hinv.imm, fun i x hx => ?_, fun i j x y b hx hy hbi hbj => ?_, hinv.own, hinv.ownInj, fun i x p n b hx hp hbi hbp => ?_, fun n hn => ?_, hinv.freshW, hinv.amb⟩
      · have hx0 := hx
        rw [eO] at hx
        split at hx
        · rename_i e1
          cases hx
          exact .inl ⟨τ.nobj, s, e1, rfl, by simpa [Gh.setObj] using hf0, by simp [Gh.setObj]⟩
        · rename_i e1
          rcases hinv.obj i x hx with h1 | ⟨b, hb, hok⟩
          · exact .inl (h1.setGh hf1 (hne i x hx0))
          · exact .inr ⟨b, by rw [hgo i (hne i x hx0)]; exact hb, hok.mono (e _) rfl hok.notImm⟩
      · obtain ⟨h1, h2⟩ := hold i x b hx hbi
        obtain ⟨h3, h4⟩ := hold j y b hy hbj
        exact hinv.inj i j x y b h1 h3 h2 h4
      · obtain ⟨h1, h2⟩ := hold i x b hx hbi
        exact hinv.apart i x p n b h1 hp h2 hbp
      · have hn : τ.nobj + 2 ≤ n := hn
        have := hinv.freshO n (by omega)
        have hne : n ≠ τ.nobj + 1 := by omega
        simpa [Gh.setObj, hne] using this
    · refine hev.trans ⟨rfl, rfl, rfl, Nat.le_refl _, fun _ _ _ => rfl, e false, fun b o hb => .inl hb, fun b hb => .inl ?_⟩
      rcases hb with ⟨i, x, hx, hbi⟩ | hb
      · obtain ⟨h1, h2⟩ := hold i x b hx hbi
        exact .inl ⟨i, x, h1, h2⟩
      · exact .inr hb
  · -- an array
    cases hrep with
    | @arr _ _ _ off' _ _ b hb hoo hnc h0 =>
      have hpush : (σ.push (.cells (flat es ++ jk))).O (.out σ.nobj) = some (.cells (flat es ++ jk)) := by simp [Sto.O, Sto.push]
      obtain ⟨ws, T, hh, hrw, h1w, hni⟩ := hinv.objb hpush hb
      have hsplit := RepL.split hrw
      have hlf := flat_length hes
      have hlw := hrw.length
      have hf1 := hinv.freshO (σ.nobj + 1) (Nat.le_refl _)
      have eO : ∀ i, (σ.pushRow es s).O i = if i = .out σ.nobj then some (.buf es s (σ.nobj + 1)) else (σ.push (.cells (flat es ++ jk))).O i := fun i => by
        cases i with
        | loc k => rfl
        | out k => by_cases h : k = σ.nobj <;> simp [Sto.O, Sto.pushRow, Sto.push, h]
      have e : ∀ l, Ext l γ' w' (γ'.setObj (.out (σ.nobj + 1)) (some (es.length + k))) w' := fun l => ⟨fun b o hb => ⟨hb, rfl⟩, fun i b _ hb => by
        have : i ≠ .out (σ.nobj + 1) := by rintro rfl; rw [hf1] at hb; cases hb
        simpa [Gh.setObj, this] using hb, fun p => OwnStep.refl _⟩
      have hgo : ∀ i, i ≠ .out (σ.nobj + 1) → (γ'.setObj (.out (σ.nobj + 1)) (some (es.length + k))).obj i = γ'.obj i := fun i hi1 => by simp [Gh.setObj, hi1]
      have hne : ∀ i x, (σ.pushRow es s).O i = some x → i ≠ .out (σ.nobj + 1) := fun i x hx hi1 => by
        subst hi1
        rw [eO] at hx
        simp at hx
        rcases hinv.obj _ _ hx with ⟨j, s2, g1, g2, g3, g4⟩ | ⟨b, hb, _⟩
        · cases g1
          have hq := hinv.freshO (σ.nobj + 1 + 1) (by simp [Sto.push])
          rw [hq] at g4; cases g4
        · rw [hf1] at hb; cases hb
      have hold : ∀ i x b', (σ.pushRow es s).O i = some x → (γ'.setObj (.out (σ.nobj + 1)) (some (es.length + k))).obj i = some b' → ∃ y, (σ.push (.cells (flat es ++ jk))).O i = some y ∧ γ'.obj i = some b' := fun i x b' hx hb' => by
        rw [hgo i (hne i x hx)] at hb'
        rw [eO] at hx
        split at hx
        · rename_i e1; subst e1; exact ⟨_, hpush, hb'⟩
        · exact ⟨x, hx, hb'⟩
      refine ⟨_, .mrow σ.nobj es.length, γ'.setObj (.out (σ.nobj + 1)) (some (es.length + k)), σ.pushRow es s, he, .mrow (cap := es.length + k) (by simp [Gh.setObj]) (by omega) (fun h => ⟨b, by rw [h0 h], by rw [hgo _ (by simp)]; exact hb⟩), ?_, ?_, rfl, rfl⟩
      · refine ⟨hinv.imm, fun i x hx => ?_, fun i j x y b' hx hy hbi hbj => ?_, hinv.own, hinv.ownInj, fun i x p n b' hx hp hbi hbp => ?_, fun n hn => ?_, hinv.freshW, hinv.amb⟩
        · have hx0 := hx
          rw [eO] at hx
          split at hx
          · rename_i e1
            subst e1
            cases hx
            refine .inr ⟨b, by rw [hgo _ (by simp)]; exact hb, ws.take (flat es).length, ws.drop (flat es).length, T, es.length + k, by rw [List.take_append_drop]; exact hh, RepL.mono (e _) hsplit.1, hes, fun v hv => ?_, by simp [Gh.setObj], ?_, hs, ?_, hni⟩
            · rw [List.take_append_drop] at hv; exact h1w v hv
            · rw [List.take_append_drop, ← hlw, List.length_append, hlf, hjk, Nat.add_mul]
            · simp [maxLen]; omega
          · rename_i e1
            rcases hinv.obj i x hx with h1 | ⟨b', hb', hok⟩
            · exact .inl (h1.setGh hf1 (hne i x hx0))
            · exact .inr ⟨b', by rw [hgo i (hne i x hx0)]; exact hb', hok.mono (e _) rfl hok.notImm⟩
        · obtain ⟨y1, h1, h2⟩ := hold i x b' hx hbi
          obtain ⟨y2, h3, h4⟩ := hold j y b' hy hbj
          exact hinv.inj i j y1 y2 b' h1 h3 h2 h4
        · obtain ⟨y1, h1, h2⟩ := hold i x b' hx hbi
          exact hinv.apart i y1 p n b' h1 hp h2 hbp
        · have hn : σ.nobj + 2 ≤ n := hn
          have hq := hinv.freshO n (by simp only [Sto.push]; omega)
          have hne : n ≠ σ.nobj + 1 := by omega
          simpa [Gh.setObj, hne] using hq
      · refine hev.trans ⟨rfl, rfl, rfl, Nat.le_refl _, fun _ _ _ => rfl, e false, fun b o hb => .inl hb, fun b' hb' => .inl ?_⟩
        rcases hb' with ⟨i, x, hx, hbi⟩ | hb'
        · obtain ⟨y1, h1, h2⟩ := hold i x b' hx hbi
          exact .inl ⟨i, y1, h1, h2⟩
        · exact .inr hb'

/-! ### A row is used up -/

theorem ACall.drop {P : Program} {f : FuncId} {args : List AVal} {σ : Sto} {v : AVal} (h : ACall P f args σ fun r τ => r = v ∧ τ = σ) (k : Nat) : ACall P f args σ fun r τ => r = v ∧ τ = σ.del k := by
  intro γ w vs hi hr
  refine (h γ w vs hi hr).mono fun e w' ⟨u, r, γ', τ, he, hrep, hinv, hev, h1, h2⟩ => ?_
  subst h2
  have hO : ∀ i x, (τ.del k).O i = some x → τ.O i = some x := fun i x hx => by
    cases i with
    | loc j => cases hx
    | out n =>
      simp only [Sto.O, Sto.del] at hx ⊢
      split at hx
      · cases hx
      · exact hx
  refine ⟨u, r, γ', τ.del k, he, hrep, hinv.sub hO, ?_, h1, rfl⟩
  exact hev.trans ⟨rfl, rfl, rfl, Nat.le_refl _, fun _ _ _ => rfl, Ext.refl _ _ _, fun b o hb => .inl hb, fun b hb => .inl (Mut.sub hO hb)⟩

/-- A CALL THAT USES UP A MUTABLE ROW, AND HANDS BACK A ROW THAT IS FROZEN. -/
theorem ACall.openRow {P : Program} {f : FuncId} {rest : List AVal} {σ : Sto} {k s : Nat} {es es' : List AVal} (hk : σ.obj k = some (.buf es s (k + 1))) (he1 : noOutL 0 es = true) (he2 : noTokL 0 es = true)
    (hr1 : noOutL 0 rest = true) (hr2 : noTokL 0 rest = true) (ho1 : noOutL 0 es' = true) (ho2 : noTokL 0 es' = true) (hes' : ∀ e ∈ es', e.cells.length = s)
    (h0 : es = [] → ACall P f (.slice [] s .full :: rest) Sto.empty fun r _ => Wk r (.slice es' s .ro))
    (h1 : ∀ j c, es.length ≤ c → es.length * s + j = c * s → c ≤ 9223372036854775807 → ACall P f (.arr (.out 0) 0 es.length c :: rest) (Sto.one (.cells (flat es ++ List.replicate j .undef))) fun r τ =>
      Wk r (.slice es' s .ro) ∨ ∃ o cap tl, r = .arr (.out o) 0 es'.length cap ∧ τ.obj o = some (.cells (flat es' ++ tl)) ∧ cap ≤ 9223372036854775807) :
    ACall P f (.mrow k es.length :: rest) σ fun r τ => r = .slice es' s .ro ∧ τ = σ.del k := by
  intro γ w vs hi hr
  cases hr with
  | cons hm hrest =>
    rename_i v vs
    cases hm with
    | @mrow _ _ _ cap a hc hn hb =>
      by_cases hz : cap = 0
      · -- it has no room
        subst hz
        have hes : es = [] := List.eq_nil_of_length_eq_zero (by omega)
        subst hes
        have hh := h0 rfl
        have hE := ACall.ofEmpty (args := .slice [] s .full :: rest) (v := .slice es' s .ro) (by rw [sealL_noTok _ (by simp [noTokL, AVal.noTok, Tag.below, hr2])]; exact hh) (by rw [sealL_noTok _ (by simp [noTokL, AVal.noTok, Tag.below, hr2])]; simp [noOutL, AVal.noOut, hr1]) (by simp [AVal.noOut, ho1]) (by simp [AVal.noTok, Tag.below, ho2]) (fun r τ hq => hq) σ
        exact hE.drop k γ w _ hi (.cons (Rep.sliceNil (tag := .full) trivial (.inr rfl)) hrest)
      · obtain ⟨b, rfl, hb2⟩ := hb (by omega)
        obtain ⟨ws, junk, T, cap', g1, g2, g3, g4, g5, g6, g7, g8, g9⟩ := hi.objb (i := .out k) hk hb2
        rw [hc] at g5
        cases g5
        have hlw := g2.length
        rw [flat_length g3] at hlw
        have hlt : b < w.heap.size := block_lt g1
        let γ0 : Gh := { imm := γ.imm, obj := fun i => if i = .out 0 then some b else none, own := fun _ => .free }
        have hi0 : Inv γ0 w (Sto.one (.cells (flat es ++ List.replicate junk.length .undef))).O (Sto.one (.cells (flat es ++ List.replicate junk.length .undef))).own 1 0 := by
          have hO : ∀ i x, (Sto.one (.cells (flat es ++ List.replicate junk.length .undef))).O i = some x → i = .out 0 ∧ x = .cells (flat es ++ List.replicate junk.length .undef) := fun i x hx => by
            cases i with
            | loc j => cases hx
            | out n =>
              simp only [Sto.O, Sto.one] at hx
              split at hx
              · rename_i e; subst e; cases hx; exact ⟨rfl, rfl⟩
              · cases hx
          refine ⟨hi.imm, fun i x hx => ?_, fun i j x y b' hx hy _ _ => ?_, fun p n hp => (by cases hp), fun p q n m b hp => (by cases hp), fun i x p n b hx hp => (by cases hp), fun n hn => ?_, fun p _ => rfl, hi.amb⟩
          · obtain ⟨rfl, rfl⟩ := hO i x hx
            refine .inr ⟨b, by simp [γ0], ws ++ junk, T, g1, RepL.append (RepL.undefs _ _ _ _ _ rfl) (RepL.closed g2 (by rw [noOut_flat]; exact he1) (by rw [noTok_flat]; exact he2) fun _ _ h => h), g4, g9⟩
          · rw [(hO i x hx).1, (hO j y hy).1]
          · have : n ≠ 0 := by omega
            simp [γ0, this]
        have hrest0 : RepL γ0 w false rest vs := RepL.closed hrest hr1 hr2 fun _ _ h => h
        have hcall := h1 junk.length cap hn (by rw [← g6, List.length_append, ← hlw]) (by simp [maxLen] at g8; omega)
        refine (hcall γ0 w _ hi0 (.cons (Rep.arr (off' := 0) (by simp [γ0]) (.inr rfl) hn (fun _ => rfl)) hrest0)).mono fun e w' ⟨u, r, γ', τ, he, hrep, hinv, hev, hq⟩ => ?_
        have hmut : ∀ b', Mut γ0 (Sto.one (.cells (flat es ++ List.replicate junk.length .undef))).O (Sto.one (.cells (flat es ++ List.replicate junk.length .undef))).own b' → b' = b := fun b' hb' => by
          rcases hb' with ⟨i, x, _, hbi⟩ | ⟨p, n, hp, _⟩
          · simp only [γ0] at hbi
            split at hbi
            · cases hbi; rfl
            · cases hbi
          · cases hp
        have hold : ∀ b', b' < w.heap.size → b' ≠ b → w'.heap[b']? = w.heap[b']? := fun b' hb' hne => hev.old b' hb' (fun h => hne (hmut b' h))
        -- the frozen row
        obtain ⟨I, hI1, hI2, hI3, hrv⟩ : ∃ I : Nat → Nat → Prop, (∀ b' o, γ'.imm b' o → I b' o) ∧ (∀ b' o, I b' o → γ.imm b' o ∨ w.heap.size ≤ b' ∨ b' = b) ∧ (∀ b' o, I b' o → b' < w'.heap.size) ∧
            Rep { imm := I, obj := γ'.obj, own := γ'.own } w' false (.slice es' s .ro) u := by
          have hbase : ∀ b' o, γ'.imm b' o → γ.imm b' o ∨ w.heap.size ≤ b' ∨ b' = b := fun b' o h => by
            rcases hev.new b' o h with h2 | h2 | h2
            · exact .inl h2
            · exact .inr (.inl h2)
            · exact .inr (.inr (hmut b' h2))
          rcases hq with hq | ⟨o, cp, tl, rfl, hτ, hcp⟩
          · exact ⟨γ'.imm, fun _ _ h => h, hbase, hinv.imm, hq _ _ _ _ hrep⟩
          · cases hrep with
            | @arr _ _ _ off' _ _ b' hb' hoo hnc h00 =>
              obtain ⟨us, T', k1, k2, k3, k4⟩ := hinv.objb (i := .out o) hτ hb'
              have hlu := k2.length
              refine ⟨fun b1 o1 => γ'.imm b1 o1 ∨ (b1 = b' ∧ ∃ v, w'.cell? ⟨b1, o1, none⟩ = some v), fun _ _ h => .inl h, fun b1 o1 h => ?_, fun b1 o1 h => h.elim (hinv.imm b1 o1) (fun h => h.2.elim fun _ hv => World.block_lt_of_cell? w' ⟨b1, o1, none⟩ hv), ?_⟩
              · rcases h with h | ⟨rfl, _⟩
                · exact hbase b1 o1 h
                · rcases hev.mutd b1 (.inl ⟨.out o, _, hτ, hb'⟩) with h2 | h2
                  · exact .inr (.inr (hmut b1 h2))
                  · exact .inr (.inl h2)
              · by_cases hcz : cp = 0
                · subst hcz
                  have : es' = [] := List.eq_nil_of_length_eq_zero (by omega)
                  subst this
                  exact .sliceNil trivial (.inr rfl)
                · obtain rfl := h00 (by omega)
                  have hsp := (RepL.split k2).1
                  refine .sliceRow (RepL.mono ⟨fun b1 o1 h => ⟨.inl h, rfl⟩, fun _ _ _ h => h, fun p => OwnStep.refl _⟩ hsp) hes' (fun j v hj => ?_) (fun v hv => k3 v (List.mem_of_mem_take hv)) hnc (by simp [maxLen]; omega) trivial
                  have hcell : w'.cell? ⟨b', 0 + j, none⟩ = some v := by
                    simp only [World.cell?, k1, Nat.zero_add]
                    simp only [Option.isSome_none, Bool.false_eq_true, if_false]
                    rw [List.getElem?_toArray]
                    rw [List.getElem?_take] at hj
                    split at hj
                    · exact hj
                    · cases hj
                  exact ⟨.inr ⟨rfl, v, hcell⟩, hcell⟩
        have hext : ∀ l, Ext l γ w { imm := I, obj := γ.obj, own := γ.own } w' := fun l => ⟨fun b' o h => ⟨hI1 b' o (hev.ext.imm b' o h).1, (hev.ext.imm b' o h).2⟩, fun _ _ _ h => h, fun p => OwnStep.refl _⟩
        have hnoti : ∀ b' o, b' < w.heap.size → b' ≠ b → I b' o → γ.imm b' o := fun b' o h2 h3 h => by
          rcases hI2 b' o h with h4 | h4 | h4
          · exact h4
          · omega
          · exact (h3 h4).elim
        have hO : ∀ i x, (σ.del k).O i = some x → σ.O i = some x ∧ i ≠ .out k := fun i x hx => by
          cases i with
          | loc j => cases hx
          | out n =>
            simp only [Sto.O, Sto.del] at hx ⊢
            split at hx
            · cases hx
            · rename_i hne; exact ⟨hx, fun e => hne (by cases e; rfl)⟩
        refine ⟨u, .slice es' s .ro, { imm := I, obj := γ.obj, own := γ.own }, σ.del k, he, Rep.closed hrv (by simp [AVal.noOut, ho1]) (by simp [AVal.noTok, Tag.below, ho2]) (fun _ _ h => h), ?_, ?_, rfl, rfl⟩
        · refine ⟨hI3, fun i x hx => ?_, fun i j x y b' hx hy => hi.inj i j x y b' (hO i x hx).1 (hO j y hy).1, fun p n hp => ?_, hi.ownInj, fun i x p n b' hx => hi.apart i x p n b' (hO i x hx).1, hi.freshO, hi.freshW, hi.amb.mono (hext true) hev.size⟩
          · obtain ⟨hx1, hx2⟩ := hO i x hx
            rcases hi.obj i x hx1 with h2 | ⟨b', hb', hok⟩
            · exact .inl h2
            have hbb : b' ≠ b := fun e => hx2 (hi.inj i (.out k) x _ b' hx1 hk hb' (e ▸ hb2))
            exact .inr ⟨b', hb', hok.mono (hext _) (hold b' hok.lt hbb) (fun o ho => hok.notImm o (hnoti b' o hok.lt hbb ho))⟩
          · have hok := hi.own p n hp
            have hbb : ∀ b', (γ.own p).blk = some b' → b' ≠ b := fun b' hb' e => hi.apart (.out k) _ p n b' hk hp (e ▸ hb2) hb'
            exact hok.mono (fun b' hb' => hold b' (hok.lt hb') (hbb b' hb')) (fun b' o hb' ho => hnoti b' o (hok.lt hb') (hbb b' hb') ho)
        · refine ⟨hev.os, hev.tape, hev.output, hev.size, fun b' hb' hm => hold b' hb' (fun e => hm (.inl ⟨.out k, _, hk, e ▸ hb2⟩)), hext false, fun b' o h => ?_, fun b' hb' => .inl (Mut.sub (fun i x hx => (hO i x hx).1) hb')⟩
          rcases hI2 b' o h with h2 | h2 | h2
          · exact .inl h2
          · exact .inr (.inl h2)
          · exact .inr (.inr (.inl ⟨.out k, _, hk, h2 ▸ hb2⟩))
end Go.AL
