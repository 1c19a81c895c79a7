/-
  Seat 06 (epoch): the table's methods, walked with the kit.
-/
import Derived.Test.YtlchgobakkodbaaEW
import Derived.Test.YtlchgobakkodbaaA17
import Derived.Test.YtlchgobakkodbaaHr
import Derived.Test.YtlchgobakkodbaaH
namespace Go.Proofs
open Go.RowKit Go.Maps Go.Shelf Ytlchgobakkodbaa
set_option linter.unusedSimpArgs false
set_option linter.unusedVariables false
set_option maxHeartbeats 4000000
set_option maxRecDepth 1000000
attribute [local go_sem ↓] Go.wp_at_zero Go.wp_at_succ
def WFi (x : Int) : Prop := (Lit.int .i64 x).wf = true
/-- What the map says of each session. -/
def RdI (D : DataW Nat) (f : Int → Option Int) : Prop := ∀ x, WFi x → has D (.int .i64 x) = (f x).isSome ∧ ∀ v, f x = some v → ∀ zd, D.atKey (.int .i64 x) zd = .lit (.int .i64 v)
theorem RdI.nil : RdI (.map []) fun _ => none := fun x _ => ⟨rfl, fun v h => by cases h⟩
theorem keyLit (x : Int) : WideAt.IsKeyLit (.int .i64 x) := trivial
/-- One session's epoch turned. -/
def updI (f : Int → Option Int) (x : Int) (o : Option Int) : Int → Option Int := fun y => if y = x then o else f y
theorem updI_same (f : Int → Option Int) (x : Int) (o : Option Int) : updI f x o x = o := if_pos rfl
theorem updI_other (f : Int → Option Int) {x y : Int} (o : Option Int) (h : y ≠ x) : updI f x o y = f y := if_neg h
theorem RdI.put {D : DataW Nat} {f : Int → Option Int} (h : RdI D f) (hm : IsMap D) (x v : Int) : RdI (D.put (.int .i64 x) (.lit (.int .i64 v))) (updI f x (some v)) := fun y hy => by
  by_cases e : y = x
  · subst e
    rw [updI_same]
    refine ⟨has_put_same hm (keyLit _) _, fun u hu zd => ?_⟩
    cases hu
    exact atKey_put_same hm (keyLit _) _ _
  · have hne : (Lit.int .i64 y) ≠ .int .i64 x := fun h => e (by injection h)
    rw [updI_other _ _ e, has_put_other hne]
    exact ⟨(h y hy).1, fun u hu zd => by rw [atKey_put_other hne]; exact (h y hy).2 u hu zd⟩
theorem RdI.del {D : DataW Nat} {f : Int → Option Int} (h : RdI D f) (x : Int) : RdI (D.del (.int .i64 x)) (updI f x none) := fun y hy => by
  by_cases e : y = x
  · subst e
    rw [updI_same]
    exact ⟨has_del_same, fun u hu zd => by cases hu⟩
  · have hne : (Lit.int .i64 y) ≠ .int .i64 x := fun h => e (by injection h)
    rw [updI_other _ _ e, has_del_other hne]
    exact ⟨(h y hy).1, fun u hu zd => by rw [atKey_del_other hne]; exact (h y hy).2 u hu zd⟩
def Tab (w : World) (p b : Nat) (s g : Int) (f : Int → Option Int) (C : Nat) : Prop := ∃ D, TabP w p b s g D C ∧ RdI D f
structure ChgT (p b : Nat) (w w' : World) : Prop where
  os : w'.os = w.os
  tape : w'.tape = w.tape
  output : w'.output = w.output
  size : w.heap.size ≤ w'.heap.size
  block : ∀ k, k < w.heap.size → k ≠ p → k ≠ b → w'.heap[k]? = w.heap[k]?
theorem ChgT.trans {p b : Nat} {w w1 w2 : World} (h : ChgT p b w w1) (k : ChgT p b w1 w2) : ChgT p b w w2 :=
  ⟨k.os.trans h.os, k.tape.trans h.tape, k.output.trans h.output, Nat.le_trans h.size k.size, fun j hj hp hb => (k.block j (Nat.lt_of_lt_of_le hj h.size) hp hb).trans (h.block j hj hp hb)⟩
theorem ChgT.of_below {p b : Nat} {w w' : World} (h : Below w.heap.size w w') : ChgT p b w w' := ⟨h.os, h.tape, h.output, h.size, fun k hk _ _ => h.block k hk⟩
theorem ChgT.below {p b B : Nat} {w w' : World} (h : ChgT p b w w') (hp : B ≤ p) (hb : B ≤ b) (hw : B ≤ w.heap.size) : Below B w w' := ⟨h.os, h.tape, h.output, h.size, fun k hk => h.block k (by omega) (by omega) (by omega)⟩
theorem Tab.grow {w w' : World} {p b C : Nat} {s g : Int} {f : Int → Option Int} (h : Tab w p b s g f C) (hb : Below w.heap.size w w') : Tab w' p b s g f C := by
  obtain ⟨D, ⟨h1, nn, h2, h3⟩, h4⟩ := h
  exact ⟨D, ⟨by rw [hb.block p (Array.getElem?_eq_some_iff.1 h1).1]; exact h1, nn, h2, ownsMap_grow h3 (hb.block b h3.lt)⟩, h4⟩
theorem Tab.lt {w : World} {p b C : Nat} {s g : Int} {f : Int → Option Int} (h : Tab w p b s g f C) : p < w.heap.size ∧ b < w.heap.size ∧ p ≠ b := by
  obtain ⟨D, ⟨h1, nn, h2, h3⟩, h4⟩ := h
  refine ⟨(Array.getElem?_eq_some_iff.1 h1).1, h3.lt, fun e => ?_⟩
  obtain ⟨es, clock, hb, _⟩ := h3
  rw [e, hb] at h1
  cases h1
theorem keyI (x : Int) (hx : WFi x) : keyOf Try.prog 3 (.int .i64 x) = some (.int .i64 x) := keyOf_int_mk Try.underlying3 hx
/-- Is there a session, and is it in an epoch, as is wanted? -/
def isV (s : Int) (f : Int → Option Int) (x : Int) (ins : Bool) (other : Int) : Int := if x < 0 ∨ s ≤ x then 2 else if (f x).isSome = ins then 0 else other
theorem is_walk {w : World} {p b C : Nat} {s g : Int} {f : Int → Option Int} (h : Tab w p b s g f C) (x : Int) (hx : WFi x) (ins : Bool) (other : Int) :
    Calls Try.prog 20 #[.pointer (some ⟨p, 0, none⟩), .int .i64 x, .bool ins, .int .i64 other] w fun e w' => e = .returned (.int .i64 (isV s f x ins other)) ∧ w' = w := by
  obtain ⟨D, ⟨hh, nn, hnn, hown⟩, hrd⟩ := h
  have hrx := hrd x hx
  have c0 := cells_at hh 0
  have c2 := cells_at hh 2
  simp only [List.getElem?_toArray, List.getElem?_cons_zero, List.getElem?_cons_succ] at c0 c2
  by_cases h1 : x < 0
  · rw [show isV s f x ins other = 2 from if_pos (.inl h1)]
    go_enter Try.func20, Try.ntmps20
    go_wp2
    go_ret
    exact ⟨rfl, rfl⟩
  · by_cases h2 : s ≤ x
    · rw [show isV s f x ins other = 2 from if_pos (.inr h2)]
      go_enter Try.func20, Try.ntmps20
      go_wp2
      go_ret
      exact ⟨rfl, rfl⟩
    · have hno : ¬ (x < 0 ∨ s ≤ x) := by omega
      have hh1 := hrx.1
      unfold isV
      rw [if_neg hno]
      cases hfs : (f x).isSome <;> cases ins <;> rw [hfs] at hh1 <;> simp only [if_true, if_false, Bool.false_eq_true, reduceCtorEq]
      all_goals
        go_enter Try.func20, Try.ntmps20
        go_wp2_with (first
          | (at_lookup; refine wpList_lookup_own_ok_int _ rfl _ _ 49 rfl 3 3 .i64 (int_keyed Try.underlying3) Try.underlying49 Try.underlying3 (Try.zeroValue3 _) b nn D rfl hown _ (.int .i64 x) rfl (keyI x hx) ?_; intro c hat hwc)
          | go_in)
        go_ret
        exact ⟨rfl, rfl⟩
/-- In: a session's epoch. -/
theorem in_walk {w : World} {p b C : Nat} {s g : Int} {f : Int → Option Int} (h : Tab w p b s g f C) (x : Int) (hx : WFi x) :
    Calls Try.prog 13 #[.pointer (some ⟨p, 0, none⟩), .int .i64 x] w fun e w' => e = .returned (.tuple #[.int .i64 ((f x).getD 0), .bool (f x).isSome]) ∧ w' = w := by
  obtain ⟨D, ⟨hh, nn, hnn, hown⟩, hrd⟩ := h
  have hrx := hrd x hx
  have hh1 := hrx.1
  have c2 := cells_at hh 2
  simp only [List.getElem?_toArray, List.getElem?_cons_zero, List.getElem?_cons_succ] at c2
  have hval : ∀ c : Int, D.atKey (.int .i64 x) (.lit (.int .i64 0)) = .lit (.int .i64 c) → c = (f x).getD 0 := fun c hc => by
    cases hfx : f x with
    | none =>
      rw [hfx] at hh1
      rw [atKey_of_not_has hh1] at hc
      injection hc with hc; injection hc with _ hc
      exact hc.symm
    | some v =>
      rw [hrx.2 v hfx] at hc
      injection hc with hc; injection hc with _ hc
      exact hc.symm
  generalize (f x).getD 0 = v at *
  generalize (f x).isSome = fs at *
  go_enter Try.func13, Try.ntmps13
  go_wp2_with (first
    | (at_lookup; refine wpList_lookup_own_ok_int _ rfl _ _ 49 rfl 3 3 .i64 (int_keyed Try.underlying3) Try.underlying49 Try.underlying3 (Try.zeroValue3 _) b nn D rfl hown _ (.int .i64 x) rfl (keyI x hx) ?_; intro c hat hwc; rw [hval c hat])
    | go_in)
  go_ret2
  exact ⟨rfl, rfl⟩
theorem global_walk {w : World} {p b C : Nat} {s g : Int} {f : Int → Option Int} (h : Tab w p b s g f C) :
    Calls Try.prog 10 #[.pointer (some ⟨p, 0, none⟩)] w fun e w' => e = .returned (.int .i64 g) ∧ w' = w := by
  obtain ⟨D, ⟨hh, nn, hnn, hown⟩, hrd⟩ := h
  have c1 := cells_at hh 1
  simp only [List.getElem?_toArray, List.getElem?_cons_zero, List.getElem?_cons_succ] at c1
  go_enter Try.func10, Try.ntmps10
  go_wp2
  go_ret
  exact ⟨rfl, rfl⟩
theorem newT_walk {w : World} (s g : Int) (h1 : 1 ≤ s) (h2 : s ≤ 64) (h3 : 0 ≤ g) (h4 : g ≤ 2147483647) :
    Calls Try.prog 7 #[.int .i64 s, .int .i64 g] w fun e w' => e = .returned (.tuple #[.pointer (some ⟨w.heap.size + 1, 0, none⟩), .int .i64 0]) ∧ Tab w' (w.heap.size + 1) w.heap.size s g (fun _ => none) 0 ∧ Below w.heap.size w w' := by
  have hmm := @run_makeMap Try.prog
  go_enter Try.func7, Try.ntmps7
  go_wp2
  go_ret2
  refine ⟨rfl, ⟨.map [], ⟨?_, 0, Nat.le_refl _, ?_⟩, RdI.nil⟩, ((Below.refl _ w).alloc (Nat.le_refl _) _).alloc (by simp) _⟩
  · have := heap_alloc_new (w.alloc (.map #[] 0)) (.cells #[.int .i64 s, .int .i64 g, .map (some w.heap.size)] 51)
    rwa [World.size_alloc] at this
  · exact ownsMap_grow (World.ownsMap_made w Try.prog 3 _) (Below.heap_alloc _ _ _ (by simp))
theorem newT_err {w : World} (s g : Int) (h : s < 1 ∨ 64 < s ∨ g < 0 ∨ 2147483647 < g) :
    Calls Try.prog 7 #[.int .i64 s, .int .i64 g] w fun e w' => e = .returned (.tuple #[.pointer none, .int .i64 2]) ∧ w' = w := by
  by_cases h1 : s < 1
  · go_enter Try.func7, Try.ntmps7
    go_wp2
    go_ret2
    exact ⟨rfl, rfl⟩
  by_cases h2 : 64 < s
  · go_enter Try.func7, Try.ntmps7
    go_wp2
    go_ret2
    exact ⟨rfl, rfl⟩
  by_cases h3 : g < 0
  · go_enter Try.func7, Try.ntmps7
    go_wp2
    go_ret2
    exact ⟨rfl, rfl⟩
  have h4 : 2147483647 < g := by omega
  go_enter Try.func7, Try.ntmps7
  go_wp2
  go_ret2
  exact ⟨rfl, rfl⟩
theorem enter_err {w : World} {p b C : Nat} {s g : Int} {f : Int → Option Int} (h : Tab w p b s g f C) (x : Int) (hx : WFi x) (he : isV s f x false 31 ≠ 0) :
    Calls Try.prog 9 #[.pointer (some ⟨p, 0, none⟩), .int .i64 x] w fun e w' => e = .returned (.tuple #[.int .i64 0, .int .i64 (isV s f x false 31)]) ∧ w' = w := by
  have hw := is_walk h x hx false 31
  generalize isV s f x false 31 = v at *
  go_enter Try.func9, Try.ntmps9
  go_wp2_with (go_at_call 20; refine hw.mono ?_)
  rintro e W ⟨rfl, rfl⟩
  go_wp2
  go_ret2
  exact ⟨rfl, rfl⟩
theorem enter_ok {w : World} {p b C : Nat} {s g : Int} {f : Int → Option Int} (h : Tab w p b s g f C) (hC : C ≤ 100000) (x : Int) (hx : WFi x) (hg : WFi g) (he : isV s f x false 31 = 0) :
    Calls Try.prog 9 #[.pointer (some ⟨p, 0, none⟩), .int .i64 x] w fun e w' => e = .returned (.tuple #[.int .i64 g, .int .i64 0]) ∧ Tab w' p b s g (updI f x (some g)) (C + 1) ∧ ChgT p b w w' := by
  have hw := is_walk h x hx false 31
  rw [he] at hw
  have hlt := h.lt
  obtain ⟨D, ⟨hh, nn, hnn, hown⟩, hrd⟩ := h
  have c1 := cells_at hh 1
  have c2 := cells_at hh 2
  simp only [List.getElem?_toArray, List.getElem?_cons_zero, List.getElem?_cons_succ] at c1 c2
  have hown' : w.drew.ownsMap Try.prog 3 (plainElem Try.prog 3) b nn D := hown
  obtain ⟨W1, hrun, r1, r2⟩ := hown'.update (int_keyed Try.underlying3) Try.underlying49 (by unfold maxLen; omega) (keyI x hx) (plainElem_int Try.underlying3 hg)
  have hh1 : W1.heap[p]? = some (.cells #[.int .i64 s, .int .i64 g, .map (some b)] 51 (0, 0)) := (r2.block p hlt.1 (fun e => hlt.2.2 (Option.some.inj e))).trans hh
  have e1 := cells_at hh1 1
  simp only [List.getElem?_toArray, List.getElem?_cons_zero, List.getElem?_cons_succ] at e1
  go_enter Try.func9, Try.ntmps9
  go_wp2_with (go_at_call 20; refine hw.mono ?_)
  rintro e W ⟨rfl, rfl⟩
  go_wp2
  go_region
  go_wp2
  go_ret2
  exact ⟨rfl, ⟨_, ⟨hh1, nn + 1, by omega, r1⟩, hrd.put hown.isMap x g⟩, r2.os, r2.tape, r2.output, r2.size, fun k hk h1 h2 => r2.block k hk fun e => h2 (Option.some.inj e)⟩
theorem leave_err {w : World} {p b C : Nat} {s g : Int} {f : Int → Option Int} (h : Tab w p b s g f C) (x : Int) (hx : WFi x) (he : isV s f x true 51 ≠ 0) :
    Calls Try.prog 12 #[.pointer (some ⟨p, 0, none⟩), .int .i64 x] w fun e w' => e = .returned (.int .i64 (isV s f x true 51)) ∧ w' = w := by
  have hw := is_walk h x hx true 51
  generalize isV s f x true 51 = v at *
  go_enter Try.func12, Try.ntmps12
  go_wp2_with (go_at_call 20; refine hw.mono ?_)
  rintro e W ⟨rfl, rfl⟩
  go_wp2
  go_ret
  exact ⟨rfl, rfl⟩
theorem leave_ok {w : World} {p b C : Nat} {s g : Int} {f : Int → Option Int} (h : Tab w p b s g f C) (x : Int) (hx : WFi x) (he : isV s f x true 51 = 0) :
    Calls Try.prog 12 #[.pointer (some ⟨p, 0, none⟩), .int .i64 x] w fun e w' => e = .returned (.int .i64 0) ∧ Tab w' p b s g (updI f x none) C ∧ ChgT p b w w' := by
  have hw := is_walk h x hx true 51
  rw [he] at hw
  have hlt := h.lt
  obtain ⟨D, ⟨hh, nn, hnn, hown⟩, hrd⟩ := h
  have c2 := cells_at hh 2
  simp only [List.getElem?_toArray, List.getElem?_cons_zero, List.getElem?_cons_succ] at c2
  go_enter Try.func12, Try.ntmps12
  go_wp2_with (go_at_call 20; refine hw.mono ?_)
  rintro e W ⟨rfl, rfl⟩
  go_wp2_with (first
    | (at_delete; refine wpList_delete_own _ rfl _ _ 49 3 rfl 3 (int_keyed Try.underlying3) Try.underlying49 _ b nn D rfl hown _ (.int .i64 x) rfl (keyI x hx) ?_; intro W1 hown1 hturn1)
    | go_in)
  go_ret
  have r2 := hturn1.grown
  exact ⟨rfl, ⟨_, ⟨(r2.block p hlt.1 (fun e => hlt.2.2 (Option.some.inj e))).trans hh, nn, hnn, hown1⟩, hrd.del x⟩, r2.os, r2.tape, r2.output, r2.size, fun k hk h1 h2 => r2.block k hk fun e => h2 (Option.some.inj e)⟩
end Go.Proofs
