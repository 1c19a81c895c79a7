/-
  Seat 12 (limbo): a limbo and the reference's side by side.
-/
import Derived.Test.YtakidnohmfebmaaMi
import Derived.Test.YtakidnohmfebmaaA20
namespace Go.Proofs.Ytakidnohmfebmaa
open Go.AL
set_option linter.unusedSimpArgs false
set_option linter.unusedVariables false
def Both (w0 w : World) (p q : Nat) (row : List Key) (m l : List (Key × Int)) (X : Nat → Prop) : Prop :=
  ∃ N1 γ1 N2 γ2, Two w0 γ1 (limS N1 row m) γ2 (refS N2 l) w X ∧ γ1.obj (.out 1) = some p ∧ γ2.obj (.out 0) = some q
section
variable {w0 w : World} {p q : Nat} {row : List Key} {m l : List (Key × Int)} {X : Nat → Prop}
theorem Both.known (h : Both w0 w p q row m l X) : Known w := by
  obtain ⟨N1, γ1, N2, γ2, h, _⟩ := h
  exact h.known
theorem Both.bel (h : Both w0 w p q row m l X) : Go.RowKit.Below w0.heap.size w0 w := by
  obtain ⟨N1, γ1, N2, γ2, h, _⟩ := h
  exact h.l.below
theorem Both.out (h : Both w0 w p q row m l X) {w' : World} {X' : Nat → Prop} (ho : w'.os = w.os) (ht : w'.tape = w.tape) (hp : w'.output = w.output) (hs : w.heap.size ≤ w'.heap.size)
    (hb : ∀ b, b < w.heap.size → ¬ X b → w'.heap[b]? = w.heap[b]?) (hX : ∀ b, X' b → X b ∨ (w.heap.size ≤ b ∧ b < w'.heap.size)) : Both w0 w' p q row m l X' := by
  obtain ⟨N1, γ1, N2, γ2, h, h1, h2⟩ := h
  exact ⟨N1, γ1, N2, γ2, h.out ho ht hp hs hb hX, h1, h2⟩
theorem Both.grow (h : Both w0 w p q row m l X) {w' : World} (hb : Go.RowKit.Below w.heap.size w w') : Both w0 w' p q row m l X :=
  h.out hb.os hb.tape hb.output hb.size (fun b hlt _ => hb.block b hlt) fun b hx => .inl hx
theorem Both.less (h : Both w0 w p q row m l X) {X' : Nat → Prop} (hX : ∀ b, X' b → X b) : Both w0 w p q row m l X' :=
  h.out rfl rfl rfl (Nat.le_refl _) (fun _ _ _ => rfl) fun b hx => .inl (hX b hx)
theorem Both.retire (h : Both w0 w p q row m l X) (e : Int) {v : Value} {ks : List Key} (hv : Rep (Gh.top w0) w0 false (.slice (kv ks) 4 .ro) v) (hl : row.length + ks.length ≤ 1000000000) :
    Calls Try.prog 8 #[lptr p, .int .i64 e, v] w fun x w' => x = .returned (.tuple #[]) ∧ Both w0 w' p q (retN e ks (0, row, m)).2.1 (retN e ks (0, row, m)).2.2 l X ∧ (∀ b, X b → w'.heap[b]? = w.heap[b]?) ∧ w.heap.size ≤ w'.heap.size := by
  obtain ⟨N1, γ1, N2, γ2, h, h1, h2⟩ := h
  refine (h.call (retire_c N1 row m e ks hl) (.cons (.ptr h1 (.inr rfl)) (.cons (.int _ _ _) (.cons (hv.mono h.l.ext) (.nil _))))).mono ?_
  rintro x w' ⟨u, r, γ', τ, rfl, g2, ⟨rfl, rfl⟩, g3, g4, g5, g6, g7⟩
  have hN : ∀ (ks : List Key) (a b : Nat) (row : List Key) (m : List (Key × Int)), (retN e ks (a, row, m)).2 = (retN e ks (b, row, m)).2 := by
    intro ks
    induction ks with
    | nil => intro a b row m; rfl
    | cons k ks ih =>
      intro a b row m
      simp only [retN, List.foldl_cons, retStep] at ih ⊢
      split <;> exact ih _ _ _ _
  rw [← hN ks N1 0 row m]
  cases g2 with
  | tuple g2 => cases g2; exact ⟨rfl, ⟨_, γ', N2, γ2, g3, g4.obj _ _ (.inr rfl) h1, h2⟩, g5, g7⟩
theorem Both.take (h : Both w0 w p q row m l X) (e : Int) (hl : row.length ≤ 1000000000) :
    Calls Try.prog 11 #[lptr p, .int .i64 e] w fun x w' => ∃ N1 γ1 N2 γ2 u, x = .returned u ∧ Rep γ1 w' false (.slice (kv (row.filter (below m e))) 4 .ro) u ∧
      Two w0 γ1 (limS N1 (row.filter fun k => !below m e k) (delAll (row.filter (below m e)) m)) γ2 (refS N2 l) w' X ∧ γ1.obj (.out 1) = some p ∧ γ2.obj (.out 0) = some q ∧ (∀ b, X b → w'.heap[b]? = w.heap[b]?) ∧ w.heap.size ≤ w'.heap.size := by
  obtain ⟨N1, γ1, N2, γ2, h, h1, h2⟩ := h
  refine (h.call (take_c N1 row m e hl) (.cons (.ptr h1 (.inr rfl)) (.cons (.int _ _ _) (.nil _)))).mono ?_
  rintro x w' ⟨u, r, γ', τ, rfl, g2, ⟨rfl, rfl⟩, g3, g4, g5, g6, g7⟩
  exact ⟨_, γ', N2, γ2, u, rfl, g2, g3, g4.obj _ _ (.inr rfl) h1, h2, g5, g7⟩
theorem Both.back (h : Both w0 w p q row m l X) {v : Value} {ks : List Key} (hv : Rep (Gh.top w0) w0 false (.slice (kv ks) 4 .ro) v) (hl : row.length ≤ 1000000000) (hk : ks.length ≤ 1000000000) :
    Calls Try.prog 12 #[lptr p, v] w fun x w' => x = .returned (.int .i64 ((row.filter fun k => ks.contains k).length : Int)) ∧
      Both w0 w' p q (row.filter fun k => !ks.contains k) (delAll (row.filter fun k => ks.contains k) m) l X ∧ (∀ b, X b → w'.heap[b]? = w.heap[b]?) ∧ w.heap.size ≤ w'.heap.size := by
  obtain ⟨N1, γ1, N2, γ2, h, h1, h2⟩ := h
  refine (h.call (back_c N1 row m ks hl (by omega)) (.cons (.ptr h1 (.inr rfl)) (.cons (hv.mono h.l.ext) (.nil _)))).mono ?_
  rintro x w' ⟨u, r, γ', τ, rfl, g2, ⟨rfl, rfl⟩, g3, g4, g5, g6, g7⟩
  cases g2
  exact ⟨rfl, ⟨_, γ', N2, γ2, g3, g4.obj _ _ (.inr rfl) h1, h2⟩, g5, g7⟩
theorem Both.len (h : Both w0 w p q row m l X) :
    Calls Try.prog 10 #[lptr p] w fun x w' => x = .returned (.int .i64 row.length) ∧ Both w0 w' p q row m l X ∧ (∀ b, X b → w'.heap[b]? = w.heap[b]?) ∧ w.heap.size ≤ w'.heap.size := by
  obtain ⟨N1, γ1, N2, γ2, h, h1, h2⟩ := h
  refine (h.call (lenK N1 row m) (.cons (.ptr h1 (.inr rfl)) (.nil _))).mono ?_
  rintro x w' ⟨u, r, γ', τ, rfl, g2, ⟨rfl, rfl⟩, g3, g4, g5, g6, g7⟩
  cases g2
  exact ⟨rfl, ⟨_, γ', N2, γ2, g3, g4.obj _ _ (.inr rfl) h1, h2⟩, g5, g7⟩
theorem Both.epoch (h : Both w0 w p q row m l X) (k : Key) :
    Calls Try.prog 9 #[lptr p, keyVal k] w fun x w' => x = .returned (.tuple #[.int .i64 ((epochOf m k).getD 0), .bool (epochOf m k).isSome]) ∧ Both w0 w' p q row m l X ∧ (∀ b, X b → w'.heap[b]? = w.heap[b]?) ∧ w.heap.size ≤ w'.heap.size := by
  obtain ⟨N1, γ1, N2, γ2, h, h1, h2⟩ := h
  refine (h.call (epochK N1 row m k) (.cons (.ptr h1 (.inr rfl)) (.cons (rep_key _ _ _ k) (.nil _)))).mono ?_
  rintro x w' ⟨u, r, γ', τ, rfl, g2, ⟨rfl, rfl⟩, g3, g4, g5, g6, g7⟩
  cases g2 with
  | tuple g2 =>
    cases g2 with
    | cons a1 g2 => cases g2 with
      | cons a2 g2 => cases g2; cases a1; cases a2; exact ⟨rfl, ⟨_, γ', N2, γ2, g3, g4.obj _ _ (.inr rfl) h1, h2⟩, g5, g7⟩
theorem Both.retireR (h : Both w0 w p q row m l X) (e : Int) (k : Key) (hl : l.length ≤ 100000000) :
    Calls Try.prog 13 #[lptr q, .int .i64 e, keyVal k] w fun x w' => x = .returned (.tuple #[]) ∧ Both w0 w' p q row m (retRl e k l) X ∧ (∀ b, X b → w'.heap[b]? = w.heap[b]?) ∧ w.heap.size ≤ w'.heap.size := by
  obtain ⟨N1, γ1, N2, γ2, h, h1, h2⟩ := h
  refine (h.flip.call (retR_c N2 l e k hl) (.cons (.ptr h2 (.inr rfl)) (.cons (.int _ _ _) (.cons (rep_key _ _ _ k) (.nil _))))).mono ?_
  rintro x w' ⟨u, r, γ', τ, rfl, g2, ⟨rfl, N', rfl⟩, g3, g4, g5, g6, g7⟩
  cases g2 with
  | tuple g2 => cases g2; exact ⟨rfl, ⟨N1, γ1, N', γ', g3.flip, h1, g4.obj _ _ (.inr rfl) h2⟩, g5, g7⟩
theorem Both.backR (h : Both w0 w p q row m l X) (k : Key) (hl : l.length ≤ 100000000) :
    Calls Try.prog 16 #[lptr q, keyVal k] w fun x w' => x = .returned (.int .i64 (backRn k l)) ∧ Both w0 w' p q row m (backRl k l) X ∧ (∀ b, X b → w'.heap[b]? = w.heap[b]?) ∧ w.heap.size ≤ w'.heap.size := by
  obtain ⟨N1, γ1, N2, γ2, h, h1, h2⟩ := h
  refine (h.flip.call (backR_c N2 l k hl) (.cons (.ptr h2 (.inr rfl)) (.cons (rep_key _ _ _ k) (.nil _)))).mono ?_
  rintro x w' ⟨u, r, γ', τ, rfl, g2, ⟨rfl, N', rfl⟩, g3, g4, g5, g6, g7⟩
  cases g2
  exact ⟨rfl, ⟨N1, γ1, N', γ', g3.flip, h1, g4.obj _ _ (.inr rfl) h2⟩, g5, g7⟩
theorem Both.findR (h : Both w0 w p q row m l X) (k : Key) (hl : l.length ≤ 100000000) :
    Calls Try.prog 17 #[lptr q, keyVal k] w fun x w' => x = .returned (.int .i64 (findN l k)) ∧ Both w0 w' p q row m l X ∧ (∀ b, X b → w'.heap[b]? = w.heap[b]?) ∧ w.heap.size ≤ w'.heap.size := by
  obtain ⟨N1, γ1, N2, γ2, h, h1, h2⟩ := h
  refine (h.flip.call (find_c N2 l k (by omega)) (.cons (.ptr h2 (.inr rfl)) (.cons (rep_key _ _ _ k) (.nil _)))).mono ?_
  rintro x w' ⟨u, r, γ', τ, rfl, g2, ⟨rfl, rfl⟩, g3, g4, g5, g6, g7⟩
  cases g2
  exact ⟨rfl, ⟨N1, γ1, N2, γ', g3.flip, h1, g4.obj _ _ (.inr rfl) h2⟩, g5, g7⟩
theorem Both.epochsR (h : Both w0 w p q row m l X) (hl : l.length ≤ 100000000) :
    Calls Try.prog 19 #[lptr q] w fun x w' => (∃ u, x = .returned u ∧ IntsP w' u (epl l)) ∧ Both w0 w' p q row m l X ∧ (∀ b, X b → w'.heap[b]? = w.heap[b]?) ∧ w.heap.size ≤ w'.heap.size := by
  obtain ⟨N1, γ1, N2, γ2, h, h1, h2⟩ := h
  refine (h.flip.call (epsR_c N2 l hl) (.cons (.ptr h2 (.inr rfl)) (.nil _))).mono ?_
  rintro x w' ⟨u, r, γ', τ, rfl, g2, ⟨rfl, rfl⟩, g3, g4, g5, g6, g7⟩
  exact ⟨⟨u, rfl, rep_ints g2⟩, ⟨N1, γ1, N2, γ', g3.flip, h1, g4.obj _ _ (.inr rfl) h2⟩, g5, g7⟩
theorem Two.takeR {N1 N2 : Nat} {γ1 γ2 : Gh} (h : Two w0 γ1 (limS N1 row m) γ2 (refS N2 l) w X) (h1 : γ1.obj (.out 1) = some p) (h2 : γ2.obj (.out 0) = some q) (e : Int) (hl : l.length ≤ 100000000) :
    Calls Try.prog 15 #[lptr q, .int .i64 e] w fun x w' => (∃ γ2 u, x = .returned u ∧ Rep γ2 w' false (.slice (kv ((l.filter fun x => decide (x.2 < e)).map (·.1))) 4 .ro) u) ∧
      Both w0 w' p q row m (l.filter fun x => !decide (x.2 < e)) X ∧ (∀ b, X b → w'.heap[b]? = w.heap[b]?) ∧ w.heap.size ≤ w'.heap.size ∧ ∀ l, Ext l γ1 w γ1 w' := by
  refine (h.flip.call (takeR_c N2 l e hl) (.cons (.ptr h2 (.inr rfl)) (.cons (.int _ _ _) (.nil _)))).mono ?_
  rintro x w' ⟨u, r, γ', τ, rfl, g2, ⟨rfl, N', rfl⟩, g3, g4, g5, g6, g7⟩
  exact ⟨⟨γ', u, rfl, g2⟩, ⟨N1, γ1, N', γ', g3.flip, h1, g4.obj _ _ (.inr rfl) h2⟩, g5, g7, g6⟩
/-- Rows of keys, however they came, as they lie now. -/
theorem top_keys {γ : Gh} {ks : List Key} {v : Value} {b : Bool} (h : Rep γ w b (.slice (kv ks) 4 .ro) v) : Rep (Gh.top w) w false (.slice (kv ks) 4 .ro) v := by
  generalize he : kv ks = es at h
  cases h with
  | @sliceRow _ _ _ _ b off cap vs h1 h2 h3 h4 h5 h6 h7 =>
    subst he
    refine .sliceRow (es := kv ks) (vs := vs) ?_ h2 (fun j v hj => ⟨World.block_lt_of_cell? _ _ (h3 j v hj).2, (h3 j v hj).2⟩) h4 h5 h6 trivial
    have key : ∀ (ks : List Key) (vs : List Value), RepL γ w false (flat (kv ks)) vs → RepL (Gh.top w) w false (flat (kv ks)) vs := by
      intro ks
      induction ks with
      | nil => intro vs h; cases h; exact .nil _
      | cons k ks ih =>
        intro vs h
        have hk : flat (kv (k :: ks)) = keyC k ++ flat (kv ks) := rfl
        rw [hk] at h ⊢
        obtain ⟨a1, a2⟩ := h.split
        have e1 := repL_keyV a1
        have := RepL.append (ih _ a2) (repL_key (Gh.top w) w false k)
        rw [← e1] at this
        rwa [List.take_append_drop] at this
    exact key ks vs h1
  | sliceNil ht ho => exact .sliceNil trivial (.inr rfl)
theorem same_w (hA : Known w) {γ γ' : Gh} {xs ys : List Key} {u v : Value} (hu : Rep γ w false (.slice (kv xs) 4 .ro) u) (hv : Rep γ' w false (.slice (kv ys) 4 .ro) v) (hl : xs.length ≤ 140737488351232) :
    Calls Try.prog 14 #[u, v] w fun e w' => e = .returned (.bool (xs == ys)) ∧ Go.RowKit.Below w.heap.size w w' :=
  ((same_c xs ys hl).top hA (.cons (top_keys hu) (.cons (top_keys hv) (.nil _)))).mono fun e w' ⟨v, r, γ', σ', h1, h2, h3, h4⟩ => by
    have := h3 γ' w' false v h2
    cases this
    exact ⟨h1, h4⟩
end
end Go.Proofs.Ytakidnohmfebmaa
