/-
  Seat 12 (limbo): the law LimboOnce, walked with the kit.
-/
import Derived.Test.YtakidnohmfebmaaLK
namespace Go.Proofs.Ytakidnohmfebmaa
open Go.AL
set_option linter.unusedSimpArgs false
set_option linter.unusedVariables false
/-- A limbo in a walk of the kit's. -/
structure LimH (w0 : World) (γ : Gh) (w : World) (p : Nat) (X : Nat → Prop) (N : Nat) (row : List Key) (m : List (Key × Int)) : Prop where
  held : Held w0 γ w (limS N row m) X
  at1 : γ.obj (.out 1) = some p
abbrev lptr (p : Nat) : Value := .pointer (some ⟨p, 0, none⟩)
section
variable {w0 w : World} {γ : Gh} {p N : Nat} {X : Nat → Prop} {row : List Key} {m : List (Key × Int)}
theorem LimH.rep (h : LimH w0 γ w p X N row m) : Rep γ w false (.ptr (.out 1) 0) (lptr p) := .ptr h.at1 (.inr rfl)
theorem LimH.out (h : LimH w0 γ w p X N row m) {w' : World} {X' : Nat → Prop} (ho : w'.os = w.os) (ht : w'.tape = w.tape) (hp : w'.output = w.output) (hs : w.heap.size ≤ w'.heap.size)
    (hb : ∀ b, b < w.heap.size → ¬ X b → w'.heap[b]? = w.heap[b]?) (hX : ∀ b, X' b → X b ∨ (w.heap.size ≤ b ∧ b < w'.heap.size)) : LimH w0 γ w' p X' N row m := ⟨h.held.out ho ht hp hs hb hX, h.at1⟩
theorem LimH.grow (h : LimH w0 γ w p X N row m) {w' : World} (hb : Go.RowKit.Below w.heap.size w w') : LimH w0 γ w' p X N row m := ⟨h.held.grow hb, h.at1⟩
theorem LimH.map (h : LimH w0 γ w p X N row m) {w' : World} {b : Nat} (hb : MapChg w w' b) (hX : X b) : LimH w0 γ w' p X N row m :=
  h.out hb.os hb.tape hb.output (Nat.le_of_eq hb.size.symm) (fun c _ hc => hb.block c fun e => hc (e ▸ hX)) fun b hx => .inl hx
/-- What a call that the layer has a contract of leaves. -/
theorem LimH.next (h : LimH w0 γ w p X N row m) {γ' : Gh} {w' : World} {N' : Nat} {row' : List Key} {m' : List (Key × Int)} (h' : Held w0 γ' w' (limS N' row' m') X) (he : Ext false γ w γ' w') : LimH w0 γ' w' p X N' row' m' :=
  ⟨h', he.obj _ _ (.inr rfl) h.at1⟩
theorem retire_h (h : LimH w0 γ w p X N row m) (e : Int) {v : Value} {ks : List Key} (hv : Rep γ w false (.slice (kv ks) 4 .ro) v) (hl : row.length + ks.length ≤ 1000000000) :
    Calls Try.prog 8 #[lptr p, .int .i64 e, v] w fun x w' => x = .returned (.tuple #[]) ∧ (∃ γ', LimH w0 γ' w' p X (retN e ks (N, row, m)).1 (retN e ks (N, row, m)).2.1 (retN e ks (N, row, m)).2.2) ∧
      (∀ b, X b → w'.heap[b]? = w.heap[b]?) ∧ w.heap.size ≤ w'.heap.size := by
  refine (h.held.call (retire_c N row m e ks hl) (.cons h.rep (.cons (.int _ _ _) (.cons hv (.nil _))))).mono ?_
  rintro x w' ⟨u, r, γ', τ, rfl, h2, ⟨rfl, rfl⟩, h3, h4, h5, h6⟩
  cases h2 with
  | tuple h2 => cases h2; exact ⟨rfl, ⟨γ', h.next h3 h4⟩, h5, h6⟩
theorem take_h (h : LimH w0 γ w p X N row m) (e : Int) (hl : row.length ≤ 1000000000) :
    Calls Try.prog 11 #[lptr p, .int .i64 e] w fun x w' => ∃ u γ', x = .returned u ∧ Rep γ' w' false (.slice (kv (row.filter (below m e))) 4 .ro) u ∧
      LimH w0 γ' w' p X (N + 2) (row.filter fun k => !below m e k) (delAll (row.filter (below m e)) m) ∧ (∀ b, X b → w'.heap[b]? = w.heap[b]?) ∧ w.heap.size ≤ w'.heap.size := by
  refine (h.held.call (take_c N row m e hl) (.cons h.rep (.cons (.int _ _ _) (.nil _)))).mono ?_
  rintro x w' ⟨u, r, γ', τ, rfl, h2, ⟨rfl, rfl⟩, h3, h4, h5, h6⟩
  exact ⟨u, γ', rfl, h2, h.next h3 h4, h5, h6⟩
theorem back_h (h : LimH w0 γ w p X N row m) {v : Value} {ks : List Key} (hv : Rep γ w false (.slice (kv ks) 4 .ro) v) (hl : row.length ≤ 1000000000) (hk : ks.length ≤ 140737488351232) :
    Calls Try.prog 12 #[lptr p, v] w fun x w' => x = .returned (.int .i64 ((row.filter fun k => ks.contains k).length : Int)) ∧
      (∃ γ', LimH w0 γ' w' p X (N + 2) (row.filter fun k => !ks.contains k) (delAll (row.filter fun k => ks.contains k) m)) ∧ (∀ b, X b → w'.heap[b]? = w.heap[b]?) ∧ w.heap.size ≤ w'.heap.size := by
  refine (h.held.call (back_c N row m ks hl hk) (.cons h.rep (.cons hv (.nil _)))).mono ?_
  rintro x w' ⟨u, r, γ', τ, rfl, h2, ⟨rfl, rfl⟩, h3, h4, h5, h6⟩
  cases h2
  exact ⟨rfl, ⟨γ', h.next h3 h4⟩, h5, h6⟩
theorem len_h (h : LimH w0 γ w p X N row m) :
    Calls Try.prog 10 #[lptr p] w fun x w' => x = .returned (.int .i64 row.length) ∧ (∃ γ', LimH w0 γ' w' p X N row m) ∧ (∀ b, X b → w'.heap[b]? = w.heap[b]?) ∧ w.heap.size ≤ w'.heap.size := by
  refine (h.held.call (lenK N row m) (.cons h.rep (.nil _))).mono ?_
  rintro x w' ⟨u, r, γ', τ, rfl, h2, ⟨rfl, rfl⟩, h3, h4, h5, h6⟩
  cases h2
  exact ⟨rfl, ⟨γ', h.next h3 h4⟩, h5, h6⟩
theorem epoch_h (h : LimH w0 γ w p X N row m) (k : Key) :
    Calls Try.prog 9 #[lptr p, keyVal k] w fun x w' => x = .returned (.tuple #[.int .i64 ((epochOf m k).getD 0), .bool (epochOf m k).isSome]) ∧ (∃ γ', LimH w0 γ' w' p X N row m) ∧ (∀ b, X b → w'.heap[b]? = w.heap[b]?) ∧ w.heap.size ≤ w'.heap.size := by
  refine (h.held.call (epochK N row m k) (.cons h.rep (.cons (rep_key _ _ _ k) (.nil _)))).mono ?_
  rintro x w' ⟨u, r, γ', τ, rfl, h2, ⟨rfl, rfl⟩, h3, h4, h5, h6⟩
  cases h2 with
  | tuple h2 =>
    cases h2 with
    | cons a1 h2 => cases h2 with
      | cons a2 h2 => cases h2; cases a1; cases a2; exact ⟨rfl, ⟨γ', h.next h3 h4⟩, h5, h6⟩
/-- A row of one key, laid by the walk. -/
theorem one_h (h : LimH w0 γ w p X N row m) (k : Key) (T : TypeId) : ∃ γ', LimH w0 γ' (w.alloc (.cells #[.int .i64 k.1, .int .i64 k.2.1, .int .i64 k.2.2.1, .string ⟨k.2.2.2.toArray⟩] T)) p X N row m ∧
    Rep γ' (w.alloc (.cells #[.int .i64 k.1, .int .i64 k.2.1, .int .i64 k.2.2.1, .string ⟨k.2.2.2.toArray⟩] T)) false (.slice (kv [k]) 4 .ro) (.slice (some ⟨w.heap.size, 0, none⟩) 1 1) := by
  have hb := (Go.RowKit.Below.refl w.heap.size w).alloc (Nat.le_refl _) (.cells #[.int .i64 k.1, .int .i64 k.2.1, .int .i64 k.2.2.1, .string ⟨k.2.2.2.toArray⟩] T)
  have h1 := h.grow hb
  have h2 : LimH w0 { γ with imm := fun c o => γ.imm c o ∨ c = w.heap.size } (w.alloc (.cells #[.int .i64 k.1, .int .i64 k.2.1, .int .i64 k.2.2.1, .string ⟨k.2.2.2.toArray⟩] T)) p X N row m := by
    refine ⟨h1.held.froze w.heap.size (by simp) (h.held.new (Nat.le_refl _)) fun c hc => ⟨hc, fun e => ?_⟩, h1.at1⟩
    have := (h.held.apart c hc).2.1
    omega
  refine ⟨_, h2, ?_⟩
  have hc : cellsAt { γ with imm := fun c o => γ.imm c o ∨ c = w.heap.size } (w.alloc (.cells #[.int .i64 k.1, .int .i64 k.2.1, .int .i64 k.2.2.1, .string ⟨k.2.2.2.toArray⟩] T)) w.heap.size 0 (keyCs k) := by
    intro j v hj
    refine ⟨.inr rfl, ?_⟩
    rw [World.cell?_alloc_at _ _ _ _ rfl]
    simpa [keyCs] using hj
  exact .sliceRow (es := kv [k]) (repL_key _ _ _ k) (fun e he => by simp [kv] at he; subst he; rfl) hc (by
    intro v hv
    simp [keyCs] at hv
    rcases hv with rfl | rfl | rfl | rfl <;> rfl) (Nat.le_refl _) (by unfold maxLen; simp) trivial
end
end Go.Proofs.Ytakidnohmfebmaa
