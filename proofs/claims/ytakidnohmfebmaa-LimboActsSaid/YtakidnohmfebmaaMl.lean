/-
  Seat 12 (limbo): the epochs side by side; where a law begins; what comes in.
-/
import Derived.Test.YtakidnohmfebmaaMk
namespace Go.Proofs.Ytakidnohmfebmaa
open Go.AL
set_option linter.unusedSimpArgs false
set_option linter.unusedVariables false
theorem limParts {γ : Gh} {w : World} {N : Nat} {row : List Key} {m : List (Key × Int)} {p : Nat} (h : Inv γ w (limS N row m).O (limS N row m).own (limS N row m).nobj (limS N row m).nown) (h1 : γ.obj (.out 1) = some p) :
    ∃ b rv T, w.heap[p]? = some (.cells #[rv, .map (some b)] T (0, 0)) ∧ MapK w b m := by
  obtain ⟨p', hp', vs, T, hb, hr, _⟩ := h.objc (i := .out 1) (x := .cells [.slice (kv row) 4 (.own N), .map (.out 0)]) rfl (by simp)
  rw [h1] at hp'
  cases hp'
  cases hr with
  | cons a1 hr => cases hr with
    | cons a2 hr =>
      cases hr
      cases a2 with
      | map hb0 _ =>
        refine ⟨_, _, T, hb, ?_⟩
        obtain ⟨b', hb', ents, clock, hh, hE, hcl, hnd, _⟩ := h.objc (i := .out 0) (x := .map (mv m)) rfl (by simp)
        rw [hb0] at hb'
        cases hb'
        refine ⟨ents, clock, hh, ⟨hE.1, fun i x e hx he => ?_⟩, hcl, hnd, keysOk_mv m⟩
        obtain ⟨q1, q2⟩ := hE.2 i x e hx he
        obtain ⟨y, _, rfl⟩ : ∃ y ∈ m, (keyV y.1, AVal.int .i64 y.2) = x := by
          have := List.mem_of_getElem? hx
          exact List.mem_map.1 this
        refine ⟨?_, ?_⟩
        · have := rep_key_val q1
          show Rep Gh.none w false (keyV y.1) e.key
          rw [this]
          exact rep_key _ _ _ _
        · show Rep Gh.none w false (.int .i64 y.2) e.val
          have q2 : Rep γ w false (.int .i64 y.2) e.val := q2
          generalize e.val = vv at q2
          cases q2
          exact .int _ _ _
theorem IntsP.keep {w w' : World} {v : Value} {l : List Int} (h : IntsP w v l) (hs : w.heap.size ≤ w'.heap.size) (hb : ∀ b off n c, v = .slice (some ⟨b, off, none⟩) n c → b < w.heap.size → w'.heap[b]? = w.heap[b]?) : IntsP w' v l := by
  rcases h with h | ⟨b, off, cap, rfl, h⟩
  · exact .inl h
  · refine .inr ⟨b, off, cap, rfl, fun i hi => ?_⟩
    obtain ⟨h0, h1⟩ := h i hi
    exact ⟨by omega, (World.cell?_of_block (a := ⟨b, off + i, none⟩) (hb b off _ _ rfl h0)).trans h1⟩
theorem Both.epochs {w0 w : World} {p q : Nat} {row : List Key} {m l : List (Key × Int)} {X : Nat → Prop} (h : Both w0 w p q row m l X) (hI : LInv row m) (hf : ∀ x ∈ m, KeyFit x.1 ∧ WFi x.2) (hl : m.length ≤ 1000000) :
    Calls Try.prog 18 #[lptr p] w fun e w' => ∃ v xs, e = .returned v ∧ IntsP w' v xs ∧ xs.Pairwise (· < ·) ∧ (∀ y, y ∈ xs ↔ ∃ k, epochOf m k = some y) ∧ xs.length ≤ 1000000 ∧
      Both w0 w' p q row m l (fun b => X b ∨ (w.heap.size ≤ b ∧ b < w'.heap.size)) ∧ Go.RowKit.Below w.heap.size w w' ∧ (∀ g off n c, v = .slice (some ⟨g, off, none⟩) n c → w.heap.size ≤ g) := by
  have h' := h
  obtain ⟨N1, γ1, N2, γ2, h2, g1, g2⟩ := h'
  obtain ⟨b, rv, T, hp, hm⟩ := limParts h2.l.inv g1
  refine (epochs_w hp hm hI.keysN hf hl).mono ?_
  rintro e w' ⟨v, xs, h3, h4, h5, h6, h7, h8, h9⟩
  exact ⟨v, xs, h3, h4, h5, h6, h7, h.out h8.os h8.tape h8.output h8.size (fun b hlt _ => h8.block b hlt) (fun b hx => hx), h8, h9⟩
def refG (w0 w : World) : Gh := { imm := fun b _ => b < w0.heap.size, obj := fun i => if i = .out 0 then some w.heap.size else none, own := fun p => if p = 0 then .full 0 else .free }
/-- The reference's limbo, laid by the walk. -/
theorem ref_held {w0 w : World} (hA : Known w0) (hb : Go.RowKit.Below w0.heap.size w0 w) (T : TypeId) : Held w0 (refG w0 w)
      (w.alloc (.cells #[.slice none 0 0] T)) (refS 0 []) fun b => w0.heap.size ≤ b ∧ b < w.heap.size := by
  have hb2 := hb.alloc hb.size (.cells #[.slice none 0 0] T)
  have ham := ((Held.start w0 hA).grow (hb2.mono (Nat.le_refl _))).inv.amb
  have hO : ∀ i x, (refS 0 []).O i = some x → i = .out 0 ∧ x = .cells [.slice (itv []) 5 (.own 0)] := fun i x hx => by
    cases i with
    | loc k => cases hx
    | out n =>
      have hx : (if n = 0 then some (AObj.cells [.slice (itv []) 5 (.own 0)]) else none) = some x := hx
      split at hx
      · rename_i e; subst e; cases hx; exact ⟨rfl, rfl⟩
      · cases hx
  have hW : ∀ p n, (refS 0 []).own p = some n → p = 0 ∧ n = 0 := fun p n hp => by
    have hp : (if p = 0 then some ([] : List (Key × Int)).length else none) = some n := hp
    split at hp
    · rename_i e; cases hp; exact ⟨e, rfl⟩
    · cases hp
  refine ⟨⟨fun b o h => ?_, fun i x hx => ?_, fun i j x y b hx hy _ _ => ?_, fun p n hp => ?_, fun p q n m b hp hq _ _ => ?_, fun i x p n b hx hp _ h => ?_, fun n hn => ?_, fun p hp => ?_, ham⟩, ⟨fun b o h => ⟨h, ?_⟩, fun i b _ h => (by cases h), fun p => trivial⟩, hb2, ?_, fun b hx => ?_⟩
  · exact Nat.lt_of_lt_of_le h hb2.size
  · obtain ⟨rfl, rfl⟩ := hO i x hx
    refine .inr ⟨w.heap.size, rfl, [.slice none 0 0], T, heap_alloc_new _ _, .cons (.sliceNil ?_ (.inl rfl)) (.nil _), by simp [Value.oneCell'], fun o h => ?_⟩
    · simp [AL.tagNil, Own.isNil, refG]
    · have := hb.size
      have h : w.heap.size < w0.heap.size := h
      omega
  · rw [(hO i x hx).1, (hO j y hy).1]
  · obtain ⟨rfl, rfl⟩ := hW p n hp
    rfl
  · rw [(hW p n hp).1, (hW q m hq).1]
  · obtain ⟨rfl, rfl⟩ := hW p n hp
    cases h
  · have : n ≠ 0 := by have : (refS 0 []).nobj = 1 := rfl; omega
    simp [refG, this]
  · have : p ≠ 0 := by have : (refS 0 []).nown = 1 := rfl; omega
    simp [refG, this]
  · exact World.cell?_of_block (a := ⟨b, o, none⟩) (hb2.block b h)
  · rintro b (⟨i, x, hx, hbi⟩ | ⟨p, n, hp, hbi⟩)
    · obtain ⟨rfl, rfl⟩ := hO i x hx
      have : w.heap.size = b := by simpa [refG] using hbi
      have := hb.size; omega
    · obtain ⟨rfl, rfl⟩ := hW p n hp
      cases hbi
  · obtain ⟨a1, a2⟩ := hx
    refine ⟨a1, by simp; omega, ?_, fun o h => ?_⟩
    · rintro (⟨i, x, hx, hbi⟩ | ⟨p, n, hp, hbi⟩)
      · obtain ⟨rfl, rfl⟩ := hO i x hx
        have : w.heap.size = b := by simpa [refG] using hbi
        omega
      · obtain ⟨rfl, rfl⟩ := hW p n hp
        cases hbi
    · have h : b < w0.heap.size := h
      omega
theorem both_start {w0 w : World} {γ : Gh} {p : Nat} (hA : Known w0) (h : Held w0 γ w (limS 0 [] []) fun _ => False) (h1 : γ.obj (.out 1) = some p) (T : TypeId) : Both w0 (w.alloc (.cells #[.slice none 0 0] T)) p w.heap.size [] [] [] fun _ => False := by
  have hr := ref_held hA h.below T
  have hb := (Go.RowKit.Below.refl w.heap.size w).alloc (Nat.le_refl _) (.cells #[.slice none 0 0] T)
  refine ⟨0, γ, 0, refG w0 w, ⟨?_, ?_⟩, h1, rfl⟩
  · refine h.out hb.os hb.tape hb.output hb.size (fun b hlt _ => hb.block b hlt) fun b hx => .inr ?_
    rcases hx with ⟨hge, hm | ⟨o, hi⟩⟩ | hx
    · have hlt := hm.lt hr.inv
      rcases hm with ⟨i, x, hx, hbi⟩ | ⟨q, n, hq, hbi⟩
      · have : w.heap.size = b := by
          have : (if i = Oid.out 0 then some w.heap.size else none) = some b := hbi
          split at this
          · cases this; rfl
          · cases this
        exact ⟨by omega, hlt⟩
      · exfalso
        have hbi : (if q = 0 then Own.full 0 else Own.free).blk = some b := hbi
        split at hbi <;> cases hbi
    · have hi : b < w0.heap.size := hi
      omega
    · exact hx.elim
  · have h2 := hr
    refine ⟨h2.inv, h2.ext, h2.below, h2.muts, fun b hx => h2.apart b ?_⟩
    rcases hx with ⟨hge, hm | ⟨o, hi⟩⟩ | hx
    · exact ⟨hge, hm.lt h.inv⟩
    · exact ⟨hge, h.inv.imm b o hi⟩
    · exact hx.elim
end Go.Proofs.Ytakidnohmfebmaa
