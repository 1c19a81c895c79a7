/-
  Seat 06 (epoch): Advance, Refresh; the table of a law's own; the document's example.
-/
import Derived.Test.YtlchgobakkodbaaEX
import Derived.Deep.Cut
import Derived.Deep.CutRange
namespace Go.Proofs
open Go.RowKit Go.Maps Go.Shelf Ytlchgobakkodbaa
set_option linter.unusedSimpArgs false
set_option linter.unusedVariables false
set_option maxHeartbeats 4000000
set_option maxRecDepth 1000000
attribute [local go_sem ↓] Go.wp_at_zero Go.wp_at_succ
theorem minL_le : ∀ (l : List Int) (x : Int), minL x l ≤ x ∧ ∀ y ∈ l, minL x l ≤ y
  | [], x => ⟨Int.le_refl _, fun y h => by cases h⟩
  | z :: l, x => by
    have ih := minL_le l (min x z)
    have e : minL x (z :: l) = minL (min x z) l := rfl
    rw [e]
    refine ⟨by have := ih.1; omega, fun y hy => ?_⟩
    rcases List.mem_cons.1 hy with rfl | hy
    · have := ih.1; omega
    · exact ih.2 y hy
theorem minL_mem : ∀ (l : List Int) (x : Int), minL x l = x ∨ minL x l ∈ l
  | [], x => .inl rfl
  | z :: l, x => by
    have ih := minL_mem l (min x z)
    have e : minL x (z :: l) = minL (min x z) l := rfl
    rw [e]
    rcases ih with h | h
    · rw [h]
      rcases Int.le_total x z with h1 | h1
      · exact .inl (by omega)
      · exact .inr (by rw [show min x z = z by omega]; exact List.mem_cons_self)
    · exact .inr (List.mem_cons_of_mem _ h)
/-- The least of the global epoch and the sessions'. -/
def LeastF (f : Int → Option Int) (g m : Int) : Prop := m ≤ g ∧ (∀ x v, WFi x → f x = some v → m ≤ v) ∧ (m = g ∨ ∃ x, WFi x ∧ f x = some m)
theorem leastF {D : DataW Nat} {f : Int → Option Int} {g m : Int} (h : IsLeast D g m) (hr : RdI D f) : LeastF f g m := by
  obtain ⟨ps, ⟨_, hk, hv, _, hw⟩, y, ys, he, rfl⟩ := h
  have hle := minL_le ys y
  have hall : ∀ z ∈ ps.map (·.2) ++ [g], minL y ys ≤ z := fun z hz => by
    rw [he] at hz
    rcases List.mem_cons.1 hz with rfl | hz
    · exact hle.1
    · exact hle.2 z hz
  have hval : ∀ p ∈ ps, f p.1 = some p.2 := fun p hp => by
    have h1 := hr p.1 (hw p hp)
    rw [(hk p.1).1 (List.mem_map.2 ⟨p, hp, rfl⟩)] at h1
    cases hf : f p.1 with
    | none => rw [hf] at h1; exact absurd h1.1 (by simp)
    | some v =>
      have h2 := h1.2 v hf (.lit (.int .i64 0))
      rw [hv p hp] at h2
      injection h2 with h2; injection h2 with _ h2
      rw [h2]
  refine ⟨hall g (by simp), fun x v hx hf => ?_, ?_⟩
  · have h1 := (hr x hx).1
    rw [hf] at h1
    obtain ⟨p, hp, rfl⟩ := List.mem_map.1 ((hk x).2 (by rw [h1]; rfl))
    have := hval p hp
    rw [hf] at this
    cases this
    exact hall p.2 (List.mem_append_left _ (List.mem_map.2 ⟨p, hp, rfl⟩))
  · have hm : minL y ys ∈ ps.map (·.2) ++ [g] := by
      rw [he]
      rcases minL_mem ys y with h | h
      · rw [h]; exact List.mem_cons_self
      · exact List.mem_cons_of_mem _ h
    rcases List.mem_append.1 hm with h | h
    · obtain ⟨p, hp, hp2⟩ := List.mem_map.1 h
      exact .inr ⟨p.1, hw p hp, by rw [hval p hp, hp2]⟩
    · exact .inl (by simpa using h)
theorem adv_max {w : World} {p b C : Nat} {s : Int} {f : Int → Option Int} (h : Tab w p b s 2147483647 f C) :
    Calls Try.prog 8 #[.pointer (some ⟨p, 0, none⟩)] w fun e w' => e = .returned (.tuple #[.int .i64 0, .int .i64 40]) ∧ w' = w := by
  obtain ⟨D, ⟨hh, nn, hnn, hown⟩, hrd⟩ := h
  have c1 := cells_at hh 1
  simp only [List.getElem?_toArray, List.getElem?_cons_zero, List.getElem?_cons_succ] at c1
  go_enter Try.func8, Try.ntmps8
  go_wp2
  go_ret2
  exact ⟨rfl, rfl⟩
theorem least_t {w : World} {p b C : Nat} {s g : Int} {f : Int → Option Int} (h : Tab w p b s g f C) (hC : C ≤ 100000) :
    Calls Try.prog 11 #[.pointer (some ⟨p, 0, none⟩)] w fun e w' => ∃ m, e = .returned (.int .i64 m) ∧ LeastF f g m ∧ Below w.heap.size w w' := by
  obtain ⟨D, h1, h2⟩ := h
  exact (least_walk h1 hC).mono fun e w' ⟨m, e1, e2, e3⟩ => ⟨m, e1, leastF e2 h2, e3⟩
theorem Tab.setG {w : World} {p b C : Nat} {s g : Int} {f : Int → Option Int} (h : Tab w p b s g f C) (g' : Int) : Tab (w.setCell ⟨p, 1, none⟩ (.int .i64 g')) p b s g' f C := by
  have hlt := h.lt
  obtain ⟨D, ⟨h1, nn, h2, h3⟩, h4⟩ := h
  refine ⟨D, ⟨?_, nn, h2, ownsMap_grow h3 (heap_setCell_other _ _ _ _ (Ne.symm hlt.2.2))⟩, h4⟩
  rw [heap_setCell_same _ _ _ _ _ _ h1]
  rfl
theorem adv_walk {w : World} {p b C : Nat} {s g : Int} {f : Int → Option Int} (h : Tab w p b s g f C) (hC : C ≤ 100000) (hg : g ≠ 2147483647) (hg0 : 0 ≤ g) (hg1 : g ≤ 2147483647) :
    Calls Try.prog 8 #[.pointer (some ⟨p, 0, none⟩)] w fun e w' => ∃ m, LeastF f g m ∧ ChgT p b w w' ∧
      ((m < g ∧ e = .returned (.tuple #[.int .i64 0, .int .i64 60]) ∧ Tab w' p b s g f C) ∨ (m = g ∧ e = .returned (.tuple #[.int .i64 (g + 1), .int .i64 0]) ∧ Tab w' p b s (g + 1) f C)) := by
  have h0 := h
  have hlt := h.lt
  obtain ⟨D, ⟨hh, nn, hnn, hown⟩, hrd⟩ := h
  have c1 := cells_at hh 1
  simp only [List.getElem?_toArray, List.getElem?_cons_zero, List.getElem?_cons_succ] at c1
  have hD : Tab w.drew p b s g f C := h0.grow (Below.refl _ _).drew
  go_enter Try.func8, Try.ntmps8
  go_upto_region 3 with fail
  go_region_held_law (fun w' => w'.cell? ⟨p, 1, none⟩ = some (.int .i64 g))
    (first | go_keep | assumption)
    (first
      | (go_at_call 11; refine Calls.mono (least_t hD hC) ?_; rintro e W ⟨m, rfl, hm, hb⟩; have hk := (hb.cell (p := ⟨p, 1, none⟩) hlt.1).trans c1))
  have hT := hD.grow hb
  have hch : ChgT p b w W := (ChgT.of_below (p := p) (b := b) (Below.refl w.heap.size w).drew).trans (ChgT.of_below hb)
  have hf1 : W.frozen? ⟨p, 1, none⟩ = false := by obtain ⟨D', ⟨hh', _⟩, _⟩ := hT; exact frz_at hh' 1
  by_cases hlm : m < g
  · go_wp2
    go_ret2
    exact ⟨m, hm, hch, .inl ⟨hlm, rfl, hT⟩⟩
  · go_wp2
    go_ret2
    refine ⟨m, hm, hch.trans ⟨rfl, rfl, rfl, by simp, fun k hk h1 h2 => heap_setCell_other _ _ _ _ h1⟩, .inr ⟨by have := hm.1; omega, rfl, hT.setG (g + 1)⟩⟩
end Go.Proofs
