/-
  Seat 06 (epoch): the reference's table, walked with the kit.
-/
import Derived.Test.YtlchgobakkodbaaEp
namespace Go.Proofs
open Go.RowKit Go.Maps Go.Shelf
set_option linter.unusedSimpArgs false
set_option linter.unusedVariables false
set_option maxHeartbeats 4000000
set_option maxRecDepth 1000000
/-- What a row says of each session. -/
def rdL (L : List Int) (x : Int) : Option Int := if 0 ≤ x ∧ x < L.length ∧ 0 ≤ L.getD x.toNat (-1) then some (L.getD x.toNat (-1)) else none
theorem rdL_none (n : Nat) : rdL (List.replicate n (-1)) = fun _ => none := by
  funext x
  refine if_neg ?_
  rintro ⟨h1, h2, h3⟩
  simp only [List.length_replicate] at h2
  have : (List.replicate n (-1 : Int)).getD x.toNat (-1) = -1 := by
    rw [List.getD_eq_getElem?_getD, List.getElem?_replicate]
    split <;> rfl
  omega
theorem getD_set (L : List Int) {i j : Nat} (v : Int) (h : i < L.length) : (L.set i v).getD j (-1) = if j = i then v else L.getD j (-1) := by
  simp only [List.getD_eq_getElem?_getD]
  by_cases hij : j = i
  · subst hij
    rw [if_pos rfl, List.getElem?_set_self h]
    rfl
  · rw [if_neg hij, List.getElem?_set_ne (Ne.symm hij)]
theorem rdL_set {L : List Int} {x : Int} (v : Int) (h0 : 0 ≤ x) (h1 : x < L.length) : rdL (L.set x.toNat v) = updI (rdL L) x (if 0 ≤ v then some v else none) := by
  funext y
  unfold updI rdL
  have hx : x.toNat < L.length := by omega
  rw [getD_set L v hx, List.length_set]
  by_cases hy : y = x
  · subst hy
    rw [if_pos rfl, if_pos rfl]
    by_cases hv : 0 ≤ v
    · rw [if_pos ⟨h0, h1, hv⟩, if_pos hv]
    · rw [if_neg (fun h => hv h.2.2), if_neg hv]
  · rw [if_neg hy]
    by_cases hz : 0 ≤ y
    · have : y.toNat ≠ x.toNat := by omega
      rw [if_neg this]
    · rw [if_neg (fun h => hz h.1), if_neg (fun h => hz h.1)]
def entR (L : List Int) (g x : Int) : Int × Int × List Int := if x < 0 ∨ (L.length : Int) ≤ x then (0, 2, L) else if 0 ≤ L.getD x.toNat (-1) then (0, 31, L) else (g, 0, L.set x.toNat g)
def leaR (L : List Int) (g x : Int) (again : Bool) : Int × Int × List Int := if x < 0 ∨ (L.length : Int) ≤ x then (0, 2, L) else if L.getD x.toNat (-1) < 0 then (0, 51, L) else if again = true then (g, 0, L.set x.toNat g) else (0, 0, L.set x.toNat (-1))
def minR (g : Int) (L : List Int) : Int := L.foldl (fun m v => if 0 ≤ v ∧ v < m then v else m) g
def advR (L : List Int) (g : Int) : Int × Int × Int := if g = 2147483647 then (0, 40, g) else if minR g L ≠ g then (0, 60, g) else (g + 1, 0, g + 1)
/-- The reference's table. -/
def RefT (w : World) (q gr cap : Nat) (g : Int) (L : List Int) : Prop :=
  w.heap[q]? = some (.cells #[.int .i64 g, .slice (some ⟨gr, 0, none⟩) L.length cap] 60 (0, 0)) ∧ w.ownsRow (q + 1) 3 1 (.slice (some ⟨gr, 0, none⟩) L.length cap) L.length (ivs L)
theorem RefT.lt {w : World} {q gr cap : Nat} {g : Int} {L : List Int} (h : RefT w q gr cap g L) : q < gr ∧ gr < w.heap.size := by
  have := h.2.lt gr rfl
  omega
theorem ownsRow_growI {w w' : World} {base e size n : Nat} {v : Value} {xs : List Value} (h : w.ownsRow base e size v n xs) (hb : ∀ k, v.ownBlock = some k → w'.heap[k]? = w.heap[k]?) : w'.ownsRow base e size v n xs := by
  refine ⟨h.1, ?_⟩
  rcases h.2 with hn | ⟨g, cap, cur, rfl, hq, hg, rest⟩
  · exact .inl hn
  · exact .inr ⟨g, cap, cur, rfl, hq, by rw [hb g rfl]; exact hg, rest⟩
theorem RefT.keep {w w' : World} {q gr cap : Nat} {g : Int} {L : List Int} (h : RefT w q gr cap g L) (h1 : w'.heap[q]? = w.heap[q]?) (h2 : w'.heap[gr]? = w.heap[gr]?) : RefT w' q gr cap g L :=
  ⟨h1.trans h.1, ownsRow_growI h.2 fun k hk => by cases hk; exact h2⟩
theorem RefT.cells {w : World} {q gr cap : Nat} {g : Int} {L : List Int} (h : RefT w q gr cap g L) : w.cell? ⟨q, 0, none⟩ = some (.int .i64 g) ∧ w.cell? ⟨q, 1, none⟩ = some (.slice (some ⟨gr, 0, none⟩) L.length cap) ∧ w.frozen? ⟨q, 0, none⟩ = false := by
  have c0 := cells_at h.1 0
  have c1 := cells_at h.1 1
  simp only [List.getElem?_toArray, List.getElem?_cons_zero, List.getElem?_cons_succ] at c0 c1
  exact ⟨c0, c1, frz_at h.1 0⟩
theorem RefT.at {w : World} {q gr cap : Nat} {g : Int} {L : List Int} (h : RefT w q gr cap g L) {n : Nat} (hn : n < L.length) : w.cell? ⟨gr, n, none⟩ = some (.int .i64 (L.getD n (-1))) ∧ w.frozen? ⟨gr, n, none⟩ = false := by
  refine ⟨?_, h.2.frozenAt n⟩
  rw [h.2.cellAt n (by omega)]
  simp [ivs, hn, List.getD_eq_getElem?_getD]
theorem RefT.store {w : World} {q gr cap : Nat} {g : Int} {L : List Int} (h : RefT w q gr cap g L) (n : Nat) (v : Int) : RefT (w.setCell ⟨gr, n, none⟩ (.int .i64 v)) q gr cap g (L.set n v) ∧ ChgT q gr w (w.setCell ⟨gr, n, none⟩ (.int .i64 v)) := by
  have hlt := h.lt
  refine ⟨⟨?_, ?_⟩, rfl, rfl, rfl, by simp, fun k hk h1 h2 => heap_setCell_other _ _ _ _ h2⟩
  · rw [heap_setCell_other _ _ _ _ (show q ≠ gr by omega), List.length_set]
    exact h.1
  · have := (h.2.stored n (.int .i64 v)).1
    simpa only [List.length_set, ivs, List.map_set] using this
theorem enterR_walk {w : World} {q gr cap : Nat} {g : Int} {L : List Int} (h : RefT w q gr cap g L) (x : Int) :
    Calls Try.prog 16 #[.pointer (some ⟨q, 0, none⟩), .int .i64 x] w fun e w' => e = .returned (.tuple #[.int .i64 (entR L g x).1, .int .i64 (entR L g x).2.1]) ∧ RefT w' q gr cap g (entR L g x).2.2 ∧ ChgT q gr w w' := by
  obtain ⟨c0, c1, z0⟩ := h.cells
  by_cases h1 : x < 0
  · rw [show entR L g x = (0, 2, L) from if_pos (.inl h1)]
    go_enter Try.func16, Try.ntmps16
    go_wp2
    go_ret2
    exact ⟨rfl, h, .refl _ _ _⟩
  by_cases h2 : (L.length : Int) ≤ x
  · rw [show entR L g x = (0, 2, L) from if_pos (.inr h2)]
    go_enter Try.func16, Try.ntmps16
    go_wp2
    go_ret2
    exact ⟨rfl, h, .refl _ _ _⟩
  obtain ⟨n, rfl⟩ : ∃ n : Nat, x = n := ⟨x.toNat, by omega⟩
  have hn : n < L.length := by omega
  have hn' : (n : Int) < (L.length : Int) := by omega
  have i1 : (0 : Int) ≤ (n : Int) := by omega
  obtain ⟨c2, z2⟩ := h.at hn
  by_cases h3 : 0 ≤ L.getD n (-1)
  · rw [show entR L g n = (0, 31, L) from (if_neg (by omega)).trans (if_pos h3)]
    generalize L.getD n (-1) = y at *
    go_enter Try.func16, Try.ntmps16
    go_wp2
    go_ret2
    exact ⟨rfl, h, .refl _ _ _⟩
  · rw [show entR L g n = (g, 0, L.set n g) from (if_neg (by omega)).trans (if_neg h3)]
    obtain ⟨r1, r2⟩ := h.store n g
    obtain ⟨d0, d1, _⟩ := r1.cells
    generalize L.getD n (-1) = y at *
    go_enter Try.func16, Try.ntmps16
    go_wp2
    go_region
    go_wp2
    go_ret2
    exact ⟨rfl, r1, r2.os, r2.tape, r2.output, r2.size, r2.block⟩
theorem leaveR_walk {w : World} {q gr cap : Nat} {g : Int} {L : List Int} (h : RefT w q gr cap g L) (x : Int) (again : Bool) :
    Calls Try.prog 17 #[.pointer (some ⟨q, 0, none⟩), .int .i64 x, .bool again] w fun e w' => e = .returned (.tuple #[.int .i64 (leaR L g x again).1, .int .i64 (leaR L g x again).2.1]) ∧ RefT w' q gr cap g (leaR L g x again).2.2 ∧ ChgT q gr w w' := by
  obtain ⟨c0, c1, z0⟩ := h.cells
  by_cases h1 : x < 0
  · rw [show leaR L g x again = (0, 2, L) from if_pos (.inl h1)]
    go_enter Try.func17, Try.ntmps17
    go_wp2
    go_ret2
    exact ⟨rfl, h, .refl _ _ _⟩
  by_cases h2 : (L.length : Int) ≤ x
  · rw [show leaR L g x again = (0, 2, L) from if_pos (.inr h2)]
    go_enter Try.func17, Try.ntmps17
    go_wp2
    go_ret2
    exact ⟨rfl, h, .refl _ _ _⟩
  obtain ⟨n, rfl⟩ : ∃ n : Nat, x = n := ⟨x.toNat, by omega⟩
  have hn : n < L.length := by omega
  have hn' : (n : Int) < (L.length : Int) := by omega
  have i1 : (0 : Int) ≤ (n : Int) := by omega
  obtain ⟨c2, z2⟩ := h.at hn
  by_cases h3 : L.getD n (-1) < 0
  · rw [show leaR L g n again = (0, 51, L) from (if_neg (by omega)).trans (if_pos h3)]
    generalize L.getD n (-1) = y at *
    go_enter Try.func17, Try.ntmps17
    go_wp2
    go_ret2
    exact ⟨rfl, h, .refl _ _ _⟩
  · obtain ⟨r1, r2⟩ := h.store n (-1)
    cases again
    · rw [show leaR L g n false = (0, 0, L.set n (-1)) from (if_neg (by omega)).trans ((if_neg h3).trans (if_neg (by decide)))]
      generalize L.getD n (-1) = y at *
      go_enter Try.func17, Try.ntmps17
      go_wp2
      go_ret2
      exact ⟨rfl, r1, r2⟩
    · rw [show leaR L g n true = (g, 0, L.set n g) from (if_neg (by omega)).trans ((if_neg h3).trans (if_pos rfl))]
      obtain ⟨r3, r4⟩ := r1.store n g
      obtain ⟨d0, d1, _⟩ := r1.cells
      obtain ⟨_, z3⟩ := r1.at (n := n) (by simpa using hn)
      obtain ⟨e0, e1, _⟩ := r3.cells
      rw [List.set_set] at r3
      have r5 := r2.trans r4
      simp only [List.length_set] at d0 d1 e0 e1
      generalize L.getD n (-1) = y at *
      go_enter Try.func17, Try.ntmps17
      go_wp2
      go_region
      go_wp2
      go_ret2
      exact ⟨rfl, r3, r5.os, r5.tape, r5.output, r5.size, r5.block⟩
theorem minR_take {g : Int} {L : List Int} {n : Nat} (h : n < L.length) : minR g (L.take (n + 1)) = (if 0 ≤ L.getD n (-1) ∧ L.getD n (-1) < minR g (L.take n) then L.getD n (-1) else minR g (L.take n)) := by
  have e : L.take (n + 1) = L.take n ++ [L[n]] := by rw [List.take_add_one, List.getElem?_eq_getElem h]; rfl
  rw [e, minR, List.foldl_append]
  simp [List.getD_eq_getElem?_getD, h, minR]
theorem leastR_walk {w : World} {q gr cap : Nat} {g : Int} {L : List Int} (h : RefT w q gr cap g L) (hl : L.length ≤ 1000000) :
    Calls Try.prog 24 #[.pointer (some ⟨q, 0, none⟩)] w fun e w' => e = .returned (.int .i64 (minR g L)) ∧ w' = w := by
  obtain ⟨c0, c1, z0⟩ := h.cells
  go_enter Try.func24, Try.ntmps24
  go_wp2
  go_loopw [3, 4] (fun m i wr => ∃ k : Nat, k ≤ L.length ∧ i = .int .i64 k ∧ m = .int .i64 (minR g (L.take k)) ∧ wr = w)
    (fun _ i _ => L.length - (wdInt i).toNat)
  case atStart => exact ⟨0, Nat.zero_le _, rfl, rfl, rfl⟩
  case round =>
    obtain ⟨k, hk, rfl, rfl, rfl⟩ := hrel
    by_cases hlt : k < L.length
    · have hltI : (k : Int) < (L.length : Int) := by omega
      have i1 : (0 : Int) ≤ (k : Int) := by omega
      obtain ⟨c2, z2⟩ := h.at hlt
      have hm := minR_take (g := g) hlt
      have hfin : ∀ m : Int, m = minR g (L.take (k + 1)) → ∃ k' : Nat, k' ≤ L.length ∧ Value.int .i64 ((k : Int) + 1) = .int .i64 k' ∧ Value.int .i64 m = .int .i64 (minR g (L.take k')) ∧ True := fun m hm => ⟨k + 1, hlt, by simp, by rw [hm], trivial⟩
      generalize minR g (L.take (k + 1)) = m1 at *
      generalize minR g (L.take k) = m0 at *
      generalize L.getD k (-1) = y at *
      by_cases h1 : 0 ≤ y
      · by_cases h2 : y < m0
        · rw [if_pos ⟨h1, h2⟩] at hm
          go_wp2
          exact ⟨hfin _ hm.symm, by simp only [wdInt]; omega⟩
        · rw [if_neg (fun h => h2 h.2)] at hm
          go_wp2
          exact ⟨hfin _ hm.symm, by simp only [wdInt]; omega⟩
      · rw [if_neg (fun h => h1 h.1)] at hm
        go_wp2
        exact ⟨hfin _ hm.symm, by simp only [wdInt]; omega⟩
    · have hltI : ¬ (k : Int) < (L.length : Int) := by omega
      go_wp2
      go_ret
      exact ⟨by rw [List.take_of_length_le (by omega)]; rfl, rfl⟩
theorem RefT.setG {w : World} {q gr cap : Nat} {g : Int} {L : List Int} (h : RefT w q gr cap g L) (g' : Int) : RefT (w.setCell ⟨q, 0, none⟩ (.int .i64 g')) q gr cap g' L ∧ ChgT q gr w (w.setCell ⟨q, 0, none⟩ (.int .i64 g')) := by
  have hlt := h.lt
  refine ⟨⟨?_, ownsRow_growI h.2 fun k hk => ?_⟩, rfl, rfl, rfl, by simp, fun k hk h1 h2 => heap_setCell_other _ _ _ _ h1⟩
  · rw [heap_setCell_same _ _ _ _ _ _ h.1]
    rfl
  · cases hk
    exact heap_setCell_other _ _ _ _ (show gr ≠ q by omega)
theorem advR_walk {w : World} {q gr cap : Nat} {g : Int} {L : List Int} (h : RefT w q gr cap g L) (hl : L.length ≤ 1000000) (hg0 : 0 ≤ g) (hg1 : g ≤ 2147483647) :
    Calls Try.prog 18 #[.pointer (some ⟨q, 0, none⟩)] w fun e w' => e = .returned (.tuple #[.int .i64 (advR L g).1, .int .i64 (advR L g).2.1]) ∧ RefT w' q gr cap (advR L g).2.2 L ∧ ChgT q gr w w' := by
  obtain ⟨c0, c1, z0⟩ := h.cells
  have hD : RefT w.drew q gr cap g L := h.keep rfl rfl
  have hls := leastR_walk hD hl
  by_cases h1 : g = 2147483647
  · rw [show advR L g = (0, 40, g) from if_pos h1]
    subst h1
    go_enter Try.func18, Try.ntmps18
    go_wp2
    go_ret2
    exact ⟨rfl, h, .refl _ _ _⟩
  by_cases h2 : minR g L = g
  · rw [show advR L g = (g + 1, 0, g + 1) from (if_neg h1).trans (if_neg (fun h => h h2))]
    rw [h2] at hls
    obtain ⟨r1, r2⟩ := h.setG (g + 1)
    have d0 := r1.cells.1
    go_enter Try.func18, Try.ntmps18
    go_upto_region 3 with fail
    go_region_held_law (fun w' => w'.cell? ⟨q, 0, none⟩ = some (.int .i64 g))
      (first | go_keep | assumption)
      (first
        | (go_at_call 24; refine Calls.mono hls ?_; rintro e W ⟨rfl, rfl⟩))
    go_wp2
    go_ret2
    exact ⟨rfl, r1, r2.os, r2.tape, r2.output, r2.size, r2.block⟩
  · rw [show advR L g = (0, 60, g) from (if_neg h1).trans (if_pos h2)]
    generalize minR g L = m at *
    go_enter Try.func18, Try.ntmps18
    go_upto_region 3 with fail
    go_region_held_law (fun w' => w'.cell? ⟨q, 0, none⟩ = some (.int .i64 g))
      (first | go_keep | assumption)
      (first
        | (go_at_call 24; refine Calls.mono hls ?_; rintro e W ⟨rfl, rfl⟩))
    go_wp2
    go_ret2
    exact ⟨rfl, hD, rfl, rfl, rfl, Nat.le_refl _, fun _ _ _ _ => rfl⟩
end Go.Proofs
