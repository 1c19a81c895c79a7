/-
  Seat 12 (limbo): Epochs, walked with the kit, to its end.
-/
import Derived.Test.YtakidnohmfebmaaMh
namespace Go.Proofs
open Go.RowKit Go.Maps Go.Sort Go.Shelf Go.AL Ytakidnohmfebmaa
set_option linter.unusedSimpArgs false
set_option linter.unusedVariables false
set_option maxHeartbeats 4000000
set_option maxRecDepth 1000000
theorem setCells_frame (b : Nat) : ∀ (vs : List Value) (o : Nat) (w : World), (w.setCells b o vs).os = w.os ∧ (w.setCells b o vs).tape = w.tape ∧ (w.setCells b o vs).output = w.output ∧ (w.setCells b o vs).heap.size = w.heap.size ∧ ∀ k, k ≠ b → (w.setCells b o vs).heap[k]? = w.heap[k]?
  | [], _, _ => ⟨rfl, rfl, rfl, rfl, fun _ _ => rfl⟩
  | v :: r, o, w => by
    obtain ⟨h1, h2, h3, h4, h5⟩ := setCells_frame b r (o + 1) (w.setCell ⟨b, o, none⟩ v)
    refine ⟨h1, h2, h3, ?_, fun k hk => ?_⟩
    · rw [show (w.setCells b o (v :: r)) = (w.setCell ⟨b, o, none⟩ v).setCells b (o + 1) r from rfl, h4]; simp
    · rw [show (w.setCells b o (v :: r)) = (w.setCell ⟨b, o, none⟩ v).setCells b (o + 1) r from rfl, h5 k hk]
      exact heap_setCell_other _ _ _ _ hk
theorem compact_sorted {zs : List Int} (hs : zs.Pairwise (· ≤ ·)) : ∀ m, m ≤ zs.length → (Lib.compactUpTo zs.toArray m).Pairwise (· < ·) ∧ (∀ y, y ∈ Lib.compactUpTo zs.toArray m ↔ y ∈ zs.take m)
  | 0, _ => by simp [Lib.compactUpTo]
  | m + 1, hm => by
    have hlt : m < zs.length := hm
    obtain ⟨h1, h2⟩ := compact_sorted hs m (by omega)
    have ht : zs.take (m + 1) = zs.take m ++ [zs[m]] := by rw [List.take_succ_eq_append_getElem hlt]
    have hge : ∀ j (hj : j < zs.length), zs.toArray[j]! = zs[j] := fun j hj => by simp [hj]
    have hle : ∀ y ∈ zs.take m, y ≤ zs[m] := fun y hy => by
      obtain ⟨i, hi, rfl⟩ := List.mem_take_iff_getElem.1 hy
      exact List.pairwise_iff_getElem.1 hs i m (by omega) hlt (by omega)
    rw [Lib.compactUpTo_succ, ht, hge m hlt]
    by_cases hk : Lib.keeps zs.toArray m = true
    · rw [if_pos hk]
      refine ⟨List.pairwise_append.2 ⟨h1, by simp, fun a ha b hb => ?_⟩, fun y => ?_⟩
      · simp at hb; subst hb
        have h3 := (h2 a).1 ha
        have h4 := hle a h3
        rcases Nat.eq_zero_or_pos m with rfl | hm0
        · simp at h3
        · have hne : zs[m] ≠ zs[m - 1] := by
            unfold Lib.keeps at hk
            rw [decide_eq_true_eq] at hk
            rcases hk with h5 | h5
            · omega
            · rw [hge m hlt, hge (m - 1) (by omega)] at h5; exact h5
          have hp : zs[m - 1] ≤ zs[m] := List.pairwise_iff_getElem.1 hs (m - 1) m (by omega) hlt (by omega)
          obtain ⟨i, hi, rfl⟩ := List.mem_take_iff_getElem.1 h3
          have : zs[i] ≤ zs[m - 1] := by
            rcases Nat.lt_or_ge i (m - 1) with h6 | h6
            · exact List.pairwise_iff_getElem.1 hs i (m - 1) (by omega) (by omega) h6
            · have : i = m - 1 := by omega
              subst this; exact Int.le_refl _
          omega
      · rw [List.mem_append, List.mem_append, h2]
    · rw [if_neg hk, List.append_nil]
      refine ⟨h1, fun y => ?_⟩
      unfold Lib.keeps at hk
      rw [decide_eq_true_eq] at hk
      have hm0 : 0 < m := by omega
      have he : zs[m] = zs[m - 1] := by
        have : ¬ zs.toArray[m]! ≠ zs.toArray[m - 1]! := fun h => hk (.inr h)
        rw [hge m hlt, hge (m - 1) (by omega)] at this
        exact Classical.not_not.1 this
      rw [h2, List.mem_append, List.mem_singleton]
      constructor
      · exact .inl
      · rintro (h | h)
        · exact h
        · rw [h, he]
          exact List.mem_take_iff_getElem.2 ⟨m - 1, by omega, rfl⟩
theorem epochs_w {w : World} {p b : Nat} {rv : Value} {T : TypeId} {m : List (Key × Int)} (hp : w.heap[p]? = some (.cells #[rv, .map (some b)] T (0, 0))) (hm : MapK w b m) (hn : (keysM m).Nodup) (hf : ∀ x ∈ m, KeyFit x.1 ∧ WFi x.2) (hl : m.length ≤ 1000000) :
    Calls Try.prog 18 #[lptr p] w fun e w' => ∃ (v : Value) (xs : List Int), e = .returned v ∧ IntsP w' v xs ∧ xs.Pairwise (· < ·) ∧ (∀ y, y ∈ xs ↔ ∃ k, epochOf m k = some y) ∧ xs.length ≤ 1000000 ∧ Below w.heap.size w w' ∧ ∀ g off n c, v = .slice (some ⟨g, off, none⟩) n c → w.heap.size ≤ g := by
  obtain ⟨D, hown, hD⟩ := owns12 hm hn hf (by omega)
  have hsz := hown.size_le
  have c1 : w.cell? ⟨p, 1, none⟩ = some (.map (some b)) := by simp [World.cell?, hp]
  have hs := sorted12 (w := w.alloc (.cells #[.map (some b)] 27)) (Bm := w.heap.size) (by simp) (World.cell?_alloc_at _ _ _ _ rfl) (hown.alloc _) (by omega)
  have hb1 : Below w.heap.size w (w.alloc (.cells #[.map (some b)] 27)) := (Below.refl _ w).alloc (Nat.le_refl _) _
  go_enter Try.func18, Try.ntmps18
  go_wp2_with (go_at_call 29; refine (valuesF_walk _ _).mono ?_)
  rintro e W ⟨rfl, rfl⟩
  go_wp2_with (go_at_call 28; refine hs.mono ?_)
  rintro e W ⟨v, ss, rfl, h3, h4, ⟨ps, hps, hperm⟩, h7⟩
  have hmem : ∀ y, y ∈ ss ↔ ∃ k, epochOf m k = some y := fun y => by
    rw [hperm.mem_iff]
    obtain ⟨g1, g2, g3, g4⟩ := hps
    constructor
    · intro hy
      obtain ⟨q, hq, rfl⟩ := List.mem_map.1 hy
      obtain ⟨z, hz⟩ := g1 q hq
      have hh := (g2 z).1 (hz ▸ List.mem_map_of_mem hq)
      obtain ⟨k, v', hv, hat⟩ := hD.of1 z hh
      have := g3 q hq (.lit (.int .i64 0))
      rw [hz, hat] at this
      simp at this
      exact ⟨k, by rw [hv, this]⟩
    · rintro ⟨k, hk⟩
      obtain ⟨z, hh, hat⟩ := hD.at1 k y hk
      obtain ⟨q, hq, hqz⟩ := List.mem_map.1 ((g2 z).2 hh)
      have := g3 q hq (.lit (.int .i64 0))
      rw [hqz, hat] at this
      simp at this
      exact List.mem_map.2 ⟨q, hq, this.symm⟩
  have hlen : ss.length ≤ 1000000 := by
    have := hperm.length_eq
    rw [List.length_map] at this
    have := hps.2.2.2
    omega
  have hb2 := hb1.trans (h7.mono (by simp))
  obtain ⟨ccs1, ccs2⟩ := compact_sorted h4 ss.length (Nat.le_refl _)
  rw [List.take_length] at ccs2
  rcases h3.2 with ⟨rfl, h0⟩ | ⟨g, cap, cur, rfl, hg0, hg, hnc, hcm, hcs, hcur⟩
  · have : ss = [] := List.length_eq_zero_iff.1 h0
    subst this
    go_wp2_with (go_at_call 27; refine (AnyG.slices_Compact_int_empty Try.compactZ none 0 W).mono ?_)
    rintro e W2 ⟨rfl, rfl⟩
    go_wp2
    go_ret
    exact ⟨_, [], rfl, .inl ⟨rfl, _, rfl⟩, .nil, fun y => by rw [← hmem y], by simp, hb2, fun g off n c h => by cases h⟩
  · have hc : ∀ j, j < ss.length → W.cell? ⟨g, 0 + j, none⟩ = some (.int .i64 (ss.getD j 0)) := fun j hj => by
      have h9 : (cur.toList.take (ss.length * 1))[j]? = some (.int .i64 (ss.getD j 0)) := by
        rw [hcur, List.getElem?_map, List.getElem?_eq_getElem hj]
        simp [List.getD_eq_getElem?_getD, hj]
      rw [Nat.mul_one, List.getElem?_take, if_pos hj] at h9
      simp only [World.cell?, hg, Nat.zero_add]
      simpa using h9
    have hfz : ∀ j, j < ss.length → W.frozen? ⟨g, 0 + j, none⟩ = false := fun j hj => by
      simp only [World.frozen?, hg]
      simp
    go_wp2_with (go_at_call 27; refine (AnyG.slices_Compact_int_cells Try.compactZ g 0 ss.length cap ss W (Nat.le_refl _) (by omega) hnc hc hfz).mono ?_)
    rw [List.take_length]
    rintro e W2 ⟨rfl, q, rfl⟩
    have hle := Lib.compact_length_le ss
    obtain ⟨f1, f2, f3, f4, f5⟩ := setCells_frame g ((Lib.compact ss ++ List.replicate (ss.length - (Lib.compact ss).length) 0).map (Value.int .i64)) 0 (W.drewN q)
    have hb3 : Below w.heap.size w ((W.drewN q).setCells g 0 ((Lib.compact ss ++ List.replicate (ss.length - (Lib.compact ss).length) 0).map (Value.int .i64))) :=
      ⟨f1.trans hb2.os, f2.trans hb2.tape, f3.trans hb2.output, by rw [f4]; exact hb2.size, fun k hk => (f5 k (by simp at hg0; omega)).trans (hb2.block k hk)⟩
    have hcell : ∀ i (hi : i < (Lib.compact ss).length), ((W.drewN q).setCells g 0 ((Lib.compact ss ++ List.replicate (ss.length - (Lib.compact ss).length) 0).map (Value.int .i64))).cell? ⟨g, 0 + i, none⟩ = some (.int .i64 (Lib.compact ss)[i]) := fun i hi => by
      have := World.cell?_setCells_in g ((Lib.compact ss ++ List.replicate (ss.length - (Lib.compact ss).length) 0).map (Value.int .i64)) 0 (W.drewN q) (fun j hj => by
        have hj' : j < ss.length := by simp at hj; omega
        have := hc j hj'
        show ((W.drewN q).cell? ⟨g, 0 + j, none⟩).isSome = true
        rw [show (W.drewN q).cell? ⟨g, 0 + j, none⟩ = W.cell? ⟨g, 0 + j, none⟩ from rfl, this]; rfl) i (by simp; omega)
      rw [this]
      simp only [List.getElem_map]
      rw [List.getElem_append_left hi]
    generalize ((Lib.compact ss ++ List.replicate (ss.length - (Lib.compact ss).length) 0).map (Value.int .i64)) = VS at *
    go_wp2
    go_ret
    refine ⟨_, Lib.compact ss, rfl, .inr ⟨g, 0, cap, rfl, fun i hi => ⟨?_, hcell i hi⟩⟩, ccs1, fun y => (ccs2 y).trans (hmem y), by omega, hb3, fun g' off n c h => by cases h; simp at hg0; omega⟩
    exact World.block_lt_of_cell? _ _ (hcell i hi)
end Go.Proofs
