/-
  Seat 06 (epoch): a new table of the reference's.
-/
import Derived.Test.YtlchgobakkodbaaEC
namespace Go.Proofs
open Go.RowKit Go.Maps Go.Shelf
set_option linter.unusedSimpArgs false
set_option linter.unusedVariables false
set_option maxHeartbeats 4000000
set_option maxRecDepth 1000000
theorem newR_walk (w : World) (s : Nat) (g : Int) (h1 : 1 ≤ s) (h2 : s ≤ 64) :
    Calls Try.prog 15 #[.int .i64 s, .int .i64 g] w fun e w' => ∃ gr cap, e = .returned (.pointer (some ⟨w.heap.size, 0, none⟩)) ∧ RefT w' w.heap.size gr cap g (List.replicate s (-1)) ∧ Below w.heap.size w w' := by
  obtain ⟨i0, hi, hz0, hz1, hz2⟩ := info_parts intInfo
  have hnew := heap_alloc_new w (.cells #[.int .i64 g, .slice none 0 0] 60)
  have hbn : Below w.heap.size w (w.alloc (.cells #[.int .i64 g, .slice none 0 0] 60)) := (Below.refl _ w).alloc (Nat.le_refl _) _
  have hsn := World.size_alloc w (.cells #[.int .i64 g, .slice none 0 0] 60)
  go_enter Try.func15, Try.ntmps15
  go_wp2
  generalize w.alloc (.cells #[.int .i64 g, .slice none 0 0] 60) = w1 at *
  generalize hq : w.heap.size = q at *
  go_loopw [6] (fun i wr => ∃ (k : Nat) (v : Value), k ≤ s ∧ i = .int .i64 k ∧ wr.heap[q]? = some (.cells #[.int .i64 g, v] 60 (0, 0)) ∧ wr.ownsRow (q + 1) 3 1 v k (ivs (List.replicate k (-1))) ∧ Below q w wr)
    (fun i _ => s - (wdInt i).toNat)
  case atStart => exact ⟨0, .slice none 0 0, Nat.zero_le _, rfl, hnew, ⟨rfl, .inl ⟨rfl, rfl⟩⟩, hbn⟩
  case round =>
    obtain ⟨k, v, hk, rfl, hh, hown, hb⟩ := hrel
    have c1 := cells_at hh 1
    simp only [List.getElem?_toArray, List.getElem?_cons_zero, List.getElem?_cons_succ] at c1
    have hqr := (Array.getElem?_eq_some_iff.1 hh).1
    by_cases hlt : k < s
    · have hltI : (k : Int) < (s : Int) := by omega
      have i1 : (0 : Int) ≤ (k : Int) := by omega
      go_wp2_with (first
        | (at_builtin; refine wpList_append_own _ rfl _ _ 54 rfl (q + 1) 3 i0 (.int .i64 0) 1 8 Try.underlying54 hi hz0 hz1 hz2 rfl (by decide) _ _ _ rfl (hown.alloc _) ⟨wr.heap.size, 0, none⟩ 1 1 [.int .i64 (-1)] rfl rfl ?c1 ?c2 ?c3 ?c4 ?c5 ?_)
        | go_in)
      case c1 =>
        intro j u hj
        match j, hj with
        | 0, hj => simp at hj; subst hj; simp [Addr.add]
      case c2 => intro u hu; simp at hu; subst hu; rfl
      case c3 => unfold maxLen; omega
      case c4 => omega
      case c5 => simp; omega
      intro v' W2 hown' hgrow _
      obtain ⟨av, cv, rfl⟩ : ∃ av cv, v' = .slice av (k + 1) cv := by
        rcases hown'.2 with ⟨h, h'⟩ | ⟨gr, cap, cur, h, _⟩
        · omega
        · exact ⟨_, _, h⟩
      generalize hv' : Value.slice av (k + 1) cv = v' at hown'
      have hne : some q ≠ v.ownBlock := fun h => by have := (hown.lt _ h.symm).1; omega
      have hh2 : W2.heap[q]? = some (.cells #[.int .i64 g, v] 60 (0, 0)) := (hgrow.block q (by simp; omega) hne).trans ((Below.heap_alloc _ _ q hqr).trans hh)
      have d1 := cells_at hh2 1
      have z1 := frz_at hh2 1
      simp only [List.getElem?_toArray, List.getElem?_cons_zero, List.getElem?_cons_succ] at d1
      have hbs := hb.size
      have hb2 : Below q w W2 := (hb.alloc (by omega) _).grown hgrow (by simp; omega) (fun j hj => by have := (hown.lt j hj).1; omega)
      have hh3 : (W2.setCell ⟨q, 1, none⟩ v').heap[q]? = some (.cells #[.int .i64 g, v'] 60 (0, 0)) := by
        rw [heap_setCell_same _ _ _ _ _ _ hh2]
        rfl
      have ho3 : (W2.setCell ⟨q, 1, none⟩ v').ownsRow (q + 1) 3 1 v' (k + 1) (ivs (List.replicate (k + 1) (-1))) := by
        refine ownsRow_growI ?_ fun j hj => heap_setCell_other _ _ _ _ (show j ≠ q by have := (hown'.lt j hj).1; omega)
        rw [List.replicate_succ']
        simpa [ivs] using hown'
      have hb3 : Below q w (W2.setCell ⟨q, 1, none⟩ v') := ⟨hb2.os, hb2.tape, hb2.output, by simpa using hb2.size, fun j hj => (heap_setCell_other _ _ _ _ (show j ≠ q by omega)).trans (hb2.block j hj)⟩
      have hfin : ∃ (k' : Nat) (v1 : Value), k' ≤ s ∧ Value.int .i64 ((k : Int) + 1) = .int .i64 k' ∧ (W2.setCell ⟨q, 1, none⟩ v').heap[q]? = some (.cells #[.int .i64 g, v1] 60 (0, 0)) ∧ (W2.setCell ⟨q, 1, none⟩ v').ownsRow (q + 1) 3 1 v1 k' (ivs (List.replicate k' (-1))) ∧ Below q w (W2.setCell ⟨q, 1, none⟩ v') :=
        ⟨k + 1, v', hlt, by simp, hh3, ho3, hb3⟩
      clear hh3 ho3 hb3 hb2 hown' hgrow
      subst hv'
      go_wp2
      exact ⟨hfin, by simp only [wdInt]; omega⟩
    · have hltI : ¬ (k : Int) < (s : Int) := by omega
      obtain rfl : k = s := by omega
      obtain ⟨gr, cap, rfl⟩ : ∃ gr cap, v = .slice (some ⟨gr, 0, none⟩) k cap := by
        rcases hown.2 with ⟨_, h⟩ | ⟨gr, cap, cur, h, _⟩
        · omega
        · exact ⟨gr, cap, h⟩
      go_wp2
      go_ret
      exact ⟨rfl, ⟨gr, cap, by rw [List.length_replicate]; exact hh, by rw [List.length_replicate]; exact hown⟩, hb⟩
end Go.Proofs
