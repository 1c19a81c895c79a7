/-
  Seat 12 (limbo): Epochs, walked with the kit.
-/
import Derived.Test.YtakidnohmfebmaaMg
import Derived.Test.YtakidnohmfebmaaMe
import Derived.Shelf.SlicesG.Cells
namespace Go.Proofs
open Go.RowKit Go.Maps Go.Sort Go.Shelf Go.AL Ytakidnohmfebmaa
set_option linter.unusedSimpArgs false
set_option linter.unusedVariables false
set_option maxHeartbeats 4000000
set_option maxRecDepth 1000000
theorem Try.sortsZ (m : Nat) : AnyZI.SortsIn Try.prog Try.sortedZ_ren Fence.wide m :=
  ⟨fun blk off cap ss W hH hblk hsz => callsIn_wide.2 (AnyM.slices_Sort_int Try.sortZ blk off cap ss W hH hblk hsz),
   fun p cap W => callsIn_wide.2 (AnyM.slices_Sort_int_none Try.sortZ p cap W)⟩
theorem valuesF_walk (mb : Option Nat) (w : World) :
    Calls Try.prog 29 #[.map mb] w fun e w' => e = .returned (.func (.func 33) #[] #[.pointer (some ⟨w.heap.size, 0, none⟩)]) ∧ w' = w.alloc (.cells #[.map mb] 27) := by
  go_enter Try.func29, Try.ntmps29
  go_wp2
  go_ret
  exact ⟨rfl, rfl⟩
theorem sorted12 {w : World} {Bm b nn : Nat} {D0 : DataW Nat} (hBm : Bm < w.heap.size) (hm : w.cell? ⟨Bm, 0, none⟩ = some (.map (some b))) (hown : w.ownsMap Try.prog 30 (plainElem Try.prog 3) b nn D0) (hsz : Maps.size D0 ≤ 1000000) :
    Calls Try.prog 28 #[.func (.func 33) #[] #[.pointer (some ⟨Bm, 0, none⟩)]] w fun e w' => ∃ (v : Value) (ss : List Int), e = .returned v ∧ w'.ownsRow w.heap.size 3 1 v ss.length (ss.map (Value.int .i64)) ∧ ss.Pairwise (· ≤ ·) ∧ (∃ ps, AllOfL D0 ps ∧ ss.Perm (ps.map (·.2))) ∧ Below w.heap.size w w' := by
  refine (callsIn_wide (n := 6)).1 ?_
  have h := AnyZI.sorted_in Try.sortedZ Fence.wide 6 trivial trivial trivial trivial rfl (by omega) (Try.sortsZ _) (enters_of Try.func32 (by kernel_rfl) rfl) 33 #[.pointer (some ⟨Bm, 0, none⟩)] trivial (enters_of Try.func33 (by kernel_rfl) rfl) _ (Maps.size D0) (by unfold maxLen; omega) (by omega) w
    (values12_gives Fence.wide _ trivial rfl (by omega) Bm b nn D0 w hBm hm hown)
  change CallsIn _ _ Try.prog 28 _ _ _ at h
  refine h.mono ?_
  rintro e w' ⟨v, ss, h1, h2, h3, h4, h5⟩
  have tr : ∀ a b c : Int, leI a b = true → leI b c = true → leI a c = true := fun a b c h1 h2 => by simp only [leI, decide_eq_true_eq] at *; exact Int.le_trans h1 h2
  have tt : ∀ a b : Int, (leI a b || leI b a) = true := fun a b => by simp only [leI, Bool.or_eq_true, decide_eq_true_eq]; exact Int.le_total a b
  obtain ⟨ps, hps, rfl⟩ := h2
  refine ⟨v, (ps.map (·.2)).mergeSort leI, h1, ?_, ?_, ⟨ps, hps, List.mergeSort_perm _ _⟩, h5⟩
  · rw [List.length_mergeSort]; exact h3
  · exact (List.pairwise_mergeSort tr tt _).imp fun {a b} x1 => by simpa only [leI, decide_eq_true_eq] using x1
end Go.Proofs
