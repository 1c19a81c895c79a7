/-
  Seat 06 (epoch): Busy, walked with the kit.
-/
import Derived.Test.YtlchgobakkodbaaEZ
import Derived.Test.YtlchgobakkodbaaES
namespace Go.Proofs
open Go.RowKit Go.Maps Go.Sort Go.Shelf
set_option linter.unusedSimpArgs false
set_option linter.unusedVariables false
set_option maxHeartbeats 4000000
set_option maxRecDepth 1000000
theorem Try.sortsZ (m : Nat) : AnyZI.SortsIn Try.prog Try.sortedZ_ren Fence.wide m :=
  ⟨fun blk off cap ss W hH hblk hsz => callsIn_wide.2 (AnyM.slices_Sort_int Try.sortZ blk off cap ss W hH hblk hsz),
   fun p cap W => callsIn_wide.2 (AnyM.slices_Sort_int_none Try.sortZ p cap W)⟩
theorem keys_walk (mb : Option Nat) (w : World) :
    Calls Try.prog 29 #[.map mb] w fun e w' => e = .returned (.func (.func 31) #[] #[.pointer (some ⟨w.heap.size, 0, none⟩)]) ∧ w' = w.alloc (.cells #[.map mb] 49) := by
  go_enter Try.func29, Try.ntmps29
  go_wp2
  go_ret
  exact ⟨rfl, rfl⟩
theorem intKeys_mem {w : World} {b nn : Nat} {D0 : DataW Nat} (hown : w.ownsMap Try.prog 3 (plainElem Try.prog 3) b nn D0) : (intKeys D0).Nodup ∧ ∀ x, x ∈ intKeys D0 ↔ has D0 (.int .i64 x) = true := by
  obtain ⟨es, hD, hp, _⟩ := hown.entries (int_keyed Try.underlying3)
  obtain ⟨es', hD', hko⟩ := hown.keysOf
  obtain rfl : es = es' := by rw [hD] at hD'; simpa using hD'
  subst hD
  have hk : ∀ p ∈ es, ∃ x, p.1 = .int .i64 x := fun p hp => by obtain ⟨v, hv⟩ := hko p hp; obtain ⟨x, _, hx, _⟩ := Maps.keyOf_i64 Try.underlying3 hv; exact ⟨x, hx⟩
  constructor
  · show (es.map fun p => Go.intOf p.1).Nodup
    refine List.pairwise_map.2 (hp.imp_of_mem fun {p q} hp' hq' hne e => hne ?_)
    obtain ⟨a, ha⟩ := hk p hp'
    obtain ⟨b, hb⟩ := hk q hq'
    rw [ha, hb] at e ⊢
    exact congrArg _ e
  · intro x
    rw [has_eq, List.any_eq_true]
    show (x ∈ es.map fun p => Go.intOf p.1) ↔ _
    rw [List.mem_map]
    constructor
    · rintro ⟨p, hp', rfl⟩
      obtain ⟨a, ha⟩ := hk p hp'
      exact ⟨p, hp', by rw [ha]; simp [Lit.sameKey, Go.intOf]⟩
    · rintro ⟨p, hp', hs⟩
      obtain ⟨a, ha⟩ := hk p hp'
      rw [ha] at hs
      exact ⟨p, hp', by rw [ha]; simpa [Lit.sameKey, Go.intOf] using hs⟩
theorem sorted_walk {w : World} {Bm b nn : Nat} {D0 : DataW Nat} (hBm : Bm < w.heap.size) (hm : w.cell? ⟨Bm, 0, none⟩ = some (.map (some b))) (hown : w.ownsMap Try.prog 3 (plainElem Try.prog 3) b nn D0) (hsz : Maps.size D0 ≤ 1000000) :
    Calls Try.prog 28 #[.func (.func 31) #[] #[.pointer (some ⟨Bm, 0, none⟩)]] w fun e w' => ∃ (v : Value) (ss : List Int), e = .returned v ∧ w'.ownsRow w.heap.size 3 1 v ss.length (ivs ss) ∧ ss.Pairwise (· < ·) ∧ (∀ x, x ∈ ss ↔ has D0 (.int .i64 x) = true) ∧ (∀ x ∈ ss, WFi x) ∧ Below w.heap.size w w' := by
  refine (callsIn_wide (n := 6)).1 ?_
  have h := AnyZI.sorted_in Try.sortedZ Fence.wide 6 trivial trivial trivial trivial rfl (by omega) (Try.sortsZ _) (enters_of Try.func30 (by kernel_rfl) rfl) 31 #[.pointer (some ⟨Bm, 0, none⟩)] trivial (enters_of Try.func31 (by kernel_rfl) rfl) _ (Maps.size D0) (by unfold maxLen; omega) (by omega) w
    (AnyZI.keys_gives (ρ := Try.keysZ_ren) { Try.keysZ with } Fence.wide _ trivial rfl (by omega) Bm b nn D0 w hBm hm hown)
  change CallsIn _ _ Try.prog 28 _ _ _ at h
  refine h.mono ?_
  rintro e w' ⟨v, ss, h1, h2, h3, h4, h5⟩
  have hpm : (ss.mergeSort leI).Perm (intKeys D0) := (List.mergeSort_perm ss leI).trans h2
  obtain ⟨hn, hmem⟩ := intKeys_mem hown
  have tr : ∀ a b c : Int, leI a b = true → leI b c = true → leI a c = true := fun a b c h1 h2 => by simp only [leI, decide_eq_true_eq] at *; exact Int.le_trans h1 h2
  have tt : ∀ a b : Int, (leI a b || leI b a) = true := fun a b => by simp only [leI, Bool.or_eq_true, decide_eq_true_eq]; exact Int.le_total a b
  refine ⟨v, ss.mergeSort leI, h1, ?_, ?_, fun x => (hpm.mem_iff).trans (hmem x), fun x hx => intKeys_wf hown Try.underlying3 x (hpm.mem_iff.1 hx), h5⟩
  · rw [List.length_mergeSort]; exact h3
  · have q1 := List.pairwise_mergeSort tr tt ss
    have q2 : (ss.mergeSort leI).Nodup := hpm.nodup_iff.2 hn
    exact (q1.and q2).imp fun {a b} ⟨x1, x2⟩ => by simp only [leI, decide_eq_true_eq] at x1; omega
/-- Busy: the sessions that are in an epoch, in order. -/
theorem busy_walk {w : World} {p b C : Nat} {s g : Int} {f : Int → Option Int} (h : Tab w p b s g f C) (hC : C ≤ 100000) :
    Calls Try.prog 25 #[.pointer (some ⟨p, 0, none⟩)] w fun e w' => ∃ (v : Value) (ss : List Int), e = .returned v ∧ w'.ownsRow w.heap.size 3 1 v ss.length (ivs ss) ∧ ss.Pairwise (· < ·) ∧ (∀ x, x ∈ ss ↔ WFi x ∧ (f x).isSome = true) ∧ Below w.heap.size w w' := by
  obtain ⟨D, ⟨hh, nn, hnn, hown⟩, hrd⟩ := h
  have c2 := cells_at hh 2
  simp only [List.getElem?_toArray, List.getElem?_cons_zero, List.getElem?_cons_succ] at c2
  have hsz : Maps.size D ≤ 1000000 := by have := hown.size_le; omega
  have hs := sorted_walk (w := w.alloc (.cells #[.map (some b)] 49)) (Bm := w.heap.size) (by simp) (World.cell?_alloc_at _ _ _ _ rfl) (ownsMap_grow hown (Below.heap_alloc _ _ b hown.lt)) hsz
  go_enter Try.func25, Try.ntmps25
  go_wp2_with (go_at_call 29; refine (keys_walk _ _).mono ?_)
  rintro e W ⟨rfl, rfl⟩
  go_wp2_with (go_at_call 28; refine hs.mono ?_)
  rintro e W ⟨v, ss, rfl, h3, h4, h5, h6, h7⟩
  go_wp2
  go_ret
  refine ⟨v, ss, rfl, ownsRow_base_a h3 (by simp), h4, fun x => ⟨fun hx => ?_, fun ⟨hx, hf⟩ => ?_⟩, ((Below.refl _ w).alloc (Nat.le_refl _) _).trans (h7.mono (by simp))⟩
  · have := h6 x hx
    exact ⟨this, by rw [← (hrd x this).1]; exact (h5 x).1 hx⟩
  · exact (h5 x).2 (by rw [(hrd x hx).1]; exact hf)
end Go.Proofs
