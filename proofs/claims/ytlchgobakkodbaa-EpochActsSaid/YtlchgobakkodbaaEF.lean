/-
  Seat 06 (epoch): the law EpochActs.
-/
import Derived.Test.YtlchgobakkodbaaEE
namespace Go.Proofs
open Go.RowKit Go.Maps Go.Shelf Ytlchgobakkodbaa
set_option linter.unusedSimpArgs false
set_option linter.unusedVariables false
set_option maxHeartbeats 4000000
set_option maxRecDepth 1000000
theorem Inv6.set {g : Int} {L : List Int} (h : Inv6 g L) (i : Nat) {v : Int} (hv : v = -1 ∨ (g - 1 ≤ v ∧ v ≤ g ∧ 0 ≤ v)) : Inv6 g (L.set i v) :=
  ⟨h.1, h.2.1, fun u hu => by
    rcases List.mem_or_eq_of_mem_set hu with hu | rfl
    · exact h.2.2 u hu
    · exact hv⟩
theorem entR_inv {g : Int} {L : List Int} (h : Inv6 g L) (x : Int) : Inv6 g (entR L g x).2.2 ∧ (entR L g x).2.2.length = L.length := by
  unfold entR
  split
  · exact ⟨h, rfl⟩
  · split
    · exact ⟨h, rfl⟩
    · exact ⟨h.set _ (.inr ⟨by omega, by omega, h.1⟩), by simp⟩
theorem leaR_inv {g : Int} {L : List Int} (h : Inv6 g L) (x : Int) (again : Bool) : Inv6 g (leaR L g x again).2.2 ∧ (leaR L g x again).2.2.length = L.length := by
  unfold leaR
  split
  · exact ⟨h, rfl⟩
  · split
    · exact ⟨h, rfl⟩
    · split
      · exact ⟨h.set _ (.inr ⟨by omega, by omega, h.1⟩), by simp⟩
      · exact ⟨h.set _ (.inl rfl), by simp⟩
theorem advR_inv {g : Int} {L : List Int} (h : Inv6 g L) : Inv6 (advR L g).2.2 L := by
  unfold advR
  split
  · exact h
  · split
    · exact h
    · rename_i h1 h2
      obtain ⟨a, b, c⟩ := h
      have hm : minR g L = g := by simpa using h2
      refine ⟨by show (0 : Int) ≤ g + 1; omega, by show g + 1 ≤ 2147483647; omega, fun v hv => ?_⟩
      show v = -1 ∨ (g + 1 - 1 ≤ v ∧ v ≤ g + 1 ∧ 0 ≤ v)
      rcases c v hv with e | ⟨e1, e2, e3⟩
      · exact .inl e
      · have := (minR_le g L).2 v hv e3
        exact .inr ⟨by omega, by omega, e3⟩
theorem leaR_zero (L : List Int) (g x : Int) : (leaR L g x false).1 = 0 := by
  unfold leaR
  split
  · rfl
  · split <;> rfl
theorem Tab.keep {w w' : World} {p b C : Nat} {s g : Int} {f : Int → Option Int} (h : Tab w p b s g f C) (h1 : w'.heap[p]? = w.heap[p]?) (h2 : w'.heap[b]? = w.heap[b]?) : Tab w' p b s g f C := by
  obtain ⟨D, ⟨a1, nn, a2, a3⟩, a4⟩ := h
  exact ⟨D, ⟨h1.trans a1, nn, a2, ownsMap_grow a3 h2⟩, a4⟩
/-- The table and the reference's, both made since w0. -/
def Bo (w0 W : World) (p b q gr cap : Nat) (g : Int) (L : List Int) (C : Nat) (g' : Int) (L' : List Int) : Prop :=
  Tab W p b L.length g (rdL L) C ∧ RefT W q gr cap g' L' ∧ w0.heap.size ≤ p ∧ w0.heap.size ≤ b ∧ p < q ∧ b < q ∧ Below w0.heap.size w0 W
theorem Bo.t {w0 W W' : World} {p b q gr cap C C1 : Nat} {g g' g1 : Int} {L L' L1 : List Int} (h : Bo w0 W p b q gr cap g L C g' L') (hc : ChgT p b W W') (ht : Tab W' p b L1.length g1 (rdL L1) C1) : Bo w0 W' p b q gr cap g1 L1 C1 g' L' := by
  obtain ⟨a1, a2, a3, a4, a5, a6, a7⟩ := h
  have hlt := a2.lt
  exact ⟨ht, a2.keep (hc.block q (by omega) (by omega) (by omega)) (hc.block gr (by omega) (by omega) (by omega)), a3, a4, a5, a6, a7.trans (hc.below a3 a4 a7.size)⟩
theorem Bo.r {w0 W W' : World} {p b q gr cap C : Nat} {g g' g1 : Int} {L L' L1 : List Int} (h : Bo w0 W p b q gr cap g L C g' L') (hc : ChgT q gr W W') (ht : RefT W' q gr cap g1 L1) : Bo w0 W' p b q gr cap g L C g1 L1 := by
  obtain ⟨a1, a2, a3, a4, a5, a6, a7⟩ := h
  have hlt := a2.lt
  have hlp := a1.lt
  exact ⟨a1.keep (hc.block p (by omega) (by omega) (by omega)) (hc.block b (by omega) (by omega) (by omega)), ht, a3, a4, a5, a6, a7.trans (hc.below (by omega) (by omega) a7.size)⟩
theorem Bo.grow {w0 W W' : World} {p b q gr cap C : Nat} {g g' : Int} {L L' : List Int} (h : Bo w0 W p b q gr cap g L C g' L') (hb : Below W.heap.size W W') : Bo w0 W' p b q gr cap g L C g' L' := by
  have h2 := (h.2.1).grow hb
  exact (h.t (.of_below hb) (h.1.grow hb))
theorem Bo.below {w0 W : World} {p b q gr cap C : Nat} {g g' : Int} {L L' : List Int} (h : Bo w0 W p b q gr cap g L C g' L') : Below w0.heap.size w0 W := h.2.2.2.2.2.2
theorem isV_ent (L : List Int) (g x : Int) : isV L.length (rdL L) x false 31 = (entR L g x).2.1 := by
  unfold isV entR
  by_cases h : x < 0 ∨ (L.length : Int) ≤ x
  · rw [if_pos h, if_pos h]
  · rw [if_neg h, if_neg h]
    by_cases h1 : 0 ≤ L.getD x.toNat (-1)
    · rw [if_pos h1]
      have : rdL L x = some (L.getD x.toNat (-1)) := if_pos ⟨by omega, by omega, h1⟩
      rw [this]; rfl
    · rw [if_neg h1]
      have : rdL L x = none := if_neg fun h => h1 h.2.2
      rw [this]; rfl
theorem isV_lea (L : List Int) (g x : Int) (again : Bool) : isV L.length (rdL L) x true 51 = (leaR L g x again).2.1 := by
  unfold isV leaR
  by_cases h : x < 0 ∨ (L.length : Int) ≤ x
  · rw [if_pos h, if_pos h]
  · rw [if_neg h, if_neg h]
    by_cases h1 : L.getD x.toNat (-1) < 0
    · rw [if_pos h1]
      have : rdL L x = none := if_neg fun h => by omega
      rw [this]; rfl
    · rw [if_neg h1]
      have : rdL L x = some (L.getD x.toNat (-1)) := if_pos ⟨by omega, by omega, by omega⟩
      rw [this]
      cases again <;> rfl
theorem entR_ok {L : List Int} {g x : Int} (hg : 0 ≤ g) (h : (entR L g x).2.1 = 0) : (entR L g x).1 = g ∧ (entR L g x).2.2.length = L.length ∧ updI (rdL L) x (some g) = rdL (entR L g x).2.2 := by
  unfold entR at h ⊢
  split at h
  · simp at h
  · rename_i h1
    split at h
    · simp at h
    · rename_i h2
      rw [if_neg h1, if_neg h2]
      refine ⟨rfl, by simp, ?_⟩
      show _ = rdL (L.set x.toNat g)
      rw [rdL_set g (by omega) (by omega), if_pos hg]
theorem entR_err {L : List Int} {g x : Int} (h : (entR L g x).2.1 ≠ 0) : (entR L g x).1 = 0 ∧ (entR L g x).2.2 = L := by
  unfold entR at h ⊢
  split
  · exact ⟨rfl, rfl⟩
  · rename_i h1
    rw [if_neg h1] at h
    split
    · exact ⟨rfl, rfl⟩
    · rename_i h2
      rw [if_neg h2] at h
      exact (h rfl).elim
theorem leaR_ok {L : List Int} {g x : Int} {again : Bool} (hg : 0 ≤ g) (h : (leaR L g x again).2.1 = 0) : (leaR L g x again).1 = (if again then g else 0) ∧ (leaR L g x again).2.2.length = L.length ∧ updI (rdL L) x (if again then some g else none) = rdL (leaR L g x again).2.2 := by
  unfold leaR at h ⊢
  split at h
  · simp at h
  · rename_i h1
    split at h
    · simp at h
    · rename_i h2
      rw [if_neg h1, if_neg h2]
      cases again
      · refine ⟨rfl, by simp, ?_⟩
        show _ = rdL (L.set x.toNat (-1))
        rw [rdL_set (-1) (by omega) (by omega), if_neg (by decide)]
        rfl
      · refine ⟨rfl, by simp, ?_⟩
        show _ = rdL (L.set x.toNat g)
        rw [rdL_set g (by omega) (by omega), if_pos hg]
        rfl
theorem leaR_err {L : List Int} {g x : Int} {again : Bool} (h : (leaR L g x again).2.1 ≠ 0) : (leaR L g x again).1 = 0 ∧ (leaR L g x again).2.2 = L := by
  unfold leaR at h ⊢
  split
  · exact ⟨rfl, rfl⟩
  · rename_i h1
    rw [if_neg h1] at h
    split
    · exact ⟨rfl, rfl⟩
    · rename_i h2
      rw [if_neg h2] at h
      cases again <;> exact (h rfl).elim
section
variable {w0 W : World} {p b q gr cap C : Nat} {g g' : Int} {L L' : List Int}
theorem enter_b (h : Bo w0 W p b q gr cap g L C g' L') (hC : C ≤ 100000) (hi : Inv6 g L) (x : Int) (hx : WFi x) :
    Calls Try.prog 9 #[.pointer (some ⟨p, 0, none⟩), .int .i64 x] W fun e W' => ∃ C1, C1 ≤ C + 1 ∧ e = .returned (.tuple #[.int .i64 (entR L g x).1, .int .i64 (entR L g x).2.1]) ∧ Bo w0 W' p b q gr cap g (entR L g x).2.2 C1 g' L' := by
  obtain ⟨i0, i1, _⟩ := hi
  have hv := isV_ent L g x
  by_cases he : (entR L g x).2.1 = 0
  · obtain ⟨o1, o2, o3⟩ := entR_ok i0 he
    refine (enter_ok h.1 hC x hx (wfi (by omega) (by omega)) (hv.trans he)).mono ?_
    rintro e w' ⟨rfl, e2, e3⟩
    rw [o1, he]
    rw [o3, ← o2] at e2
    exact ⟨C + 1, Nat.le_refl _, rfl, h.t e3 e2⟩
  · obtain ⟨o1, o2⟩ := entR_err he
    refine (enter_err h.1 x hx (fun h0 => he (hv.symm.trans h0))).mono ?_
    rintro e w' ⟨rfl, rfl⟩
    rw [o1, o2, hv]
    exact ⟨C, by omega, rfl, h⟩
theorem leave_b (h : Bo w0 W p b q gr cap g L C g' L') (hC : C ≤ 100000) (hi : Inv6 g L) (x : Int) (hx : WFi x) :
    Calls Try.prog 12 #[.pointer (some ⟨p, 0, none⟩), .int .i64 x] W fun e W' => ∃ C1, C1 ≤ C + 1 ∧ e = .returned (.int .i64 (leaR L g x false).2.1) ∧ Bo w0 W' p b q gr cap g (leaR L g x false).2.2 C1 g' L' := by
  obtain ⟨i0, i1, _⟩ := hi
  have hv := isV_lea L g x false
  by_cases he : (leaR L g x false).2.1 = 0
  · obtain ⟨o1, o2, o3⟩ := leaR_ok i0 he
    refine (leave_ok h.1 x hx (hv.trans he)).mono ?_
    rintro e w' ⟨rfl, e2, e3⟩
    rw [he]
    simp only [Bool.false_eq_true, if_false] at o3
    rw [o3, ← o2] at e2
    exact ⟨C, by omega, rfl, h.t e3 e2⟩
  · obtain ⟨o1, o2⟩ := leaR_err he
    refine (leave_err h.1 x hx (fun h0 => he (hv.symm.trans h0))).mono ?_
    rintro e w' ⟨rfl, rfl⟩
    rw [o2, hv]
    exact ⟨C, by omega, rfl, h⟩
theorem refresh_b (h : Bo w0 W p b q gr cap g L C g' L') (hC : C ≤ 100000) (hi : Inv6 g L) (x : Int) (hx : WFi x) :
    Calls Try.prog 14 #[.pointer (some ⟨p, 0, none⟩), .int .i64 x] W fun e W' => ∃ C1, C1 ≤ C + 1 ∧ e = .returned (.tuple #[.int .i64 (leaR L g x true).1, .int .i64 (leaR L g x true).2.1]) ∧ Bo w0 W' p b q gr cap g (leaR L g x true).2.2 C1 g' L' := by
  obtain ⟨i0, i1, _⟩ := hi
  have hv := isV_lea L g x true
  by_cases he : (leaR L g x true).2.1 = 0
  · obtain ⟨o1, o2, o3⟩ := leaR_ok i0 he
    refine (refresh_ok h.1 hC x hx (wfi (by omega) (by omega)) (hv.trans he)).mono ?_
    rintro e w' ⟨rfl, e2, e3⟩
    rw [o1, he]
    simp only [if_true] at o3 ⊢
    rw [o3, ← o2] at e2
    exact ⟨C + 1, by omega, trivial, h.t e3 e2⟩
  · obtain ⟨o1, o2⟩ := leaR_err he
    refine (refresh_err h.1 x hx (fun h0 => he (hv.symm.trans h0))).mono ?_
    rintro e w' ⟨rfl, rfl⟩
    rw [o1, o2, hv]
    exact ⟨C, by omega, rfl, h⟩
theorem adv_b (h : Bo w0 W p b q gr cap g L C g' L') (hC : C ≤ 100000) (hl : L.length ≤ 64) (hi : Inv6 g L) :
    Calls Try.prog 8 #[.pointer (some ⟨p, 0, none⟩)] W fun e W' => ∃ C1, C1 ≤ C + 1 ∧ e = .returned (.tuple #[.int .i64 (advR L g).1, .int .i64 (advR L g).2.1]) ∧ Bo w0 W' p b q gr cap (advR L g).2.2 L C1 g' L' := by
  obtain ⟨i0, i1, _⟩ := hi
  by_cases he : g = 2147483647
  · rw [show advR L g = (0, 40, g) from if_pos he]
    subst he
    refine (adv_max h.1).mono ?_
    rintro e w' ⟨rfl, rfl⟩
    exact ⟨C, by omega, rfl, h⟩
  · refine (adv_walk h.1 hC he i0 i1).mono ?_
    rintro e w' ⟨m, hm, hch, hh⟩
    obtain rfl := least_eq (by omega) hm
    rcases hh with ⟨h1, rfl, h3⟩ | ⟨h1, rfl, h3⟩
    · rw [show advR L g = (0, 60, g) from (if_neg he).trans (if_pos (by omega))]
      exact ⟨C, by omega, rfl, h.t hch h3⟩
    · rw [show advR L g = (g + 1, 0, g + 1) from (if_neg he).trans (if_neg (by omega))]
      exact ⟨C, by omega, rfl, h.t hch h3⟩
theorem enterR_b (h : Bo w0 W p b q gr cap g L C g' L') (x : Int) :
    Calls Try.prog 16 #[.pointer (some ⟨q, 0, none⟩), .int .i64 x] W fun e W' => e = .returned (.tuple #[.int .i64 (entR L' g' x).1, .int .i64 (entR L' g' x).2.1]) ∧ Bo w0 W' p b q gr cap g L C g' (entR L' g' x).2.2 :=
  (enterR_walk h.2.1 x).mono fun e W' ⟨e1, e2, e3⟩ => ⟨e1, h.r e3 e2⟩
theorem leaveR_b (h : Bo w0 W p b q gr cap g L C g' L') (x : Int) (again : Bool) :
    Calls Try.prog 17 #[.pointer (some ⟨q, 0, none⟩), .int .i64 x, .bool again] W fun e W' => e = .returned (.tuple #[.int .i64 (leaR L' g' x again).1, .int .i64 (leaR L' g' x again).2.1]) ∧ Bo w0 W' p b q gr cap g L C g' (leaR L' g' x again).2.2 :=
  (leaveR_walk h.2.1 x again).mono fun e W' ⟨e1, e2, e3⟩ => ⟨e1, h.r e3 e2⟩
theorem advR_b (h : Bo w0 W p b q gr cap g L C g' L') (hl : L'.length ≤ 64) (hi : Inv6 g' L') :
    Calls Try.prog 18 #[.pointer (some ⟨q, 0, none⟩)] W fun e W' => e = .returned (.tuple #[.int .i64 (advR L' g').1, .int .i64 (advR L' g').2.1]) ∧ Bo w0 W' p b q gr cap g L C (advR L' g').2.2 L' :=
  (advR_walk h.2.1 (by omega) hi.1 hi.2.1).mono fun e W' ⟨e1, e2, e3⟩ => ⟨e1, h.r e3 e2⟩
theorem told_b (h : Bo w0 W p b q gr cap g L C g L) (hC : C ≤ 100000) (hl : L.length ≤ 64) (hi : Inv6 g L) :
    Calls Try.prog 19 #[.pointer (some ⟨p, 0, none⟩), .pointer (some ⟨q, 0, none⟩)] W fun e W' => e = .returned (.bool true) ∧ Bo w0 W' p b q gr cap g L C g L :=
  (told_walk h.1 h.2.1 hC hl hi).mono fun e W' ⟨e1, e2⟩ => ⟨e1, h.grow e2⟩
end
theorem entR_code (L : List Int) (g x : Int) : 0 ≤ (entR L g x).2.1 ∧ (entR L g x).2.1 ≤ 100 := by
  unfold entR
  split
  · simp
  · split <;> simp
theorem leaR_code (L : List Int) (g x : Int) (again : Bool) : 0 ≤ (leaR L g x again).2.1 ∧ (leaR L g x again).2.1 ≤ 100 := by
  unfold leaR
  split
  · simp
  · split
    · simp
    · split <;> simp
theorem advR_code (L : List Int) (g : Int) : 0 ≤ (advR L g).2.1 ∧ (advR L g).2.1 ≤ 100 := by
  unfold advR
  split
  · simp
  · split <;> simp
theorem wrap6 {c : Int} (h0 : 0 ≤ c) (h1 : c ≤ 100) : IntKind.i64.wrap c = c := by
  simp (disch := omega) only [Go.AL.wrap_i64]
theorem fin6 {w0 W : World} {p b q gr cap C k : Nat} {g : Int} {L : List Int} {c : Int} (t : Bo w0 W p b q gr cap g L C g L) (a : Int) (hc : 0 ≤ c ∧ c ≤ 100) (hC : C ≤ k + 1) (hL : L.length ≤ 64) (hi : Inv6 g L) :
    ∃ (a' c' : Int) (g' : Int) (L' : List Int) (C' : Nat), Value.int .i64 a = .int .i64 a' ∧ Value.int .i64 c = .int .i64 c' ∧ Value.int .i64 a = .int .i64 a' ∧ Value.int .i64 c = .int .i64 c' ∧ 0 ≤ c' ∧ c' ≤ 100 ∧ C' ≤ k + 1 ∧ L'.length ≤ 64 ∧ Inv6 g' L' ∧ Bo w0 W p b q gr cap g' L' C' g' L' :=
  ⟨a, c, g, L, C, rfl, rfl, rfl, rfl, hc.1, hc.2, hC, hL, hi, t⟩
theorem acts_walk (w : World) (s0 first : Int) (v : Value) (acts : List AL.Act6) (hv : ActsP w v acts) (hfit : ∀ x ∈ acts, x.fit) :
    Calls Try.prog 5 #[.int .i64 s0, .int .i64 first, v] w fun e w' => e = .returned (.bool true) ∧ Below w.heap.size w w' := by
  have hlen : ∃ a c, v = .slice a acts.length c := by
    rcases hv with ⟨rfl, a, rfl⟩ | ⟨b, off, cap, rfl, _⟩ <;> exact ⟨_, _, rfl⟩
  obtain ⟨va, vc, hvv⟩ := hlen
  rw [hvv]
  go_enter Try.func5, Try.ntmps5
  go_wp2_with (go_at_call 6; refine (awake_walk w).mono ?_)
  rintro e w1 ⟨rfl, hb1⟩
  by_cases hl : acts.length ≤ 200
  · have hl' : ¬ (200 < (acts.length : Int)) := by omega
    by_cases h1 : s0 < 1
    · go_wp2_with (go_at_call 7; refine (newT_err s0 first (.inl h1)).mono ?_)
      rintro e w2 ⟨rfl, rfl⟩
      go_wp2
      go_ret
      exact ⟨rfl, hb1⟩
    by_cases h2 : 64 < s0
    · go_wp2_with (go_at_call 7; refine (newT_err s0 first (.inr (.inl h2))).mono ?_)
      rintro e w2 ⟨rfl, rfl⟩
      go_wp2
      go_ret
      exact ⟨rfl, hb1⟩
    by_cases h3 : first < 0
    · go_wp2_with (go_at_call 7; refine (newT_err s0 first (.inr (.inr (.inl h3)))).mono ?_)
      rintro e w2 ⟨rfl, rfl⟩
      go_wp2
      go_ret
      exact ⟨rfl, hb1⟩
    by_cases h4 : 2147483647 < first
    · go_wp2_with (go_at_call 7; refine (newT_err s0 first (.inr (.inr (.inr h4)))).mono ?_)
      rintro e w2 ⟨rfl, rfl⟩
      go_wp2
      go_ret
      exact ⟨rfl, hb1⟩
    obtain ⟨n, rfl⟩ : ∃ n : Nat, s0 = n := ⟨s0.toNat, by omega⟩
    go_wp2_with (go_at_call 7; refine (newT_walk n first ?a1 ?a2 ?a3 ?a4).mono ?_)
    case a1 => omega
    case a2 => omega
    case a3 => omega
    case a4 => omega
    rintro e w2 ⟨rfl, hT, hb⟩
    have hb2 : Below w.heap.size w w2 := hb1.trans (hb.mono hb1.size)
    have hp1 : w.heap.size ≤ w1.heap.size := hb1.size
    have hlt := hT.lt
    clear hb hb1
    generalize hpp : w1.heap.size + 1 = p at *
    generalize hbb : w1.heap.size = b at *
    go_wp2_with (go_at_call 15; refine (newR_walk w2 n first ?b1 ?b2).mono ?_)
    case b1 => omega
    case b2 => omega
    rintro e w3 ⟨gr, cap, rfl, hR, hb3⟩
    have t1 : Bo w w3 p b w2.heap.size gr cap first (List.replicate n (-1)) 0 first (List.replicate n (-1)) := by
      refine ⟨?_, hR, by omega, hp1, hlt.1, hlt.2.1, hb2.trans (hb3.mono hb2.size)⟩
      rw [rdL_none, List.length_replicate]
      exact hT.grow hb3
    have hi1 : Inv6 first (List.replicate n (-1)) := ⟨by omega, by omega, fun v hv => .inl (List.eq_of_mem_replicate hv)⟩
    have hn1 : (List.replicate n (-1 : Int)).length ≤ 64 := by rw [List.length_replicate]; omega
    generalize List.replicate n (-1 : Int) = L0 at *
    generalize w2.heap.size = q at *
    clear hT hR hb2 hb3 hlt hpp hbb hp1
    go_wp2
    go_loopw [10] (fun i wr => ∃ k : Nat, k ≤ acts.length ∧ i = .int .i64 k ∧ ∃ g L C, C ≤ k ∧ L.length ≤ 64 ∧ Inv6 g L ∧ Bo w wr p b q gr cap g L C g L)
      (fun i _ => acts.length - (wdInt i).toNat)
    case atStart => exact ⟨0, Nat.zero_le _, rfl, first, L0, 0, Nat.le_refl _, hn1, hi1, t1⟩
    case round =>
      obtain ⟨k, hk, rfl, g, L, C, hC, hL, hi, t2⟩ := hrel
      by_cases hlt : k < acts.length
      · rcases hv with ⟨rfl, _⟩ | ⟨bb, off, cc, hv0, hcell⟩
        · simp at hlt
        obtain ⟨rfl, rfl⟩ : va = some ⟨bb, off, none⟩ ∧ vc = cc := by rw [hvv] at hv0; cases hv0; exact ⟨rfl, rfl⟩
        obtain ⟨hbw, q0, q1⟩ := hcell k hlt
        have hxf := hfit acts[k] (List.getElem_mem hlt)
        have hltI : (k : Int) < (acts.length : Int) := by omega
        generalize acts[k] = x at *
        obtain ⟨kk, ss⟩ := x
        dsimp only at q0 q1
        have hss : WFi ss := wfi hxf.1 hxf.2
        clear hcell
        have hb4 := t2.below
        rw [← hb4.cell (p := ⟨bb, _, none⟩) hbw] at q0 q1
        have hC2 : C ≤ 100000 := by omega
        have i1 : (0 : Int) ≤ (k : Int) := by omega
        go_upto_region 14 with fail
        go_step
        iterate 18 (first | go_upon | go_back | go_step)
        go_cut [12, 13, 14, 15] from 59 to 139 (fun s12 s13 s14 s15 wx => ∃ (a c : Int) (g' : Int) (L' : List Int) (C' : Nat), s12 = .int .i64 a ∧ s13 = .int .i64 c ∧ s14 = .int .i64 a ∧ s15 = .int .i64 c ∧ 0 ≤ c ∧ c ≤ 100 ∧ C' ≤ k + 1 ∧ L'.length ≤ 64 ∧ Inv6 g' L' ∧ Bo w wx p b q gr cap g' L' C' g' L')
        case first =>
          by_cases k0 : kk = 0
          · subst k0
            go_wp2_with (go_at_call 9; refine (enter_b t2 hC2 hi ss hss).mono ?_)
            rintro e W5 ⟨C1, hC1, rfl, t5⟩
            go_wp2_with (go_at_call 16; refine (enterR_b t5 ss).mono ?_)
            rintro e W6 ⟨rfl, t6⟩
            have hfin := fin6 t6 (entR L g ss).1 (entR_code L g ss) (by omega : C1 ≤ k + 1) ((entR_inv hi ss).2.symm ▸ hL) (entR_inv hi ss).1
            go_wp2
            go_meet
            exact hfin
          by_cases k1 : kk = 1
          · subst k1
            go_wp2_with (go_at_call 12; refine (leave_b t2 hC2 hi ss hss).mono ?_)
            rintro e W5 ⟨C1, hC1, rfl, t5⟩
            go_wp2_with (go_at_call 17; refine (leaveR_b t5 ss false).mono ?_)
            rintro e W6 ⟨rfl, t6⟩
            have hfin := fin6 t6 (leaR L g ss false).1 (leaR_code L g ss false) (by omega : C1 ≤ k + 1) ((leaR_inv hi ss false).2.symm ▸ hL) (leaR_inv hi ss false).1
            rw [leaR_zero] at hfin ⊢
            go_wp2
            go_meet
            exact hfin
          by_cases k2 : kk = 2
          · subst k2
            go_wp2_with (go_at_call 14; refine (refresh_b t2 hC2 hi ss hss).mono ?_)
            rintro e W5 ⟨C1, hC1, rfl, t5⟩
            go_wp2_with (go_at_call 17; refine (leaveR_b t5 ss true).mono ?_)
            rintro e W6 ⟨rfl, t6⟩
            have hfin := fin6 t6 (leaR L g ss true).1 (leaR_code L g ss true) (by omega : C1 ≤ k + 1) ((leaR_inv hi ss true).2.symm ▸ hL) (leaR_inv hi ss true).1
            go_wp2
            go_meet
            exact hfin
          by_cases k3 : kk = 3
          · subst k3
            go_wp2_with (go_at_call 8; refine (adv_b t2 hC2 hL hi).mono ?_)
            rintro e W5 ⟨C1, hC1, rfl, t5⟩
            go_wp2_with (go_at_call 18; refine (advR_b t5 hL hi).mono ?_)
            rintro e W6 ⟨rfl, t6⟩
            have hfin := fin6 t6 (advR L g).1 (advR_code L g) (by omega : C1 ≤ k + 1) hL (advR_inv hi)
            go_wp2
            go_meet
            exact hfin
          have hfin := fin6 t2 0 (c := 0) ⟨Int.le_refl _, by decide⟩ (by omega : C ≤ k + 1) hL hi
          go_wp2
          go_meet
          exact hfin
        case rest =>
          obtain ⟨a, c, g', L', C', rfl, rfl, rfl, rfl, hc0, hc1, hC', hL', hi', t6⟩ := hcut
          clear t2 q0 q1
          have hwr := wrap6 hc0 hc1
          go_wp2_with (go_at_call 19; refine (told_b t6 (by omega) hL' hi').mono ?_)
          rintro e W7 ⟨rfl, t7⟩
          go_wp2
          go_roundw
          case rel => exact ⟨k + 1, hlt, by simp, g', L', C', hC', hL', hi', t7⟩
          case measure => simp only [wdInt]; omega
      · have hltI : ¬ (k : Int) < (acts.length : Int) := by omega
        go_wp2
        go_ret
        exact ⟨rfl, t2.below⟩
  · have hl' : 200 < (acts.length : Int) := by omega
    go_wp2_with (go_at_call 6; refine (awake_walk w1).mono ?_)
    rintro e w2 ⟨rfl, hb2⟩
    go_wp2
    go_ret
    exact ⟨rfl, hb1.trans (hb2.mono hb1.size)⟩
end Go.Proofs
namespace Go.Proofs.Ytlchgobakkodbaa
open Go.AL
theorem repL3x {γ : Gh} {w : World} {l : Bool} {a b c : AVal} {vs : List Value} (h : RepL γ w l [a, b, c] vs) : ∃ u v z, vs = [u, v, z] ∧ Rep γ w l a u ∧ Rep γ w l b v ∧ Rep γ w l c z := by
  cases h with
  | cons h1 h2 => obtain ⟨v, z, rfl, h3, h4⟩ := repL2 h2; exact ⟨_, _, _, rfl, h1, h3, h4⟩
theorem acts_law (xs0 : List AVal) (h : FitsL [.int .i64, .int .i64, .slice (.agg [.int .i64, .int .i64]) 2 16] xs0) : ACall Try.prog 5 xs0 Sto.empty fun r _ => r = .bool true := by
  simp only [FitsL] at h
  obtain ⟨a, r, rfl, h1, a', r', rfl, h2, a'', r'', rfl, h3, rfl⟩ := h
  obtain ⟨m, rfl, hm1, hm2⟩ := h1
  obtain ⟨k, rfl, hk1, hk2⟩ := h2
  obtain ⟨l, rfl, hl⟩ := fits_acts6 h3
  have key : PCall Try.prog 5 [.int .i64 m, .int .i64 k, .slice (av6 l) 2 .ro] (.bool true) := .ofBelow fun γ w vs hr => by
    obtain ⟨u, v, z, rfl, q1, q2, q3⟩ := repL3x hr
    cases q1; cases q2
    exact (acts_walk w m k z l (rep_acts q3) hl).mono fun e w' ⟨e1, e2⟩ => ⟨_, e1, .bool _ _, e2⟩
  exact (key Sto.empty).mono fun r τ h => h.1
end Go.Proofs.Ytlchgobakkodbaa
