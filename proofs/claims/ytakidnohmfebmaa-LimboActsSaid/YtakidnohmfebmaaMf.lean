/-
  Seat 12 (limbo): the epochs of a limbo's keys: maps.Values over a map of keys (after the shelf's texts on maps.Values).
-/
import Derived.Test.YtakidnohmfebmaaLN
import Derived.Test.YtakidnohmfebmaaNS
import Derived.Shelf.SlIterI.Collect
import Derived.DeepKeys4
namespace Go.Proofs
open Go.RowKit Go.Maps Go.Sort Go.Shelf Ytakidnohmfebmaa
set_option linter.unusedSimpArgs false
set_option linter.unusedVariables false
theorem Try.laid12 : laidOutB Try.prog = true := by kernel_rfl
theorem keyLaw : WideMaps.KeyLaw Try.prog 30 := deep_law_laid Try.laid12 (m := 2) (by omega) (Nat.le_of_ble_eq_true (by kernel_rfl)) (by kernel_rfl) (by kernel_rfl)
theorem keyKeyed : Keyed Try.prog 30 := .of_law keyLaw
def ValAtL (D0 : DataW Nat) (p : Lit × Int) : Prop := ∀ zd, D0.atKey p.1 zd = .lit (.int .i64 p.2)
def CollL (D0 : DataW Nat) (left : Lit → Bool) (ks : List Lit) : Prop := (∀ l ∈ ks, ∃ z, l = .string z) ∧ ∀ z, Lit.string z ∈ ks ↔ (has D0 (.string z) = true ∧ left (.string z) = false)
theorem CollL.start (D0 : DataW Nat) : CollL D0 (has D0) [] := ⟨fun l h => by simp at h, fun z => by cases has D0 (.string z) <;> simp⟩
theorem CollL.step {D0 : DataW Nat} {left : Lit → Bool} {ks : List Lit} (h : CollL D0 left ks) {z0 : List UInt8} {y : DataW Nat} (hlk : left (.string z0) = true) (hat : ∀ zd, D0.atKey (.string z0) zd = y) :
    CollL D0 (fun z => left z && !z.sameKey (.string z0)) (ks ++ [.string z0]) := by
  have hhas : has D0 (.string z0) = true := has_true_of_atKey hat
  refine ⟨fun l hl => ?_, fun z => ?_⟩
  · rcases List.mem_append.1 hl with h1 | h1
    · exact h.1 l h1
    · simp at h1; exact ⟨z0, h1⟩
  · by_cases hz : z = z0
    · subst hz; simp [hhas, Lit.sameKey]
    · have e : (Lit.string z).sameKey (.string z0) = false := by simp [Lit.sameKey, hz]
      simp only [List.mem_append, List.mem_singleton, Lit.string.injEq, hz, or_false, h.2 z, e, Bool.not_false, Bool.and_true]
def AllOfL (D0 : DataW Nat) (ps : List (Lit × Int)) : Prop := (∀ p ∈ ps, ∃ z, p.1 = .string z) ∧ (∀ z, Lit.string z ∈ ps.map (·.1) ↔ has D0 (.string z) = true) ∧ (∀ p ∈ ps, ValAtL D0 p) ∧ ps.length ≤ Maps.size D0
set_option maxRecDepth 100000 in
set_option maxHeartbeats 1000000 in
theorem values12_in (F : Fence) (n : Nat) (h8 : F.fn 33) (hro : F.round = none) (hn : 1 ≤ n) (l Bm b nn : Nat) (D0 : DataW Nat) (J : List Int → World → Prop)
    (hY : ∀ pre x W, J pre W → pre.length < Maps.size D0 → YieldAt F (n - 1) Try.prog l #[encZ x] W fun e W' => e = .returned (.bool true) ∧ J (pre ++ [x]) W' ∧ KeepsWalks W W')
    (W : World) (hJ : AbidesFrom W.heap.size J) (hm : W.cell? ⟨Bm, 0, none⟩ = some (.map (some b))) (hown : W.ownsMap Try.prog 30 (plainElem Try.prog 3) b nn D0) (h0 : J [] W) :
    CallsIn F n Try.prog 33 #[.func (.yield l) #[] #[], .pointer (some ⟨Bm, 0, none⟩)] W fun e W' => (∃ v, e = .returned v) ∧
      ∃ xs, (∃ ps, AllOfL D0 ps ∧ xs = ps.map (·.2)) ∧ J xs W' := by
  refine callsIn_of_wp Try.func33 rfl h8 ?_ hro
  simp only [Try.ntmps33, List.size_toArray, List.length_cons, List.length_nil, Nat.reduceAdd, Nat.reduceSub, Array.replicate_succ, Array.replicate_zero, List.push_toArray, List.append_toArray, List.nil_append, List.cons_append]
  gi_wp2_with (first
    | (gi_at_range; refine wpListIn_range_own _ rfl _ 27 rfl 30 3 keyKeyed Try.underlying27 _ b nn _ rfl hown ?_; intro w0 hrg0 hg0 hs0)
    | gi_in)
  go_frame
  gi_loopw [4] (fun _ wr => ∃ (left : Lit → Bool) (cnt : Nat) (ps : List (Lit × Int)), wr.ranges Try.prog 30 (plainElem Try.prog 3) b W.heap.size nn D0 left cnt ∧ ps.length + cnt ≤ Maps.size D0 ∧ CollL D0 left (ps.map (·.1)) ∧ (∀ p ∈ ps, ValAtL D0 p) ∧ J (ps.map (·.2)) wr)
    (fun _ wr => wr.rangeLeft b W.heap.size)
  case atStart =>
    exact ⟨_, _, [], hrg0, by simp, CollL.start D0, by simp, hJ [] W w0 none h0 hg0 (fun r e => by cases e)⟩
  case round =>
    obtain ⟨left, cnt, ps, hrg, hcs, hC, hV, hJs⟩ := hrel
    gi_wp2_with (first
      | (gi_at_next; refine wpListIn_next_ranges _ rfl _ rfl 30 keyKeyed (plainElem Try.prog 3) (fun v : Value => v) (Value.int .i64) (fun key kl hk => ⟨key, rfl⟩) (fun v y hv => by obtain ⟨c, rfl, _⟩ := plainElem_int_inv Try.underlying3 hv; exact ⟨c, rfl⟩) b W.heap.size nn _ _ _ rfl hrg ?_ ?_)
      | gi_in)
    · intro hc0 hl0
      gi_wp2
      go_end0
      exact ⟨⟨_, rfl⟩, _, ⟨ps, ⟨fun p hp => hC.1 _ (List.mem_map_of_mem hp), fun z => by rw [hC.2 z, hl0]; simp, hV, by omega⟩, rfl⟩, hJs⟩
    · intro x c kl yd yp w2 cnt2 hkey hlk hv hat hrg2 hlt hg2 hs2 hen
      obtain ⟨z0, rfl⟩ := keyLaw.str hkey
      obtain ⟨c', ec, ez, _⟩ := plainElem_int_inv Try.underlying3 hv
      obtain rfl : c = c' := by simpa using ec
      obtain rfl : yd = .lit (.int .i64 c) := (Prod.mk.inj ez).1
      have hJ2 : J (ps.map (·.2)) w2 := hJ _ wr w2 (some W.heap.size) hJs hg2 (fun r e => by cases e; exact ⟨Nat.le_refl _, hrg.iter_walk⟩)
      obtain ⟨fn, tmps, assign, body, hy, hR⟩ := hY (ps.map (·.2)) c w2 hJ2 (by simp; omega)
      clear hs2
      gi_wp2
      refine hR.mono ?_
      have hC2 : CollL D0 (fun z => left z && !z.sameKey (.string z0)) ((ps ++ [((Lit.string z0 : Lit), c)]).map (fun p : Lit × Int => p.1)) := by simpa using hC.step hlk hat
      have hV2 : ∀ p ∈ ps ++ [(Lit.string z0, c)], ValAtL D0 p := fun p hp => (List.mem_append.1 hp).elim (hV p) (fun e => by simp at e; subst e; exact hat)
      rintro e W3 ⟨rfl, hJ3, hk3⟩
      gi_wp2
      have hrg3 := hrg2.of_walks hk3
      go_roundw
      case rel => exact ⟨_, cnt2, ps ++ [(.string z0, c)], hrg3, by simp; omega, hC2, hV2, by simpa using hJ3⟩
      case measure => rw [hrg3.left_eq, hrg.left_eq]; exact hlt
theorem values12_gives (F : Fence) (n : Nat) (h8 : F.fn 33) (hro : F.round = none) (hn : 1 ≤ n) (Bm b nn : Nat) (D0 : DataW Nat) (w : World) (hBm : Bm < w.heap.size)
    (hm : w.cell? ⟨Bm, 0, none⟩ = some (.map (some b))) (hown : w.ownsMap Try.prog 30 (plainElem Try.prog 3) b nn D0) :
    SeqGives F n Try.prog 33 #[.pointer (some ⟨Bm, 0, none⟩)] encZ (fun xs => ∃ ps, AllOfL D0 ps ∧ xs = ps.map (·.2)) (Maps.size D0) w := fun l J W hW hJ hY h0 => by
  have hown' : W.ownsMap Try.prog 30 (plainElem Try.prog 3) b nn D0 := by
    have hbl := hown.lt
    obtain ⟨es, clock, hb, Ft, hs, hD⟩ := hown
    exact ⟨es, clock, (hW.block b hbl).trans hb, Ft, hs, hD⟩
  exact values12_in F n h8 hro hn l Bm b nn D0 J hY W hJ ((hW.cell (p := ⟨Bm, 0, none⟩) hBm).trans hm) hown' h0
end Go.Proofs
