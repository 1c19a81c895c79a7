/-
  Seat 02 (value): who panics (the law's broke), walked with the kit.
-/
import Derived.Test.YteohhklblbinbaaDoorVa
import Derived.Defers
import Derived.Recover
import Derived.Tactics
import Derived.Tactics2
import Derived.Laws.Pointers
import Derived.WalkKit
import Derived.WalkSmall
import Derived.BigRegion
import Derived.Deep.RegionHeldLaw
namespace Go.Proofs
open Go.RowKit Go.AL YteohhklblbinbaaDoor
set_option linter.unusedSimpArgs false
set_option linter.unusedVariables false
set_option maxHeartbeats 4000000
set_option maxRecDepth 1000000
theorem catch_panicking (p : Addr) (x : Bool) (u : TypeId) (pv : Value) (older : List PanicEntry) (w : World) (hc : w.cell? p = some (.bool x)) (hz : w.frozen? p = false) :
    CallsD Tryd.prog 33 #[.pointer (some p)] (.panicking ({ v := .iface u pv, recovered := false } :: older)) w fun e u' w' =>
      e = .returned (.tuple #[]) ∧ u' = .panicking ({ v := .iface u pv, recovered := true } :: older) ∧ w' = w.setCell p (.bool true) := by
  refine callsD_of_wpS Tryd.func33 rfl fun c₀ cs hu => ?_
  apply wpS_seq
  apply wpS_region
  simp [wpOpsS, go_sem, recoverD, hu, Tryd.ntmps33, Exit.thenS]
  refine wpS_cond (t := true) (by simp [Act.eval, Array.replicate]) ?_
  simp only [if_true]
  apply wpS_region
  simp [wpOpsS, go_sem, hc, hz, bodyPostS, results, Tryd.results33]
theorem catch_idle (p : Addr) (w : World) :
    CallsD Tryd.prog 33 #[.pointer (some p)] .returning w fun e u' w' => e = .returned (.tuple #[]) ∧ u' = .returning ∧ w' = w := by
  refine callsD_of_wpS Tryd.func33 rfl fun c₀ cs hu => ?_
  apply wpS_seq
  apply wpS_region
  simp [wpOpsS, go_sem, recoverD, hu, Tryd.ntmps33, Exit.thenS]
  refine wpS_cond (t := false) (by simp [Act.eval, Array.replicate]) ?_
  simp only [Bool.false_eq_true, if_false]
  refine wpS_of_wp (wp_skip ?_)
  cases c₀
  simp_all [bodyPostS, results, Tryd.results33]
abbrev vlW (k n : Int) (s : List UInt8) : Value := .agg #[.int .i64 k, .int .i64 n, .string ⟨s.toArray⟩]
theorem rep_vl (γ : Gh) (w : World) (k n : Int) (s : List UInt8) : Rep γ w false (.agg [.int .i64 k, .int .i64 n, .str s]) (vlW k n s) :=
  .agg (.cons (.int _ _ _) (.cons (.int _ _ _) (.cons (.str _ _) (.nil _)))) (by
    intro v hv
    simp at hv
    rcases hv with rfl | rfl | rfl <;> rfl)
theorem thing_w (w : World) (hA : Known w) (k n : Int) (s : List UInt8) : Calls Tryd.prog 26 #[vlW k n s] w fun e w' =>
    e = .returned (if k = 1 ∧ s.length = 0 then .iface 3 (.int .i64 n) else if k = 2 ∧ n = 0 ∧ s.length ≤ 200 then .iface 9 (.string ⟨s.toArray⟩) else .nilIface) ∧ Below w.heap.size w w' :=
  ((thing_c k n s).top hA (.cons (rep_vl _ _ k n s) (.nil _))).mono fun e w' ⟨v, r, γ', σ', h1, h2, h3, h4⟩ => by
    have := h3 γ' w' false v h2
    refine ⟨?_, h4⟩
    rw [h1]
    unfold thingA at this
    split at this
    · rename_i c
      rw [if_pos c]
      cases this with
      | iface h => cases h; rfl
    · rename_i c
      rw [if_neg c]
      split at this
      · rename_i c
        rw [if_pos c]
        cases this with
        | iface h => cases h; rfl
      · rename_i c
        rw [if_neg c]
        cases this; rfl
theorem ta_int (n : Int) (w : World) : (Instr.typeAssert (.iface 3 (.int .i64 n)) 20 3 false).run Tryd.prog w = .ok (.int .i64 n) w := by
  simp [Instr.typeAssert, run_underlying Tryd.underlying3]
theorem ta_str (s : ByteArray) (w : World) : (Instr.typeAssert (.iface 9 (.string s)) 20 9 false).run Tryd.prog w = .ok (.string s) w := by
  simp [Instr.typeAssert, run_underlying Tryd.underlying9]
theorem fails_below {w : World} (o : Obj) : Below w.heap.size w (w.alloc o) := (Below.refl _ w).alloc (Nat.le_refl _) _
theorem elem15 (w : World) : ∃ a, (elemOf 15).run Tryd.prog w = .ok a w := by
  simp [elemOf, run_underlying Tryd.underlying15]
theorem ta_bad (w : World) (x : Value) (t : TypeId) (ht : (t = 3 ∧ (x = .nilIface ∨ ∃ s, x = .iface 9 s)) ∨ (t = 9 ∧ (x = .nilIface ∨ ∃ s, x = .iface 3 s))) :
    ∃ pv w', (Instr.typeAssert x 20 t false).run Tryd.prog w = .halt (.panic (.iface 15 pv)) w' ∧ Below w.heap.size w w' := by
  obtain ⟨a, ha⟩ := elem15 w
  have key : ∃ y, (Instr.typeAssert x 20 t false).run Tryd.prog w = .halt (.panic (.iface 15 (.pointer (some ⟨w.heap.size, 0, none⟩)))) (w.alloc (.cells #[typeHandle Tryd.prog 20, y, typeHandle Tryd.prog t, strVal ""] a)) := by
    rcases ht with ⟨rfl, rfl | ⟨s, rfl⟩⟩ | ⟨rfl, rfl | ⟨s, rfl⟩⟩
    · exact ⟨.pointer none, by simp [Instr.typeAssert, run_underlying Tryd.underlying3, go_sem, ha]⟩
    · exact ⟨typeHandle Tryd.prog 9, by simp [Instr.typeAssert, run_underlying Tryd.underlying3, go_sem, ha]⟩
    · exact ⟨.pointer none, by simp [Instr.typeAssert, run_underlying Tryd.underlying9, go_sem, ha]⟩
    · exact ⟨typeHandle Tryd.prog 3, by simp [Instr.typeAssert, run_underlying Tryd.underlying9, go_sem, ha]⟩
  obtain ⟨y, hy⟩ := key
  exact ⟨_, _, hy, fails_below _⟩
theorem number_ok (w : World) (hA : Known w) (k n : Int) (s : List UInt8) (c : k = 1 ∧ s.length = 0) : Calls Tryd.prog 25 #[vlW k n s] w fun e w' => e = .returned (.int .i64 n) ∧ Below w.heap.size w w' := by
  have hb := fails_below (w := w) (.cells #[.int .i64 k, .int .i64 n, .string ⟨s.toArray⟩] 23)
  have hth := thing_w _ (hA.below hb) k n s
  rw [if_pos c] at hth
  have ht := ta_int n
  clear c hA
  go_enter Tryd.func25, Tryd.ntmps25
  go_wp2_with (go_at_call 26; refine hth.mono ?_)
  rintro e W ⟨rfl, hb2⟩
  have ht2 := ht W
  go_wp2
  go_ret
  exact ⟨rfl, hb.trans (hb2.mono hb.size)⟩
theorem number_bad (w : World) (hA : Known w) (k n : Int) (s : List UInt8) (c : ¬ (k = 1 ∧ s.length = 0)) : Calls Tryd.prog 25 #[vlW k n s] w fun e w' => (∃ pv, e = .panicked [{ v := .iface 15 pv, recovered := false }]) ∧ Below w.heap.size w w' := by
  have hb := fails_below (w := w) (.cells #[.int .i64 k, .int .i64 n, .string ⟨s.toArray⟩] 23)
  have hth := thing_w _ (hA.below hb) k n s
  obtain ⟨x, hx, hx2⟩ : ∃ x, (if k = 1 ∧ s.length = 0 then Value.iface 3 (.int .i64 n) else if k = 2 ∧ n = 0 ∧ s.length ≤ 200 then .iface 9 (.string ⟨s.toArray⟩) else .nilIface) = x ∧ (x = .nilIface ∨ ∃ z, x = .iface 9 z) := by
    refine ⟨_, rfl, ?_⟩
    rw [if_neg c]
    split
    · exact .inr ⟨_, rfl⟩
    · exact .inl rfl
  rw [hx] at hth
  clear hx c hA
  go_enter Tryd.func25, Tryd.ntmps25
  go_wp2_with (go_at_call 26; refine hth.mono ?_)
  rintro e W ⟨rfl, hb2⟩
  obtain ⟨pv, W2, hta, hb3⟩ := ta_bad W x 3 (.inl ⟨rfl, hx2⟩)
  have hb4 := hb.trans (hb2.mono hb.size)
  have hb5 := hb4.trans (hb3.mono hb4.size)
  go_wp2
  exact ⟨rfl, ⟨pv, rfl⟩, hb5⟩
theorem string_ok (w : World) (hA : Known w) (k n : Int) (s : List UInt8) (c : k = 2 ∧ n = 0 ∧ s.length ≤ 200) : Calls Tryd.prog 34 #[vlW k n s] w fun e w' => e = .returned (.string ⟨s.toArray⟩) ∧ Below w.heap.size w w' := by
  have hb := fails_below (w := w) (.cells #[.int .i64 k, .int .i64 n, .string ⟨s.toArray⟩] 23)
  have hth := thing_w _ (hA.below hb) k n s
  rw [if_neg (fun h => by have := h.1; have := c.1; omega), if_pos c] at hth
  have ht := ta_str ⟨s.toArray⟩
  clear c hA
  go_enter Tryd.func34, Tryd.ntmps34
  go_wp2_with (go_at_call 26; refine hth.mono ?_)
  rintro e W ⟨rfl, hb2⟩
  have ht2 := ht W
  go_wp2
  go_ret
  exact ⟨rfl, hb.trans (hb2.mono hb.size)⟩
theorem string_bad (w : World) (hA : Known w) (k n : Int) (s : List UInt8) (c : ¬ (k = 2 ∧ n = 0 ∧ s.length ≤ 200)) : Calls Tryd.prog 34 #[vlW k n s] w fun e w' => (∃ pv, e = .panicked [{ v := .iface 15 pv, recovered := false }]) ∧ Below w.heap.size w w' := by
  have hb := fails_below (w := w) (.cells #[.int .i64 k, .int .i64 n, .string ⟨s.toArray⟩] 23)
  have hth := thing_w _ (hA.below hb) k n s
  obtain ⟨x, hx, hx2⟩ : ∃ x, (if k = 1 ∧ s.length = 0 then Value.iface 3 (.int .i64 n) else if k = 2 ∧ n = 0 ∧ s.length ≤ 200 then .iface 9 (.string ⟨s.toArray⟩) else .nilIface) = x ∧ (x = .nilIface ∨ ∃ z, x = .iface 3 z) := by
    refine ⟨_, rfl, ?_⟩
    by_cases c0 : k = 1 ∧ s.length = 0
    · rw [if_pos c0]; exact .inr ⟨_, rfl⟩
    · rw [if_neg c0, if_neg c]; exact .inl rfl
  rw [hx] at hth
  clear hx c hA
  go_enter Tryd.func34, Tryd.ntmps34
  go_wp2_with (go_at_call 26; refine hth.mono ?_)
  rintro e W ⟨rfl, hb2⟩
  obtain ⟨pv, W2, hta, hb3⟩ := ta_bad W x 9 (.inr ⟨rfl, hx2⟩)
  have hb4 := hb.trans (hb2.mono hb.size)
  have hb5 := hb4.trans (hb3.mono hb4.size)
  go_wp2
  exact ⟨rfl, ⟨pv, rfl⟩, hb5⟩
theorem cell1a {w : World} {vs : Array Value} {T : TypeId} {o : Obj} (j : Nat) : ((w.alloc (.cells vs T)).alloc o).cell? ⟨w.heap.size, j, none⟩ = vs[j]? := by
  have hb := fails_below (w := w.alloc (.cells vs T)) o
  rw [hb.cell (p := ⟨w.heap.size, j, none⟩) (by simp)]
  exact World.cell?_alloc_at _ _ _ _ rfl
theorem frzN {w : World} {vs : Array Value} {T : TypeId} {b : Nat} (o : Nat) (j : Nat) (h : b = w.heap.size) : (w.alloc (.cells vs T)).frozen? ⟨b, j, none⟩ = false := by
  subst h
  have := heap_alloc_new w (.cells vs T)
  simp only [World.frozen?, this]
  simp
def SB (B : Nat) (k n : Int) (s : List UInt8) (W : World) : Prop := W.cell? ⟨B, 0, none⟩ = some (.int .i64 k) ∧ W.cell? ⟨B, 1, none⟩ = some (.int .i64 n) ∧ W.cell? ⟨B, 2, none⟩ = some (.string ⟨s.toArray⟩) ∧ W.cell? ⟨B + 1, 0, none⟩ = some (.bool false) ∧ W.frozen? ⟨B + 1, 0, none⟩ = false
theorem frz_below {w W : World} {n : Nat} (h : Below n w W) {a : Addr} (ha : a.block < n) : W.frozen? a = w.frozen? a := by
  unfold World.frozen?
  rw [h.block _ ha]
theorem setB {w w1 W : World} {n : Nat} {v0 : Value} (h1 : Below n w w1) (h2 : Below w1.heap.size w1 W) (hs : w1.heap.size = n + 2) (hc : W.cell? ⟨n + 1, 0, none⟩ = some v0) (v : Value) : Below n w (W.setCell ⟨n + 1, 0, none⟩ v) := by
  have h3 := h1.trans (h2.mono (by omega))
  exact ⟨h3.os, h3.tape, h3.output, by simpa using h3.size, fun k hk => (heap_setCell_other _ _ _ _ (show k ≠ n + 1 by omega)).trans (h3.block k hk)⟩
theorem setBc {W : World} {n : Nat} {v0 : Value} (hc : W.cell? ⟨n + 1, 0, none⟩ = some v0) (b : Bool) : (W.setCell ⟨n + 1, 0, none⟩ (.bool b)).cell? ⟨n + 1, 0, none⟩ = some (.bool b) := World.cell?_setCell_same _ _ _ hc
theorem broke_walk (w : World) (hA : Known w) (k n : Int) (s : List UInt8) (words : Bool) : Calls Tryd.prog 16 #[vlW k n s, .bool words] w fun e w' =>
    e = .returned (.bool (if words then !decide (k = 2 ∧ n = 0 ∧ s.length ≤ 200) else !decide (k = 1 ∧ s.length = 0))) ∧ Below w.heap.size w w' := by
  have hmf : ∀ (fn : Fn) (first cap : Array Value) (w : World), (Instr.makeFunc fn first cap).run Tryd.prog w = .ok (.func fn first cap) w := fun _ _ _ _ => rfl
  obtain ⟨w1, hw1⟩ : ∃ w1, w1 = (w.alloc (.cells #[.int .i64 k, .int .i64 n, .string ⟨s.toArray⟩] 23)).alloc (.cells #[.bool false] 4) := ⟨_, rfl⟩
  have hb1 : Below w.heap.size w w1 := by
    rw [hw1]
    exact ((Below.refl _ w).alloc (Nat.le_refl _) _).alloc (by simp) _
  have hsz : w1.heap.size = w.heap.size + 2 := by rw [hw1]; simp
  have hAd := (hA.below hb1)
  have q0 : w1.cell? ⟨w.heap.size, 0, none⟩ = some (.int .i64 k) := by rw [hw1]; exact cell1a 0
  have q1 : w1.cell? ⟨w.heap.size, 1, none⟩ = some (.int .i64 n) := by rw [hw1]; exact cell1a 1
  have q2 : w1.cell? ⟨w.heap.size, 2, none⟩ = some (.string ⟨s.toArray⟩) := by rw [hw1]; exact cell1a 2
  have q4 : w1.cell? ⟨w.heap.size + 1, 0, none⟩ = some (.bool false) := by rw [hw1]; exact World.cell?_alloc_at _ _ _ _ (by simp)
  have q5 : w1.frozen? ⟨w.heap.size + 1, 0, none⟩ = false := by rw [hw1]; exact frzN 0 _ (by simp)
  have fS : ∀ W, Below w1.heap.size w1 W → W.cell? ⟨w.heap.size, 0, none⟩ = some (.int .i64 k) ∧ W.cell? ⟨w.heap.size, 1, none⟩ = some (.int .i64 n) ∧ W.cell? ⟨w.heap.size, 2, none⟩ = some (.string ⟨s.toArray⟩) ∧ W.cell? ⟨w.heap.size + 1, 0, none⟩ = some (.bool false) ∧ W.frozen? ⟨w.heap.size + 1, 0, none⟩ = false := fun W h =>
    ⟨(h.cell (p := ⟨w.heap.size, 0, none⟩) (by simp; omega)).trans q0, (h.cell (p := ⟨w.heap.size, 1, none⟩) (by simp; omega)).trans q1, (h.cell (p := ⟨w.heap.size, 2, none⟩) (by simp; omega)).trans q2,
      (h.cell (p := ⟨w.heap.size + 1, 0, none⟩) (by simp; omega)).trans q4, (frz_below h (a := ⟨w.heap.size + 1, 0, none⟩) (by simp; omega)).trans q5⟩
  have hB0 : Below w1.heap.size w1 w1.drew := (Below.refl _ _).drew
  go_enter_defers Tryd.func16, Tryd.ntmps16
  cases words with
  | true =>
    by_cases c : k = 2 ∧ n = 0 ∧ s.length ≤ 200
    · have hc : ∀ {W : World}, Below w1.heap.size w1 W → Calls Tryd.prog 34 #[vlW k n s] W fun e W' => e = .returned (.string ⟨s.toArray⟩) ∧ Below w1.heap.size w1 W' := fun {W} hW =>
        (string_ok W (hAd.below hW) k n s c).mono fun e W' ⟨h1, h2⟩ => ⟨h1, hW.trans (h2.mono hW.size)⟩
      rw [show (if true = true then !decide (k = 2 ∧ n = 0 ∧ s.length ≤ 200) else !decide (k = 1 ∧ s.length = 0)) = false by simp [c]]
      clear c hA
      obtain ⟨p0, p1, p2, p3, p4⟩ := fS _ hB0
      go_wp2
      rw [← hw1]
      clear hw1
      refine wp_region_any (by kernel_rfl) ?_
      try (change wpAny _ _ _ _ _ _ _ (World.drew _))
      refine wpAny_ready (rs := [0, 2]) (by kernel_rfl) (by simp) ?_
      refine AllReady.cons rfl (fun K hK => ?_) ?_
      · go_simp
        refine hK _ _ ?_
        clear hK K
        refine wpAny_ready (rs := [1, 2]) (by kernel_rfl) (by simp) ?_
        refine AllReady.cons rfl (fun K hK => ?_) ?_
        · go_simp
          go_wp2_with (go_at_call 34; refine Calls.mono (hc (by assumption)) ?_; rintro e W ⟨rfl, hB⟩; obtain ⟨r0, r1, r2, r3, r4⟩ := fS _ hB)
          refine wpAny_ready (rs := [2]) (by kernel_rfl) (by simp) ?_
          refine AllReady.cons rfl (fun K hK => ?_) ?_
          · go_simp
            refine hK _ _ ?_
            clear hK K
            refine wpAny_ready (rs := [3]) (by kernel_rfl) (by simp) ?_
            refine AllReady.cons rfl (fun K hK => ?_) ?_
            · go_simp
              refine hK _ _ ?_
              clear hK K
              refine wpAny_ready (rs := [4]) (by kernel_rfl) (by simp) ?_
              refine AllReady.cons rfl (fun K hK => ?_) ?_
              · go_simp
                refine hK _ _ ?_
                clear hK K
                refine wpAny_ready (rs := [5]) (by kernel_rfl) (by simp) ?_
                refine AllReady.cons rfl (fun K hK => ?_) ?_
                · go_simp
                  refine hK _ _ ?_
                  clear hK K
                  refine wpAny_done (by kernel_rfl) ?_ _
                  go_wp2
                  refine leaves_cons (f := 33) (args := #[.pointer (some ⟨w.heap.size + 1, 0, none⟩)]) (by simp) (by simp [go_sem]) ?_
                  refine (catch_idle ⟨w.heap.size + 1, 0, none⟩ _).mono ?_
                  rintro e u' w'' ⟨rfl, rfl, rfl⟩
                  have hset := setB hb1 hB hsz r3
                  have hcell := setBc r3 false
                  simp [Leaves, settle, results, Tryd.results16, go_sem, hcell]
                  exact hset _
                exact AllReady.nil
              exact AllReady.nil
            exact AllReady.nil
          exact AllReady.nil
        refine AllReady.cons rfl (fun K hK => ?_) ?_
        · go_simp
          refine hK _ _ ?_
          clear hK K
          refine wpAny_ready (rs := [1, 3]) (by kernel_rfl) (by simp) ?_
          refine AllReady.cons rfl (fun K hK => ?_) ?_
          · go_simp
            go_wp2_with (go_at_call 34; refine Calls.mono (hc (by assumption)) ?_; rintro e W ⟨rfl, hB⟩; obtain ⟨r0, r1, r2, r3, r4⟩ := fS _ hB)
            refine wpAny_ready (rs := [3]) (by kernel_rfl) (by simp) ?_
            refine AllReady.cons rfl (fun K hK => ?_) ?_
            · go_simp
              refine hK _ _ ?_
              clear hK K
              refine wpAny_ready (rs := [4]) (by kernel_rfl) (by simp) ?_
              refine AllReady.cons rfl (fun K hK => ?_) ?_
              · go_simp
                refine hK _ _ ?_
                clear hK K
                refine wpAny_ready (rs := [5]) (by kernel_rfl) (by simp) ?_
                refine AllReady.cons rfl (fun K hK => ?_) ?_
                · go_simp
                  refine hK _ _ ?_
                  clear hK K
                  refine wpAny_done (by kernel_rfl) ?_ _
                  go_wp2
                  refine leaves_cons (f := 33) (args := #[.pointer (some ⟨w.heap.size + 1, 0, none⟩)]) (by simp) (by simp [go_sem]) ?_
                  refine (catch_idle ⟨w.heap.size + 1, 0, none⟩ _).mono ?_
                  rintro e u' w'' ⟨rfl, rfl, rfl⟩
                  have hset := setB hb1 hB hsz r3
                  have hcell := setBc r3 false
                  simp [Leaves, settle, results, Tryd.results16, go_sem, hcell]
                  exact hset _
                exact AllReady.nil
              exact AllReady.nil
            exact AllReady.nil
          refine AllReady.cons rfl (fun K hK => ?_) ?_
          · go_simp
            refine hK _ _ ?_
            clear hK K
            refine wpAny_ready (rs := [1]) (by kernel_rfl) (by simp) ?_
            refine AllReady.cons rfl (fun K hK => ?_) ?_
            · go_simp
              go_wp2_with (go_at_call 34; refine Calls.mono (hc (by assumption)) ?_; rintro e W ⟨rfl, hB⟩; obtain ⟨r0, r1, r2, r3, r4⟩ := fS _ hB)
              refine wpAny_ready (rs := [4]) (by kernel_rfl) (by simp) ?_
              refine AllReady.cons rfl (fun K hK => ?_) ?_
              · go_simp
                refine hK _ _ ?_
                clear hK K
                refine wpAny_ready (rs := [5]) (by kernel_rfl) (by simp) ?_
                refine AllReady.cons rfl (fun K hK => ?_) ?_
                · go_simp
                  refine hK _ _ ?_
                  clear hK K
                  refine wpAny_done (by kernel_rfl) ?_ _
                  go_wp2
                  refine leaves_cons (f := 33) (args := #[.pointer (some ⟨w.heap.size + 1, 0, none⟩)]) (by simp) (by simp [go_sem]) ?_
                  refine (catch_idle ⟨w.heap.size + 1, 0, none⟩ _).mono ?_
                  rintro e u' w'' ⟨rfl, rfl, rfl⟩
                  have hset := setB hb1 hB hsz r3
                  have hcell := setBc r3 false
                  simp [Leaves, settle, results, Tryd.results16, go_sem, hcell]
                  exact hset _
                exact AllReady.nil
              exact AllReady.nil
            exact AllReady.nil
          exact AllReady.nil
        exact AllReady.nil
      refine AllReady.cons rfl (fun K hK => ?_) ?_
      · go_simp
        refine hK _ _ ?_
        clear hK K
        refine wpAny_ready (rs := [0, 3]) (by kernel_rfl) (by simp) ?_
        refine AllReady.cons rfl (fun K hK => ?_) ?_
        · go_simp
          refine hK _ _ ?_
          clear hK K
          refine wpAny_ready (rs := [1, 3]) (by kernel_rfl) (by simp) ?_
          refine AllReady.cons rfl (fun K hK => ?_) ?_
          · go_simp
            go_wp2_with (go_at_call 34; refine Calls.mono (hc (by assumption)) ?_; rintro e W ⟨rfl, hB⟩; obtain ⟨r0, r1, r2, r3, r4⟩ := fS _ hB)
            refine wpAny_ready (rs := [3]) (by kernel_rfl) (by simp) ?_
            refine AllReady.cons rfl (fun K hK => ?_) ?_
            · go_simp
              refine hK _ _ ?_
              clear hK K
              refine wpAny_ready (rs := [4]) (by kernel_rfl) (by simp) ?_
              refine AllReady.cons rfl (fun K hK => ?_) ?_
              · go_simp
                refine hK _ _ ?_
                clear hK K
                refine wpAny_ready (rs := [5]) (by kernel_rfl) (by simp) ?_
                refine AllReady.cons rfl (fun K hK => ?_) ?_
                · go_simp
                  refine hK _ _ ?_
                  clear hK K
                  refine wpAny_done (by kernel_rfl) ?_ _
                  go_wp2
                  refine leaves_cons (f := 33) (args := #[.pointer (some ⟨w.heap.size + 1, 0, none⟩)]) (by simp) (by simp [go_sem]) ?_
                  refine (catch_idle ⟨w.heap.size + 1, 0, none⟩ _).mono ?_
                  rintro e u' w'' ⟨rfl, rfl, rfl⟩
                  have hset := setB hb1 hB hsz r3
                  have hcell := setBc r3 false
                  simp [Leaves, settle, results, Tryd.results16, go_sem, hcell]
                  exact hset _
                exact AllReady.nil
              exact AllReady.nil
            exact AllReady.nil
          refine AllReady.cons rfl (fun K hK => ?_) ?_
          · go_simp
            refine hK _ _ ?_
            clear hK K
            refine wpAny_ready (rs := [1]) (by kernel_rfl) (by simp) ?_
            refine AllReady.cons rfl (fun K hK => ?_) ?_
            · go_simp
              go_wp2_with (go_at_call 34; refine Calls.mono (hc (by assumption)) ?_; rintro e W ⟨rfl, hB⟩; obtain ⟨r0, r1, r2, r3, r4⟩ := fS _ hB)
              refine wpAny_ready (rs := [4]) (by kernel_rfl) (by simp) ?_
              refine AllReady.cons rfl (fun K hK => ?_) ?_
              · go_simp
                refine hK _ _ ?_
                clear hK K
                refine wpAny_ready (rs := [5]) (by kernel_rfl) (by simp) ?_
                refine AllReady.cons rfl (fun K hK => ?_) ?_
                · go_simp
                  refine hK _ _ ?_
                  clear hK K
                  refine wpAny_done (by kernel_rfl) ?_ _
                  go_wp2
                  refine leaves_cons (f := 33) (args := #[.pointer (some ⟨w.heap.size + 1, 0, none⟩)]) (by simp) (by simp [go_sem]) ?_
                  refine (catch_idle ⟨w.heap.size + 1, 0, none⟩ _).mono ?_
                  rintro e u' w'' ⟨rfl, rfl, rfl⟩
                  have hset := setB hb1 hB hsz r3
                  have hcell := setBc r3 false
                  simp [Leaves, settle, results, Tryd.results16, go_sem, hcell]
                  exact hset _
                exact AllReady.nil
              exact AllReady.nil
            exact AllReady.nil
          exact AllReady.nil
        refine AllReady.cons rfl (fun K hK => ?_) ?_
        · go_simp
          refine hK _ _ ?_
          clear hK K
          refine wpAny_ready (rs := [0]) (by kernel_rfl) (by simp) ?_
          refine AllReady.cons rfl (fun K hK => ?_) ?_
          · go_simp
            refine hK _ _ ?_
            clear hK K
            refine wpAny_ready (rs := [1]) (by kernel_rfl) (by simp) ?_
            refine AllReady.cons rfl (fun K hK => ?_) ?_
            · go_simp
              go_wp2_with (go_at_call 34; refine Calls.mono (hc (by assumption)) ?_; rintro e W ⟨rfl, hB⟩; obtain ⟨r0, r1, r2, r3, r4⟩ := fS _ hB)
              refine wpAny_ready (rs := [4]) (by kernel_rfl) (by simp) ?_
              refine AllReady.cons rfl (fun K hK => ?_) ?_
              · go_simp
                refine hK _ _ ?_
                clear hK K
                refine wpAny_ready (rs := [5]) (by kernel_rfl) (by simp) ?_
                refine AllReady.cons rfl (fun K hK => ?_) ?_
                · go_simp
                  refine hK _ _ ?_
                  clear hK K
                  refine wpAny_done (by kernel_rfl) ?_ _
                  go_wp2
                  refine leaves_cons (f := 33) (args := #[.pointer (some ⟨w.heap.size + 1, 0, none⟩)]) (by simp) (by simp [go_sem]) ?_
                  refine (catch_idle ⟨w.heap.size + 1, 0, none⟩ _).mono ?_
                  rintro e u' w'' ⟨rfl, rfl, rfl⟩
                  have hset := setB hb1 hB hsz r3
                  have hcell := setBc r3 false
                  simp [Leaves, settle, results, Tryd.results16, go_sem, hcell]
                  exact hset _
                exact AllReady.nil
              exact AllReady.nil
            exact AllReady.nil
          exact AllReady.nil
        exact AllReady.nil
      exact AllReady.nil
    · have hc : ∀ {W : World}, Below w1.heap.size w1 W → Calls Tryd.prog 34 #[vlW k n s] W fun e W' => (∃ pv, e = .panicked [{ v := .iface 15 pv, recovered := false }]) ∧ Below w1.heap.size w1 W' := fun {W} hW =>
        (string_bad W (hAd.below hW) k n s c).mono fun e W' ⟨h1, h2⟩ => ⟨h1, hW.trans (h2.mono hW.size)⟩
      rw [show (if true = true then !decide (k = 2 ∧ n = 0 ∧ s.length ≤ 200) else !decide (k = 1 ∧ s.length = 0)) = true from by rw [decide_eq_false c]; rfl]
      clear c hA
      obtain ⟨p0, p1, p2, p3, p4⟩ := fS _ hB0
      go_wp2
      rw [← hw1]
      clear hw1
      refine wp_region_any (by kernel_rfl) ?_
      try (change wpAny _ _ _ _ _ _ _ (World.drew _))
      refine wpAny_ready (rs := [0, 2]) (by kernel_rfl) (by simp) ?_
      refine AllReady.cons rfl (fun K hK => ?_) ?_
      · go_simp
        refine hK _ _ ?_
        clear hK K
        refine wpAny_ready (rs := [1, 2]) (by kernel_rfl) (by simp) ?_
        refine AllReady.cons rfl (fun K hK => ?_) ?_
        · go_simp
          go_wp2_with (go_at_call 34; refine Calls.mono (hc (by assumption)) ?_; rintro e W ⟨⟨pv, rfl⟩, hB⟩; obtain ⟨r0, r1, r2, r3, r4⟩ := fS _ hB)
          refine leaves_cons (f := 33) (args := #[.pointer (some ⟨w.heap.size + 1, 0, none⟩)]) (by simp) (by simp [go_sem]) ?_
          refine (catch_panicking ⟨w.heap.size + 1, 0, none⟩ false 15 pv [] _ r3 r4).mono ?_
          rintro e u' w'' ⟨rfl, rfl, rfl⟩
          have hset := setB hb1 hB hsz r3
          have hcell := setBc r3 true
          simp [Leaves, settle, results, Tryd.results16, go_sem, hcell]
          exact hset _
        refine AllReady.cons rfl (fun K hK => ?_) ?_
        · go_simp
          refine hK _ _ ?_
          clear hK K
          refine wpAny_ready (rs := [1, 3]) (by kernel_rfl) (by simp) ?_
          refine AllReady.cons rfl (fun K hK => ?_) ?_
          · go_simp
            go_wp2_with (go_at_call 34; refine Calls.mono (hc (by assumption)) ?_; rintro e W ⟨⟨pv, rfl⟩, hB⟩; obtain ⟨r0, r1, r2, r3, r4⟩ := fS _ hB)
            refine leaves_cons (f := 33) (args := #[.pointer (some ⟨w.heap.size + 1, 0, none⟩)]) (by simp) (by simp [go_sem]) ?_
            refine (catch_panicking ⟨w.heap.size + 1, 0, none⟩ false 15 pv [] _ r3 r4).mono ?_
            rintro e u' w'' ⟨rfl, rfl, rfl⟩
            have hset := setB hb1 hB hsz r3
            have hcell := setBc r3 true
            simp [Leaves, settle, results, Tryd.results16, go_sem, hcell]
            exact hset _
          refine AllReady.cons rfl (fun K hK => ?_) ?_
          · go_simp
            refine hK _ _ ?_
            clear hK K
            refine wpAny_ready (rs := [1]) (by kernel_rfl) (by simp) ?_
            refine AllReady.cons rfl (fun K hK => ?_) ?_
            · go_simp
              go_wp2_with (go_at_call 34; refine Calls.mono (hc (by assumption)) ?_; rintro e W ⟨⟨pv, rfl⟩, hB⟩; obtain ⟨r0, r1, r2, r3, r4⟩ := fS _ hB)
              refine leaves_cons (f := 33) (args := #[.pointer (some ⟨w.heap.size + 1, 0, none⟩)]) (by simp) (by simp [go_sem]) ?_
              refine (catch_panicking ⟨w.heap.size + 1, 0, none⟩ false 15 pv [] _ r3 r4).mono ?_
              rintro e u' w'' ⟨rfl, rfl, rfl⟩
              have hset := setB hb1 hB hsz r3
              have hcell := setBc r3 true
              simp [Leaves, settle, results, Tryd.results16, go_sem, hcell]
              exact hset _
            exact AllReady.nil
          exact AllReady.nil
        exact AllReady.nil
      refine AllReady.cons rfl (fun K hK => ?_) ?_
      · go_simp
        refine hK _ _ ?_
        clear hK K
        refine wpAny_ready (rs := [0, 3]) (by kernel_rfl) (by simp) ?_
        refine AllReady.cons rfl (fun K hK => ?_) ?_
        · go_simp
          refine hK _ _ ?_
          clear hK K
          refine wpAny_ready (rs := [1, 3]) (by kernel_rfl) (by simp) ?_
          refine AllReady.cons rfl (fun K hK => ?_) ?_
          · go_simp
            go_wp2_with (go_at_call 34; refine Calls.mono (hc (by assumption)) ?_; rintro e W ⟨⟨pv, rfl⟩, hB⟩; obtain ⟨r0, r1, r2, r3, r4⟩ := fS _ hB)
            refine leaves_cons (f := 33) (args := #[.pointer (some ⟨w.heap.size + 1, 0, none⟩)]) (by simp) (by simp [go_sem]) ?_
            refine (catch_panicking ⟨w.heap.size + 1, 0, none⟩ false 15 pv [] _ r3 r4).mono ?_
            rintro e u' w'' ⟨rfl, rfl, rfl⟩
            have hset := setB hb1 hB hsz r3
            have hcell := setBc r3 true
            simp [Leaves, settle, results, Tryd.results16, go_sem, hcell]
            exact hset _
          refine AllReady.cons rfl (fun K hK => ?_) ?_
          · go_simp
            refine hK _ _ ?_
            clear hK K
            refine wpAny_ready (rs := [1]) (by kernel_rfl) (by simp) ?_
            refine AllReady.cons rfl (fun K hK => ?_) ?_
            · go_simp
              go_wp2_with (go_at_call 34; refine Calls.mono (hc (by assumption)) ?_; rintro e W ⟨⟨pv, rfl⟩, hB⟩; obtain ⟨r0, r1, r2, r3, r4⟩ := fS _ hB)
              refine leaves_cons (f := 33) (args := #[.pointer (some ⟨w.heap.size + 1, 0, none⟩)]) (by simp) (by simp [go_sem]) ?_
              refine (catch_panicking ⟨w.heap.size + 1, 0, none⟩ false 15 pv [] _ r3 r4).mono ?_
              rintro e u' w'' ⟨rfl, rfl, rfl⟩
              have hset := setB hb1 hB hsz r3
              have hcell := setBc r3 true
              simp [Leaves, settle, results, Tryd.results16, go_sem, hcell]
              exact hset _
            exact AllReady.nil
          exact AllReady.nil
        refine AllReady.cons rfl (fun K hK => ?_) ?_
        · go_simp
          refine hK _ _ ?_
          clear hK K
          refine wpAny_ready (rs := [0]) (by kernel_rfl) (by simp) ?_
          refine AllReady.cons rfl (fun K hK => ?_) ?_
          · go_simp
            refine hK _ _ ?_
            clear hK K
            refine wpAny_ready (rs := [1]) (by kernel_rfl) (by simp) ?_
            refine AllReady.cons rfl (fun K hK => ?_) ?_
            · go_simp
              go_wp2_with (go_at_call 34; refine Calls.mono (hc (by assumption)) ?_; rintro e W ⟨⟨pv, rfl⟩, hB⟩; obtain ⟨r0, r1, r2, r3, r4⟩ := fS _ hB)
              refine leaves_cons (f := 33) (args := #[.pointer (some ⟨w.heap.size + 1, 0, none⟩)]) (by simp) (by simp [go_sem]) ?_
              refine (catch_panicking ⟨w.heap.size + 1, 0, none⟩ false 15 pv [] _ r3 r4).mono ?_
              rintro e u' w'' ⟨rfl, rfl, rfl⟩
              have hset := setB hb1 hB hsz r3
              have hcell := setBc r3 true
              simp [Leaves, settle, results, Tryd.results16, go_sem, hcell]
              exact hset _
            exact AllReady.nil
          exact AllReady.nil
        exact AllReady.nil
      exact AllReady.nil
  | false =>
    by_cases c : k = 1 ∧ s.length = 0
    · have hc : ∀ {W : World}, Below w1.heap.size w1 W → Calls Tryd.prog 25 #[vlW k n s] W fun e W' => e = .returned (.int .i64 n) ∧ Below w1.heap.size w1 W' := fun {W} hW =>
        (number_ok W (hAd.below hW) k n s c).mono fun e W' ⟨h1, h2⟩ => ⟨h1, hW.trans (h2.mono hW.size)⟩
      rw [show (if false = true then !decide (k = 2 ∧ n = 0 ∧ s.length ≤ 200) else !decide (k = 1 ∧ s.length = 0)) = false by simp [c]]
      clear c hA
      obtain ⟨p0, p1, p2, p3, p4⟩ := fS _ hB0
      go_wp2
      rw [← hw1]
      clear hw1
      refine wp_region_any (by kernel_rfl) ?_
      try (change wpAny _ _ _ _ _ _ _ (World.drew _))
      refine wpAny_ready (rs := [0, 2]) (by kernel_rfl) (by simp) ?_
      refine AllReady.cons rfl (fun K hK => ?_) ?_
      · go_simp
        refine hK _ _ ?_
        clear hK K
        refine wpAny_ready (rs := [1, 2]) (by kernel_rfl) (by simp) ?_
        refine AllReady.cons rfl (fun K hK => ?_) ?_
        · go_simp
          go_wp2_with (go_at_call 25; refine Calls.mono (hc (by assumption)) ?_; rintro e W ⟨rfl, hB⟩; obtain ⟨r0, r1, r2, r3, r4⟩ := fS _ hB)
          refine wpAny_ready (rs := [2]) (by kernel_rfl) (by simp) ?_
          refine AllReady.cons rfl (fun K hK => ?_) ?_
          · go_simp
            refine hK _ _ ?_
            clear hK K
            refine wpAny_ready (rs := [3]) (by kernel_rfl) (by simp) ?_
            refine AllReady.cons rfl (fun K hK => ?_) ?_
            · go_simp
              refine hK _ _ ?_
              clear hK K
              refine wpAny_ready (rs := [4]) (by kernel_rfl) (by simp) ?_
              refine AllReady.cons rfl (fun K hK => ?_) ?_
              · go_simp
                refine hK _ _ ?_
                clear hK K
                refine wpAny_ready (rs := [5]) (by kernel_rfl) (by simp) ?_
                refine AllReady.cons rfl (fun K hK => ?_) ?_
                · go_simp
                  refine hK _ _ ?_
                  clear hK K
                  refine wpAny_done (by kernel_rfl) ?_ _
                  go_wp2
                  refine leaves_cons (f := 33) (args := #[.pointer (some ⟨w.heap.size + 1, 0, none⟩)]) (by simp) (by simp [go_sem]) ?_
                  refine (catch_idle ⟨w.heap.size + 1, 0, none⟩ _).mono ?_
                  rintro e u' w'' ⟨rfl, rfl, rfl⟩
                  have hset := setB hb1 hB hsz r3
                  have hcell := setBc r3 false
                  simp [Leaves, settle, results, Tryd.results16, go_sem, hcell]
                  exact hset _
                exact AllReady.nil
              exact AllReady.nil
            exact AllReady.nil
          exact AllReady.nil
        refine AllReady.cons rfl (fun K hK => ?_) ?_
        · go_simp
          refine hK _ _ ?_
          clear hK K
          refine wpAny_ready (rs := [1, 3]) (by kernel_rfl) (by simp) ?_
          refine AllReady.cons rfl (fun K hK => ?_) ?_
          · go_simp
            go_wp2_with (go_at_call 25; refine Calls.mono (hc (by assumption)) ?_; rintro e W ⟨rfl, hB⟩; obtain ⟨r0, r1, r2, r3, r4⟩ := fS _ hB)
            refine wpAny_ready (rs := [3]) (by kernel_rfl) (by simp) ?_
            refine AllReady.cons rfl (fun K hK => ?_) ?_
            · go_simp
              refine hK _ _ ?_
              clear hK K
              refine wpAny_ready (rs := [4]) (by kernel_rfl) (by simp) ?_
              refine AllReady.cons rfl (fun K hK => ?_) ?_
              · go_simp
                refine hK _ _ ?_
                clear hK K
                refine wpAny_ready (rs := [5]) (by kernel_rfl) (by simp) ?_
                refine AllReady.cons rfl (fun K hK => ?_) ?_
                · go_simp
                  refine hK _ _ ?_
                  clear hK K
                  refine wpAny_done (by kernel_rfl) ?_ _
                  go_wp2
                  refine leaves_cons (f := 33) (args := #[.pointer (some ⟨w.heap.size + 1, 0, none⟩)]) (by simp) (by simp [go_sem]) ?_
                  refine (catch_idle ⟨w.heap.size + 1, 0, none⟩ _).mono ?_
                  rintro e u' w'' ⟨rfl, rfl, rfl⟩
                  have hset := setB hb1 hB hsz r3
                  have hcell := setBc r3 false
                  simp [Leaves, settle, results, Tryd.results16, go_sem, hcell]
                  exact hset _
                exact AllReady.nil
              exact AllReady.nil
            exact AllReady.nil
          refine AllReady.cons rfl (fun K hK => ?_) ?_
          · go_simp
            refine hK _ _ ?_
            clear hK K
            refine wpAny_ready (rs := [1]) (by kernel_rfl) (by simp) ?_
            refine AllReady.cons rfl (fun K hK => ?_) ?_
            · go_simp
              go_wp2_with (go_at_call 25; refine Calls.mono (hc (by assumption)) ?_; rintro e W ⟨rfl, hB⟩; obtain ⟨r0, r1, r2, r3, r4⟩ := fS _ hB)
              refine wpAny_ready (rs := [4]) (by kernel_rfl) (by simp) ?_
              refine AllReady.cons rfl (fun K hK => ?_) ?_
              · go_simp
                refine hK _ _ ?_
                clear hK K
                refine wpAny_ready (rs := [5]) (by kernel_rfl) (by simp) ?_
                refine AllReady.cons rfl (fun K hK => ?_) ?_
                · go_simp
                  refine hK _ _ ?_
                  clear hK K
                  refine wpAny_done (by kernel_rfl) ?_ _
                  go_wp2
                  refine leaves_cons (f := 33) (args := #[.pointer (some ⟨w.heap.size + 1, 0, none⟩)]) (by simp) (by simp [go_sem]) ?_
                  refine (catch_idle ⟨w.heap.size + 1, 0, none⟩ _).mono ?_
                  rintro e u' w'' ⟨rfl, rfl, rfl⟩
                  have hset := setB hb1 hB hsz r3
                  have hcell := setBc r3 false
                  simp [Leaves, settle, results, Tryd.results16, go_sem, hcell]
                  exact hset _
                exact AllReady.nil
              exact AllReady.nil
            exact AllReady.nil
          exact AllReady.nil
        exact AllReady.nil
      refine AllReady.cons rfl (fun K hK => ?_) ?_
      · go_simp
        refine hK _ _ ?_
        clear hK K
        refine wpAny_ready (rs := [0, 3]) (by kernel_rfl) (by simp) ?_
        refine AllReady.cons rfl (fun K hK => ?_) ?_
        · go_simp
          refine hK _ _ ?_
          clear hK K
          refine wpAny_ready (rs := [1, 3]) (by kernel_rfl) (by simp) ?_
          refine AllReady.cons rfl (fun K hK => ?_) ?_
          · go_simp
            go_wp2_with (go_at_call 25; refine Calls.mono (hc (by assumption)) ?_; rintro e W ⟨rfl, hB⟩; obtain ⟨r0, r1, r2, r3, r4⟩ := fS _ hB)
            refine wpAny_ready (rs := [3]) (by kernel_rfl) (by simp) ?_
            refine AllReady.cons rfl (fun K hK => ?_) ?_
            · go_simp
              refine hK _ _ ?_
              clear hK K
              refine wpAny_ready (rs := [4]) (by kernel_rfl) (by simp) ?_
              refine AllReady.cons rfl (fun K hK => ?_) ?_
              · go_simp
                refine hK _ _ ?_
                clear hK K
                refine wpAny_ready (rs := [5]) (by kernel_rfl) (by simp) ?_
                refine AllReady.cons rfl (fun K hK => ?_) ?_
                · go_simp
                  refine hK _ _ ?_
                  clear hK K
                  refine wpAny_done (by kernel_rfl) ?_ _
                  go_wp2
                  refine leaves_cons (f := 33) (args := #[.pointer (some ⟨w.heap.size + 1, 0, none⟩)]) (by simp) (by simp [go_sem]) ?_
                  refine (catch_idle ⟨w.heap.size + 1, 0, none⟩ _).mono ?_
                  rintro e u' w'' ⟨rfl, rfl, rfl⟩
                  have hset := setB hb1 hB hsz r3
                  have hcell := setBc r3 false
                  simp [Leaves, settle, results, Tryd.results16, go_sem, hcell]
                  exact hset _
                exact AllReady.nil
              exact AllReady.nil
            exact AllReady.nil
          refine AllReady.cons rfl (fun K hK => ?_) ?_
          · go_simp
            refine hK _ _ ?_
            clear hK K
            refine wpAny_ready (rs := [1]) (by kernel_rfl) (by simp) ?_
            refine AllReady.cons rfl (fun K hK => ?_) ?_
            · go_simp
              go_wp2_with (go_at_call 25; refine Calls.mono (hc (by assumption)) ?_; rintro e W ⟨rfl, hB⟩; obtain ⟨r0, r1, r2, r3, r4⟩ := fS _ hB)
              refine wpAny_ready (rs := [4]) (by kernel_rfl) (by simp) ?_
              refine AllReady.cons rfl (fun K hK => ?_) ?_
              · go_simp
                refine hK _ _ ?_
                clear hK K
                refine wpAny_ready (rs := [5]) (by kernel_rfl) (by simp) ?_
                refine AllReady.cons rfl (fun K hK => ?_) ?_
                · go_simp
                  refine hK _ _ ?_
                  clear hK K
                  refine wpAny_done (by kernel_rfl) ?_ _
                  go_wp2
                  refine leaves_cons (f := 33) (args := #[.pointer (some ⟨w.heap.size + 1, 0, none⟩)]) (by simp) (by simp [go_sem]) ?_
                  refine (catch_idle ⟨w.heap.size + 1, 0, none⟩ _).mono ?_
                  rintro e u' w'' ⟨rfl, rfl, rfl⟩
                  have hset := setB hb1 hB hsz r3
                  have hcell := setBc r3 false
                  simp [Leaves, settle, results, Tryd.results16, go_sem, hcell]
                  exact hset _
                exact AllReady.nil
              exact AllReady.nil
            exact AllReady.nil
          exact AllReady.nil
        refine AllReady.cons rfl (fun K hK => ?_) ?_
        · go_simp
          refine hK _ _ ?_
          clear hK K
          refine wpAny_ready (rs := [0]) (by kernel_rfl) (by simp) ?_
          refine AllReady.cons rfl (fun K hK => ?_) ?_
          · go_simp
            refine hK _ _ ?_
            clear hK K
            refine wpAny_ready (rs := [1]) (by kernel_rfl) (by simp) ?_
            refine AllReady.cons rfl (fun K hK => ?_) ?_
            · go_simp
              go_wp2_with (go_at_call 25; refine Calls.mono (hc (by assumption)) ?_; rintro e W ⟨rfl, hB⟩; obtain ⟨r0, r1, r2, r3, r4⟩ := fS _ hB)
              refine wpAny_ready (rs := [4]) (by kernel_rfl) (by simp) ?_
              refine AllReady.cons rfl (fun K hK => ?_) ?_
              · go_simp
                refine hK _ _ ?_
                clear hK K
                refine wpAny_ready (rs := [5]) (by kernel_rfl) (by simp) ?_
                refine AllReady.cons rfl (fun K hK => ?_) ?_
                · go_simp
                  refine hK _ _ ?_
                  clear hK K
                  refine wpAny_done (by kernel_rfl) ?_ _
                  go_wp2
                  refine leaves_cons (f := 33) (args := #[.pointer (some ⟨w.heap.size + 1, 0, none⟩)]) (by simp) (by simp [go_sem]) ?_
                  refine (catch_idle ⟨w.heap.size + 1, 0, none⟩ _).mono ?_
                  rintro e u' w'' ⟨rfl, rfl, rfl⟩
                  have hset := setB hb1 hB hsz r3
                  have hcell := setBc r3 false
                  simp [Leaves, settle, results, Tryd.results16, go_sem, hcell]
                  exact hset _
                exact AllReady.nil
              exact AllReady.nil
            exact AllReady.nil
          exact AllReady.nil
        exact AllReady.nil
      exact AllReady.nil
    · have hc : ∀ {W : World}, Below w1.heap.size w1 W → Calls Tryd.prog 25 #[vlW k n s] W fun e W' => (∃ pv, e = .panicked [{ v := .iface 15 pv, recovered := false }]) ∧ Below w1.heap.size w1 W' := fun {W} hW =>
        (number_bad W (hAd.below hW) k n s c).mono fun e W' ⟨h1, h2⟩ => ⟨h1, hW.trans (h2.mono hW.size)⟩
      rw [show (if false = true then !decide (k = 2 ∧ n = 0 ∧ s.length ≤ 200) else !decide (k = 1 ∧ s.length = 0)) = true from by rw [decide_eq_false c]; rfl]
      clear c hA
      obtain ⟨p0, p1, p2, p3, p4⟩ := fS _ hB0
      go_wp2
      rw [← hw1]
      clear hw1
      refine wp_region_any (by kernel_rfl) ?_
      try (change wpAny _ _ _ _ _ _ _ (World.drew _))
      refine wpAny_ready (rs := [0, 2]) (by kernel_rfl) (by simp) ?_
      refine AllReady.cons rfl (fun K hK => ?_) ?_
      · go_simp
        refine hK _ _ ?_
        clear hK K
        refine wpAny_ready (rs := [1, 2]) (by kernel_rfl) (by simp) ?_
        refine AllReady.cons rfl (fun K hK => ?_) ?_
        · go_simp
          go_wp2_with (go_at_call 25; refine Calls.mono (hc (by assumption)) ?_; rintro e W ⟨⟨pv, rfl⟩, hB⟩; obtain ⟨r0, r1, r2, r3, r4⟩ := fS _ hB)
          refine leaves_cons (f := 33) (args := #[.pointer (some ⟨w.heap.size + 1, 0, none⟩)]) (by simp) (by simp [go_sem]) ?_
          refine (catch_panicking ⟨w.heap.size + 1, 0, none⟩ false 15 pv [] _ r3 r4).mono ?_
          rintro e u' w'' ⟨rfl, rfl, rfl⟩
          have hset := setB hb1 hB hsz r3
          have hcell := setBc r3 true
          simp [Leaves, settle, results, Tryd.results16, go_sem, hcell]
          exact hset _
        refine AllReady.cons rfl (fun K hK => ?_) ?_
        · go_simp
          refine hK _ _ ?_
          clear hK K
          refine wpAny_ready (rs := [1, 3]) (by kernel_rfl) (by simp) ?_
          refine AllReady.cons rfl (fun K hK => ?_) ?_
          · go_simp
            go_wp2_with (go_at_call 25; refine Calls.mono (hc (by assumption)) ?_; rintro e W ⟨⟨pv, rfl⟩, hB⟩; obtain ⟨r0, r1, r2, r3, r4⟩ := fS _ hB)
            refine leaves_cons (f := 33) (args := #[.pointer (some ⟨w.heap.size + 1, 0, none⟩)]) (by simp) (by simp [go_sem]) ?_
            refine (catch_panicking ⟨w.heap.size + 1, 0, none⟩ false 15 pv [] _ r3 r4).mono ?_
            rintro e u' w'' ⟨rfl, rfl, rfl⟩
            have hset := setB hb1 hB hsz r3
            have hcell := setBc r3 true
            simp [Leaves, settle, results, Tryd.results16, go_sem, hcell]
            exact hset _
          refine AllReady.cons rfl (fun K hK => ?_) ?_
          · go_simp
            refine hK _ _ ?_
            clear hK K
            refine wpAny_ready (rs := [1]) (by kernel_rfl) (by simp) ?_
            refine AllReady.cons rfl (fun K hK => ?_) ?_
            · go_simp
              go_wp2_with (go_at_call 25; refine Calls.mono (hc (by assumption)) ?_; rintro e W ⟨⟨pv, rfl⟩, hB⟩; obtain ⟨r0, r1, r2, r3, r4⟩ := fS _ hB)
              refine leaves_cons (f := 33) (args := #[.pointer (some ⟨w.heap.size + 1, 0, none⟩)]) (by simp) (by simp [go_sem]) ?_
              refine (catch_panicking ⟨w.heap.size + 1, 0, none⟩ false 15 pv [] _ r3 r4).mono ?_
              rintro e u' w'' ⟨rfl, rfl, rfl⟩
              have hset := setB hb1 hB hsz r3
              have hcell := setBc r3 true
              simp [Leaves, settle, results, Tryd.results16, go_sem, hcell]
              exact hset _
            exact AllReady.nil
          exact AllReady.nil
        exact AllReady.nil
      refine AllReady.cons rfl (fun K hK => ?_) ?_
      · go_simp
        refine hK _ _ ?_
        clear hK K
        refine wpAny_ready (rs := [0, 3]) (by kernel_rfl) (by simp) ?_
        refine AllReady.cons rfl (fun K hK => ?_) ?_
        · go_simp
          refine hK _ _ ?_
          clear hK K
          refine wpAny_ready (rs := [1, 3]) (by kernel_rfl) (by simp) ?_
          refine AllReady.cons rfl (fun K hK => ?_) ?_
          · go_simp
            go_wp2_with (go_at_call 25; refine Calls.mono (hc (by assumption)) ?_; rintro e W ⟨⟨pv, rfl⟩, hB⟩; obtain ⟨r0, r1, r2, r3, r4⟩ := fS _ hB)
            refine leaves_cons (f := 33) (args := #[.pointer (some ⟨w.heap.size + 1, 0, none⟩)]) (by simp) (by simp [go_sem]) ?_
            refine (catch_panicking ⟨w.heap.size + 1, 0, none⟩ false 15 pv [] _ r3 r4).mono ?_
            rintro e u' w'' ⟨rfl, rfl, rfl⟩
            have hset := setB hb1 hB hsz r3
            have hcell := setBc r3 true
            simp [Leaves, settle, results, Tryd.results16, go_sem, hcell]
            exact hset _
          refine AllReady.cons rfl (fun K hK => ?_) ?_
          · go_simp
            refine hK _ _ ?_
            clear hK K
            refine wpAny_ready (rs := [1]) (by kernel_rfl) (by simp) ?_
            refine AllReady.cons rfl (fun K hK => ?_) ?_
            · go_simp
              go_wp2_with (go_at_call 25; refine Calls.mono (hc (by assumption)) ?_; rintro e W ⟨⟨pv, rfl⟩, hB⟩; obtain ⟨r0, r1, r2, r3, r4⟩ := fS _ hB)
              refine leaves_cons (f := 33) (args := #[.pointer (some ⟨w.heap.size + 1, 0, none⟩)]) (by simp) (by simp [go_sem]) ?_
              refine (catch_panicking ⟨w.heap.size + 1, 0, none⟩ false 15 pv [] _ r3 r4).mono ?_
              rintro e u' w'' ⟨rfl, rfl, rfl⟩
              have hset := setB hb1 hB hsz r3
              have hcell := setBc r3 true
              simp [Leaves, settle, results, Tryd.results16, go_sem, hcell]
              exact hset _
            exact AllReady.nil
          exact AllReady.nil
        refine AllReady.cons rfl (fun K hK => ?_) ?_
        · go_simp
          refine hK _ _ ?_
          clear hK K
          refine wpAny_ready (rs := [0]) (by kernel_rfl) (by simp) ?_
          refine AllReady.cons rfl (fun K hK => ?_) ?_
          · go_simp
            refine hK _ _ ?_
            clear hK K
            refine wpAny_ready (rs := [1]) (by kernel_rfl) (by simp) ?_
            refine AllReady.cons rfl (fun K hK => ?_) ?_
            · go_simp
              go_wp2_with (go_at_call 25; refine Calls.mono (hc (by assumption)) ?_; rintro e W ⟨⟨pv, rfl⟩, hB⟩; obtain ⟨r0, r1, r2, r3, r4⟩ := fS _ hB)
              refine leaves_cons (f := 33) (args := #[.pointer (some ⟨w.heap.size + 1, 0, none⟩)]) (by simp) (by simp [go_sem]) ?_
              refine (catch_panicking ⟨w.heap.size + 1, 0, none⟩ false 15 pv [] _ r3 r4).mono ?_
              rintro e u' w'' ⟨rfl, rfl, rfl⟩
              have hset := setB hb1 hB hsz r3
              have hcell := setBc r3 true
              simp [Leaves, settle, results, Tryd.results16, go_sem, hcell]
              exact hset _
            exact AllReady.nil
          exact AllReady.nil
        exact AllReady.nil
      exact AllReady.nil
end Go.Proofs
