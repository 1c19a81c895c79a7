/-
  The texts Sn, Sd, Sb, Rs, Sc, Tb, Rw, Sr, Sw, Tc, Td, Te, Ua, Uf, Du of this seat, one behind the other.
-/
import Derived.Test.YtcijjgfadkflmaaDoorZ9
import Derived.Lib.AppendIntMem
import Derived.Lib.AtoiErrMem
import Derived.Lib.ItoaLen
import Derived.Tactics
import Derived.Tactics2
import Derived.Laws.Pointers
import Derived.WalkKit
import Derived.WalkSmall
import Derived.KernelRfl

section
namespace Go.Proofs.YtcijjgfadkflmaaDoor.V
open Go.AL Go.RowKit
set_option linter.unusedSimpArgs false
set_option linter.unusedVariables false
set_option maxHeartbeats 2000000
set_option maxRecDepth 20000
theorem PCall.ofBelowA {P : Program} {g : FuncId} {xs : List AVal} {v : AVal}
    (h : ∀ γ w vs, Amb γ w → RepL γ w false xs vs → Calls P g vs.toArray w fun e w' => ∃ u, e = .returned u ∧ Rep γ w' false v u ∧ Below w.heap.size w w') : PCall P g xs v :=
  fun σ γ w vs hi hr => (h γ w vs hi.amb hr).mono fun e w' ⟨u, h1, h2, h3⟩ =>
    ⟨u, v, γ, σ, h1, h2, hi.below h3, Evo.below (fun b o hm => hi.imm_lt hm) h3, rfl, rfl⟩
theorem tab_of {w : World} (h : Known w) : Lib.TabIs Tryd.prog w "internal/strconv.uint64pow10" .u64 Lib.pow10Tab := by
  have hc : ∀ i, i < 20 → w.cell? ⟨3, i, none⟩ = some (Value.int .u64 ((10 ^ i : Nat) : Int)) := fun i hi =>
    h.1 (3, i, Value.int .u64 ((10 ^ i : Nat) : Int)) (by unfold tabs; exact List.mem_append_right _ <| List.mem_map.2 ⟨i, List.mem_range.2 hi, rfl⟩)
  have hn : w.cell? ⟨3, 20, none⟩ = none := (h.2.2 (3, 20) (by unfold tabsB; exact List.mem_singleton.2 rfl)).2 20 (Nat.le_refl _)
  have hg : Tryd.prog.globalNamed "internal/strconv.uint64pow10" = some 3 := by kernel_rfl
  unfold Lib.TabIs World.var?
  rw [hg]
  simp only [Option.bind_some]
  have h0 := hc 0 (by decide)
  have hcs : ∃ cs T fz, w.heap[3]? = some (.cells cs T fz) := by
    cases hh : w.heap[3]? with
    | none => simp [World.cell?, hh] at h0
    | some o =>
      cases o with
      | cells cs T fz => exact ⟨_, _, _, rfl⟩
      | _ => simp [World.cell?, hh] at h0
  obtain ⟨cs, T, fz, hh⟩ := hcs
  rw [hh]
  simp only
  refine congrArg some ?_
  have get : ∀ i, w.cell? ⟨3, i, none⟩ = cs[i]? := fun i => by simp [World.cell?, hh]
  have hsz : cs.size = 20 := by
    have h19 := hc 19 (by decide)
    rw [get] at h19 hn
    have := (Array.getElem?_eq_some_iff.1 h19).1
    have := Array.getElem?_eq_none_iff.1 hn
    omega
  refine Array.ext (by rw [hsz]; simp [Lib.pow10Tab_length]) fun i h1 h2 => ?_
  have hi : i < 20 := by omega
  have := hc i hi
  rw [get, Array.getElem?_eq_getElem h1] at this
  rw [Option.some.inj this]
  have h3 := Lib.pow10Tab_at i hi
  have hl := Lib.pow10Tab_length
  simp only [List.getElem_toArray, List.getElem_map]
  rw [List.getD_eq_getElem?_getD, List.getElem?_eq_getElem (by omega)] at h3
  rw [← h3]; rfl
theorem itoa_ok : EntOk Tryd.prog itoaE := by
  intro xs σ; simp only [itoaE]; split
  · rename_i n
    intro hc
    have hn := i64r_of hc
    refine PCall.ofBelowA fun γ w vs ha hr => ?_
    obtain ⟨u, rfl, hu⟩ := repL1 hr
    cases hu
    exact (Tryd.strconv_Itoa n hn.1 hn.2 w (tab_of ha.1)).mono fun e w' ⟨he, k, os, hw⟩ => ⟨_, he, .str false _, by rw [hw]; exact Lib.below_grow _ _ (Nat.le_refl _) _ _⟩
  · trivial
theorem err_of {w : World} (h : Known w) (g : Nat) (hg : (g, 0, isErrV) ∈ tabsP) : ∃ ev, w.cell? ⟨g, 0, none⟩ = some ev ∧ (ev = .nilIface ∨ ∃ te pe, ev = .iface te pe) := by
  obtain ⟨v, h1, t, p, h2⟩ := h.2.1 _ hg
  exact ⟨v, h1, .inr ⟨t, p, h2⟩⟩
theorem atoi_ok : EntOk Tryd.prog atoiE := by
  intro xs σ; simp only [atoiE]; split
  · rename_i s
    have ho : ∀ v, Lib.atoiAll s = .ok v → numT s = some v := fun v h => by unfold numT; rw [h]
    have hx : ∀ e, Lib.atoiAll s = e → (∀ v, e ≠ .ok v) → numT s = none := fun e h hv => by
      unfold numT; rw [h]
      cases e with
      | ok v => exact (hv v rfl).elim
      | _ => rfl
    refine ⟨fun h1 hc => ?_, fun h1 hc => ?_⟩
    · rw [hold_eq] at h1
      have hs := lenT_of hc
      refine PCall.ofBelowA fun γ w vs ha hr => ?_
      obtain ⟨u, rfl, hu⟩ := repL1 hr
      have hu := repStr hu
      subst hu
      cases hq : Lib.atoiAll s with
      | ok v =>
        rw [ho v hq]
        exact (Tryd.strconv_Atoi_ok ⟨s.toArray⟩ (by rw [sizeT]; omega) v hq w).mono fun e w' ⟨he, hw⟩ => ⟨_, he, .tuple (.cons (.int _ _ _) (.cons (.nilIface _) (.nil _))), by
          rcases hw with rfl | ⟨t, rfl⟩
          · exact Below.refl _ _
          · exact Lib.bytesWorld_below _ _ _⟩
      | _ => rw [hx _ hq (fun v h => by cases h)] at h1; cases h1
    · rw [hold_eq] at h1
      have hs := lenT_of hc
      refine PCall.ofBelowA fun γ w vs ha hr => ?_
      obtain ⟨u, rfl, hu⟩ := repL1 hr
      have hu := repStr hu
      subst hu
      cases hq : Lib.atoiAll s with
      | ok v => rw [ho v hq] at h1; cases h1
      | range =>
        obtain ⟨ev, g1, g2⟩ := err_of ha.1 5 (by unfold tabsP; exact List.mem_cons_of_mem _ (List.mem_cons_self ..))
        exact (Tryd.strconv_Atoi_range ⟨s.toArray⟩ (by rw [sizeT]; omega) hq ev w g1 g2).mono fun e w' ⟨N, he, _, _, hb⟩ => ⟨_, he, .tuple (.cons (.int _ _ _) (.cons (.iface (.undef _ _)) (.nil _))), hb⟩
      | _ =>
        obtain ⟨ev, g1, g2⟩ := err_of ha.1 4 (by unfold tabsP; exact List.mem_cons_self ..)
        exact (Tryd.strconv_Atoi_syntax ⟨s.toArray⟩ (by rw [sizeT]; omega) hq ev w g1 g2).mono fun e w' ⟨N, he, _, _, hb⟩ => ⟨_, he, .tuple (.cons (.int _ _ _) (.cons (.iface (.undef _ _)) (.nil _))), hb⟩
  · trivial
theorem quote_ok : EntOk Tryd.prog quoteE := by
  intro xs σ; simp only [quoteE]; split
  · rename_i s
    intro hc
    refine PCall.ofBelow fun γ w vs hr => ?_
    obtain ⟨u, rfl, hu⟩ := repL1 hr
    have hu := repStr hu
    subst hu
    exact (quote_walk s w (by have := lenT_of hc; omega)).mono fun e w' ⟨he, hb⟩ => ⟨_, he, .str false _, hb⟩
  · trivial
theorem unquote_ok : EntOk Tryd.prog unquoteE := by
  intro xs σ; simp only [unquoteE]; split
  · rename_i s
    intro hc
    refine PCall.ofBelow fun γ w vs hr => ?_
    obtain ⟨u, rfl, hu⟩ := repL1 hr
    have hu := repStr hu
    subst hu
    refine (unquote_walk s w (lenT_of hc)).mono fun e w' ⟨he, hb⟩ => ⟨_, he, ?_, hb⟩
    rw [unqL_T]
    by_cases h : (unqT s).2 = true
    · rw [if_pos h, if_pos h, if_pos h]
      exact .tuple (.cons (.str false _) (.cons (.int false _ _) (.nil _)))
    · rw [if_neg h, if_neg h, if_neg h]
      exact .tuple (.cons (.str false []) (.cons (.int false _ _) (.nil _)))
  · trivial
theorem print_c (k n : Int) (s : Txt) (h0 : -9223372036854775808 ≤ n ∧ n ≤ 9223372036854775807) : ACall Tryd.prog 44 [.agg [.int .i64 k, .int .i64 n, .str s]] Sto.empty fun r _ => Wk r (.str (printV ⟨k, n, s⟩)) := by
  refine print_i k n s _ (.of [thingE, itoaE, quoteE] rfl ⟨thing_ok, itoa_ok, quote_ok, trivial⟩) ?_
  simp only [hold_eq]
  unfold printV
  simp only
  refine brV_by (fun h => ?_) (fun h => ?_)
  · rw [if_pos (of_decide_eq_true h)]
    intro y hy
    rw [hy]
    exact gb_by (i64r_mk h0) (Wk.refl _)
  · rw [if_neg (of_decide_eq_false h)]
    refine brV_by (fun h2 => ?_) (fun h2 => ?_)
    · have h3 := of_decide_eq_true h2
      rw [if_pos h3]
      intro y hy
      rw [hy]
      exact gb_by (lenT_mk (by omega)) (Wk.refl _)
    · rw [if_neg (of_decide_eq_false h2)]
      exact Wk.refl _
theorem print_ok : EntOk Tryd.prog printE := by
  intro xs σ; simp only [printE]; split
  · rename_i k n s
    intro hc
    exact pcall_of (v := .str _) (.refl _) (print_c k n s (i64r_of hc)) rfl rfl rfl rfl
  · trivial
theorem numT_bound {s : Txt} {n : Int} (h : numT s = some n) : -9223372036854775808 ≤ n ∧ n ≤ 9223372036854775807 := by
  unfold numT at h
  split at h
  · rename_i v hv
    cases h
    exact Lib.atoiAll_bounds hv
  · cases h
def resR (y : Option Vl) : AVal := .tuple [.agg [.int .i64 (y.getD .zero).k, .int .i64 (y.getD .zero).n, .str (y.getD .zero).s], .int .i64 (if y.isSome then 0 else 10)]
theorem read_c (s : Txt) (hs : s.length ≤ 1000000) : ACall Tryd.prog 49 [.str s] Sto.empty fun r _ => Wk r (resR (readV s)) := by
  refine read_i s _ (.of [atoiE, unquoteE, printE] rfl ⟨atoi_ok, unquote_ok, print_ok, trivial⟩) ?_
  simp only [hold_eq]
  intro y hy
  cases hy' : numT s with
  | some n =>
    rw [hy'] at hy
    subst hy
    have hb := numT_bound hy'
    refine brT rfl (gb_by (lenT_mk hs) ?_)
    intro p hp
    have hp : p = printV ⟨1, n, []⟩ := hp
    refine gb_by (i64r_mk hb) ?_
    have hr : readV s = if p = s then some ⟨1, n, []⟩ else none := by unfold readV; rw [hy', hp]
    rw [hr]
    refine brV_by (fun h => ?_) (fun h => ?_)
    · have h : ¬ p = s := by simpa using h
      rw [if_neg h]; exact Wk.refl _
    · have h : p = s := by simpa using h
      rw [if_pos h]; exact Wk.refl _
  | none =>
    rw [hy'] at hy
    subst hy
    refine brF rfl ?_
    intro z hz
    refine gb_by (lenT_mk hs) ?_
    intro b hb t ht
    refine gb_by (lenT_mk hs) ?_
    cases b with
    | false =>
      have hr : readV s = none := by unfold readV; rw [hy']; simp only [← hb]; rfl
      rw [hr]
      exact brF rfl (Wk.refl _)
    | true =>
      refine brT rfl ?_
      intro p hp
      have ht : t = (unqT s).1 := ht
      have hr : readV s = if p = s then some ⟨2, 0, t⟩ else none := by unfold readV; rw [hy', hp, ht]; simp only [← hb, if_true]
      rw [hr]
      refine gb_by (i64r_mk (by omega)) ?_
      refine brV_by (fun h => ?_) (fun h => ?_)
      · have h : ¬ p = s := by simpa using h
        rw [if_neg h]; exact Wk.refl _
      · have h : p = s := by simpa using h
        rw [if_pos h]; exact Wk.refl _
theorem read_ok : EntOk Tryd.prog readE := by
  intro xs σ; simp only [readE]; split
  · rename_i s
    intro hc
    exact pcall_of (v := resR _) (.refl _) (read_c s (lenT_of hc)) rfl rfl rfl rfl
  · trivial
theorem number_ok : EntOk Tryd.prog numberE := by
  intro xs σ; simp only [numberE]; split
  · rename_i k n s
    intro hc
    exact pcall_of (.refl _) (number_i k n s _ (.of [thingE] rfl ⟨thing_ok, trivial⟩) (brT hc (Wk.refl _))) rfl rfl rfl rfl
  · trivial
end Go.Proofs.YtcijjgfadkflmaaDoor.V
end

section
namespace Go.Proofs
open Go.RowKit Go.AL YtcijjgfadkflmaaDoor
set_option linter.unusedSimpArgs false
set_option linter.unusedVariables false
set_option maxHeartbeats 4000000
set_option maxRecDepth 1000000
abbrev vlW (k n : Int) (s : List UInt8) : Value := .agg #[.int .i64 k, .int .i64 n, .string ⟨s.toArray⟩]
theorem rep_vl (γ : Gh) (w : World) (k n : Int) (s : List UInt8) : Rep γ w false (.agg [.int .i64 k, .int .i64 n, .str s]) (vlW k n s) :=
  .agg (.cons (.int _ _ _) (.cons (.int _ _ _) (.cons (.str _ _) (.nil _)))) (by
    intro v hv
    simp at hv
    rcases hv with rfl | rfl | rfl <;> rfl)
theorem thing_w (w : World) (hA : Known w) (k n : Int) (s : List UInt8) : Calls Tryd.prog 58 #[vlW k n s] w fun e w' =>
    e = .returned (if k = 1 ∧ s.length = 0 then .iface 3 (.int .i64 n) else if k = 2 ∧ n = 0 ∧ s.length ≤ 200 then .iface 9 (.string ⟨s.toArray⟩) else .nilIface) ∧ Below w.heap.size w w' :=
  ((V.thing_c k n s).top hA (.cons (rep_vl _ _ k n s) (.nil _))).mono fun e w' ⟨v, r, γ', σ', h1, h2, h3, h4⟩ => by
    have := h3 γ' w' false v h2
    refine ⟨?_, h4⟩
    rw [h1]
    unfold V.thingA at this
    split at this
    · rename_i c
      rw [if_pos c]
      cases this with
      | iface h => cases h; rfl
    · rename_i c
      rw [if_neg c]
      split at this
      · rename_i c
        rw [if_pos c]
        cases this with
        | iface h => cases h; rfl
      · rename_i c
        rw [if_neg c]
        cases this; rfl
theorem fails_below {w : World} (o : Obj) : Below w.heap.size w (w.alloc o) := (Below.refl _ w).alloc (Nat.le_refl _) _
theorem elem15 (w : World) : ∃ a, (elemOf 15).run Tryd.prog w = .ok a w := by
  simp [elemOf, run_underlying Tryd.underlying15]
theorem ta_bad (w : World) (x : Value) (t : TypeId) (ht : (t = 3 ∧ (x = .nilIface ∨ ∃ s, x = .iface 9 s)) ∨ (t = 9 ∧ (x = .nilIface ∨ ∃ s, x = .iface 3 s))) :
    ∃ pv w', (Instr.typeAssert x 20 t false).run Tryd.prog w = .halt (.panic (.iface 15 pv)) w' ∧ Below w.heap.size w w' := by
  obtain ⟨a, ha⟩ := elem15 w
  have key : ∃ y, (Instr.typeAssert x 20 t false).run Tryd.prog w = .halt (.panic (.iface 15 (.pointer (some ⟨w.heap.size, 0, none⟩)))) (w.alloc (.cells #[typeHandle Tryd.prog 20, y, typeHandle Tryd.prog t, strVal ""] a)) := by
    rcases ht with ⟨rfl, rfl | ⟨s, rfl⟩⟩ | ⟨rfl, rfl | ⟨s, rfl⟩⟩
    · exact ⟨.pointer none, by simp [Instr.typeAssert, run_underlying Tryd.underlying3, go_sem, ha]⟩
    · exact ⟨typeHandle Tryd.prog 9, by simp [Instr.typeAssert, run_underlying Tryd.underlying3, go_sem, ha]⟩
    · exact ⟨.pointer none, by simp [Instr.typeAssert, run_underlying Tryd.underlying9, go_sem, ha]⟩
    · exact ⟨typeHandle Tryd.prog 3, by simp [Instr.typeAssert, run_underlying Tryd.underlying9, go_sem, ha]⟩
  obtain ⟨y, hy⟩ := key
  exact ⟨_, _, hy, fails_below _⟩
theorem number_bad (w : World) (hA : Known w) (k n : Int) (s : List UInt8) (c : ¬ (k = 1 ∧ s.length = 0)) : Calls Tryd.prog 53 #[vlW k n s] w fun e w' => (∃ pv, e = .panicked [{ v := .iface 15 pv, recovered := false }]) ∧ Below w.heap.size w w' := by
  have hb := fails_below (w := w) (.cells #[.int .i64 k, .int .i64 n, .string ⟨s.toArray⟩] 25)
  have hth := thing_w _ (hA.below hb) k n s
  obtain ⟨x, hx, hx2⟩ : ∃ x, (if k = 1 ∧ s.length = 0 then Value.iface 3 (.int .i64 n) else if k = 2 ∧ n = 0 ∧ s.length ≤ 200 then .iface 9 (.string ⟨s.toArray⟩) else .nilIface) = x ∧ (x = .nilIface ∨ ∃ z, x = .iface 9 z) := by
    refine ⟨_, rfl, ?_⟩
    rw [if_neg c]
    split
    · exact .inr ⟨_, rfl⟩
    · exact .inl rfl
  rw [hx] at hth
  clear hx c hA
  go_enter Tryd.func53, Tryd.ntmps53
  go_wp2_with (go_at_call 58; refine hth.mono ?_)
  rintro e W ⟨rfl, hb2⟩
  obtain ⟨pv, W2, hta, hb3⟩ := ta_bad W x 3 (.inl ⟨rfl, hx2⟩)
  have hb4 := hb.trans (hb2.mono hb.size)
  have hb5 := hb4.trans (hb3.mono hb4.size)
  go_wp2
  exact ⟨rfl, ⟨pv, rfl⟩, hb5⟩
end Go.Proofs
namespace Go.Proofs.YtcijjgfadkflmaaDoor
open Go.AL Go.RowKit
set_option linter.unusedVariables false
theorem nd_of {p : Prop} [Decidable p] (h : (!decide p) = true) : ¬ p := by simpa using h
theorem dn_of {p : Prop} [Decidable p] (h : (!decide p) = false) : p := by simpa using h
theorem xpan_below {P : Program} {g : FuncId} {xs : List AVal} (h : ∀ γ w vs, Amb γ w → RepL γ w false xs vs → Calls P g vs.toArray w fun e w' => (∃ ch, e = .panicked ch ∧ okCh ch) ∧ Below w.heap.size w w') (σ : Sto) : XPan P g xs σ :=
  fun γ w vs hi hr => (h γ w vs hi.amb hr).mono fun e w' ⟨⟨ch, h1, h2⟩, hb⟩ => ⟨ch, h1, h2, hb.os, hb.tape, hb.output, hb.size, fun c hc _ => hb.block c hc⟩
theorem numberP_ok : EntOk Tryd.prog numberPE := by
  intro xs σ; simp only [numberPE]; split
  · rename_i k n s
    intro _
    rw [hold_eq]
    refine ⟨fun hb => ?_, fun hb => ?_⟩
    · have hb := nd_of hb
      refine xpan_below (fun γ w vs hA hr => ?_) σ
      obtain ⟨u, rfl, q1⟩ := repL1 hr
      cases q1 with
      | agg q1 h1 =>
        cases q1 with
        | cons a1 q1 => cases q1 with
          | cons a2 q1 => cases q1 with
            | cons a3 q1 =>
              cases q1; cases a1; cases a2; cases a3
              exact (number_bad w hA.1 k n s hb).mono fun e w' ⟨⟨pv, h1⟩, h2⟩ => ⟨⟨_, h1, _, _, rfl⟩, h2⟩
    · have hb := dn_of hb
      have := V.number_ok [.agg [.int .i64 k, .int .i64 n, .str s]] σ
      simp only [V.numberE] at this
      intro _
      exact this (by rw [hold_eq]; exact decide_eq_true hb)
  · trivial
end Go.Proofs.YtcijjgfadkflmaaDoor
end

section
namespace Go.Proofs.YtcijjgfadkflmaaDoor
open Go.AL
set_option linter.unusedSimpArgs false
set_option linter.unusedVariables false
set_option maxHeartbeats 1000000
set_option maxRecDepth 20000
theorem rdStep {α : Type} {l : List Txt} (hl : okL l) (F : List Txt → Rd α) {pk : Prop} {C : Rd α → Prop} (h1 : F l = none → pk) (h2 : ∀ x t, F l = some (x, t) → C (some (x, t))) :
    ∀ y, y = F (List.map AVal.strOf (strv l)) → gb (okR (strv l) 1) (brV (Option.isNone y) true pk (C y)) := by
  intro y hy
  rw [map_strOf_strv] at hy
  refine gb_by (okR_mk hl) ?_
  cases y with
  | none => exact brV_by (fun _ => h1 hy.symm) (fun h => by cases h)
  | some x => exact brV_by (fun h => by cases h) (fun _ => h2 x.1 x.2 hy.symm)
theorem rdStep' {α : Type} {l : List Txt} (hl : okL l) (F : List Txt → Rd α) {pk : Prop} {C : Rd α → Prop} (h1 : F l = none → pk) (h2 : ∀ x t, F l = some (x, t) → C (some (x, t))) :
    ∀ y, y = F l → gb (okR (strv l) 1) (brV (Option.isNone y) true pk (C y)) := by
  intro y hy
  refine gb_by (okR_mk hl) ?_
  cases y with
  | none => exact brV_by (fun _ => h1 hy.symm) (fun h => by cases h)
  | some x => exact brV_by (fun h => by cases h) (fun _ => h2 x.1 x.2 hy.symm)
theorem brT {b : Bool} {A B : Prop} (hb : b = true) (h : A) : brV b true A B := by subst hb; exact brV_by (fun _ => h) (fun h => by cases h)
theorem brF {b : Bool} {A B : Prop} (hb : b = false) (h : B) : brV b true A B := by subst hb; exact brV_by (fun h => by cases h) (fun _ => h)
theorem word_c : RdC 15 AVal.str [] rWord := by
  intro l hl
  refine word_i _ l _ (.of_none rfl) ?_
  simp only [hold_eq]
  cases l with
  | nil => exact brT rfl rfl
  | cons w t =>
    refine brF (by simp [strv] <;> omega) ?_
    refine gb_by (by simp [strv] <;> omega) (gb_by rfl (gb_by (by simp [strv] <;> omega) ⟨w, t, rfl, Wk.refl _, _, rfl, ?_⟩))
    have : List.take (Int.toNat (↑(List.length (strv (w :: t))) : Int) - 1) (List.drop 1 (strv (w :: t))) = strv t := by
      have e : strv (w :: t) = .str w :: strv t := rfl
      rw [e, List.length_cons]
      exact List.take_of_length_le (by simp)
    rw [this]
    exact .refl _
theorem word_ok : EntOk Tryd.prog wordE := rd_ok word_c (fun _ => rfl) (fun _ => rfl)
theorem peek_ok : EntOk Tryd.prog peekE := by
  intro xs σ
  simp only [peekE, rdr]
  split
  · rename_i k rest
    split
    · rename_i es hk
      split
      · rename_i w
        intro hok
        obtain ⟨l, rfl, hl⟩ := okR_of hok
        rw [map_strOf_strv, hold_eq]
        have c : ACall Tryd.prog 55 [.ptr (.out 0) 0, .str w] (Sto.one (.cells [.slice (strv l) 1 .ro])) fun r τ => Wk r (.bool (decide (l.head? = some w))) ∧ ∃ x, τ.obj 0 = some (.cells x) ∧ WkL x [.slice (strv l) 1 .ro] := by
          refine peek_i l w _ (.of_none rfl) ?_
          simp only [hold_eq]
          cases l with
          | nil => exact brF (by simp [strv]) ⟨Wk.refl _, _, rfl, .refl _⟩
          | cons v t =>
            refine brT (by simp [strv] <;> omega) ?_
            refine gb_by (by simp [strv] <;> omega) (gb_by rfl ⟨?_, _, rfl, .refl _⟩)
            have : (decide ((v :: t).head? = some w)) = (v == w) := by rw [Bool.eq_iff_iff]; simp
            rw [this]
            exact Wk.refl _
        have := FCall.ofOne c rfl rfl (noOut_words l) (noTok_words l) (noOut_words l) (noTok_words l) rfl rfl hk
        rwa [set_same hk] at this
      · trivial
    · trivial
  · trivial
theorem must_c (w : Txt) : RdC 56 (fun _ : Unit => .tuple []) [.str w] (rMust w) := by
  intro l hl
  refine must_i _ l w _ (.of [wordE] rfl ⟨word_ok, trivial⟩) ?_
  refine rdStep hl rWord (fun h => ?_) (fun x t h => ?_)
  · cases l with
    | nil => rfl
    | cons v t => cases h
  · cases l with
    | nil => cases h
    | cons v r =>
      obtain ⟨rfl, rfl⟩ : v = x ∧ r = t := by cases h; exact ⟨rfl, rfl⟩
      simp only [hold_eq, Option.getD_some]
      refine brV_by (fun h => ?_) (fun h => ?_)
      · have h : ¬ v = w := by simpa using h
        simp [rMust, h]
      · have h : v = w := by simpa using h
        exact ⟨(), r, by simp [rMust, h], Wk.refl _, _, rfl, .refl _⟩
theorem must_ok : EntOk Tryd.prog mustE := rdT_ok must_c (fun _ => rfl) (fun _ => rfl)
theorem name_c : RdC 37 AVal.str [] rName := by
  intro l hl
  refine name_i _ l _ (.of [wordE, Lt.rightE] rfl ⟨word_ok, Lt.right_ok, trivial⟩) ?_
  refine rdStep hl rWord (fun h => ?_) (fun x t h => ?_)
  · cases l with
    | nil => rfl
    | cons v t => cases h
  · cases l with
    | nil => cases h
    | cons v r =>
      obtain ⟨rfl, rfl⟩ : v = x ∧ r = t := by cases h; exact ⟨rfl, rfl⟩
      simp only [hold_eq, Option.getD_some, List.map_cons, List.map_nil, AVal.strOf, List.all_cons, List.all_nil, Bool.and_true]
      refine gb_by ?_ ?_
      · have hv : v.length ≤ 1000000 := hl.2 v (List.mem_cons_self ..)
        have e1 : Lt.strOk (.str v) = true := Lt.lenT_mk hv
        have e2 : strIs (.str v) = true := rfl
        have e3 : Lt.lenOk 1 = true := Lt.lenOk_mk (by omega)
        simp [e1, e2, e3]
      · refine brV_by (fun h => ?_) (fun h => ?_)
        · have h : ¬ nameT v = true := by simpa using h
          simp [rName, h]
        · have h : nameT v = true := by simpa using h
          exact ⟨v, r, by simp [rName, h], Wk.refl _, _, rfl, .refl _⟩
theorem name_ok : EntOk Tryd.prog nameE := rd_ok name_c (fun _ => rfl) (fun _ => rfl)
theorem value_c : RdC 54 Vl.a [] rValue := by
  intro l hl
  refine value_i _ l _ (.of [wordE, V.readE] rfl ⟨word_ok, V.read_ok, trivial⟩) ?_
  refine rdStep hl rWord (fun h => ?_) (fun x t h => ?_)
  · cases l with
    | nil => rfl
    | cons v t => cases h
  · cases l with
    | nil => cases h
    | cons v r =>
      obtain ⟨rfl, rfl⟩ : v = x ∧ r = t := by cases h; exact ⟨rfl, rfl⟩
      simp only [hold_eq, Option.getD_some]
      intro y hy z hz
      have hv : v.length ≤ 1000000 := hl.2 v (List.mem_cons_self ..)
      refine gb_by (V.lenT_mk hv) ?_
      cases y with
      | none => exact brT rfl (by simp [rValue, ← hy])
      | some x =>
        refine brF rfl ⟨x, r, by simp [rValue, ← hy], ?_, _, rfl, .refl _⟩
        rw [hz]
        exact Wk.refl _
theorem value_ok : EntOk Tryd.prog valueE := rd_ok value_c (fun _ => rfl) (fun _ => rfl)
theorem number_c : RdC 36 (AVal.int .i64) [] rNumber := by
  intro l hl
  refine number_i _ l _ (.of [valueE, numberPE] rfl ⟨value_ok, numberP_ok, trivial⟩) ?_
  refine rdStep hl rValue (fun h => ?_) (fun x t h => ?_)
  · simp [rNumber, h]
  · simp only [hold_eq, Option.getD_some]
    refine brV_by (fun hb => ?_) (fun hb => ?_)
    · have hb := nd_of hb
      simp only [rNumber, h]
      rw [if_neg hb]; rfl
    · have hb := dn_of hb
      refine ⟨x.n, t, ?_, Wk.refl _, _, rfl, .refl _⟩
      simp only [rNumber, h]
      rw [if_pos hb]
theorem numberR_ok : EntOk Tryd.prog numberRE := rd_ok number_c (fun _ => rfl) (fun _ => rfl)
theorem peekStep {l : List Txt} (hl : okL l) (w : Txt) {A B : Prop} (h1 : l.head? = some w → A) (h2 : ¬ l.head? = some w → B) :
    gb (okR (strv l) 1) (brV (hold (decide (List.head? (List.map AVal.strOf (strv l)) = some w))) true A B) := by
  refine gb_by (okR_mk hl) ?_
  rw [hold_eq, map_strOf_strv]
  exact brV_by (fun h => h1 (of_decide_eq_true h)) (fun h => h2 (of_decide_eq_false h))
theorem word_head {l t : List Txt} {w x : Txt} (h : l.head? = some w) (hw : rWord l = some (x, t)) : x = w ∧ t = l.tail := by
  cases l with
  | nil => cases h
  | cons a r => cases h; cases hw; exact ⟨rfl, rfl⟩
theorem word_none {l : List Txt} {w : Txt} (h : l.head? = some w) (hw : rWord l = none) : False := by
  cases l with
  | nil => cases h
  | cons a r => cases hw
theorem label_c : RdC 40 AVal.str [] rLabel := by
  intro l hl
  refine label_i _ l _ (.of [wordE, peekE, nameE] rfl ⟨word_ok, peek_ok, name_ok, trivial⟩) ?_
  refine peekStep hl wG (fun h => ?_) (fun h => ?_)
  · refine rdStep hl rWord (fun h2 => (word_none h h2).elim) (fun x t h2 => ?_)
    obtain ⟨rfl, rfl⟩ := word_head h h2
    exact ⟨[], l.tail, by simp only [rLabel]; rw [if_pos h], Wk.refl _, _, rfl, .refl _⟩
  · refine rdStep hl rName (fun h2 => ?_) (fun x t h2 => ?_)
    · simp only [rLabel]; rw [if_neg h, h2]; rfl
    · exact ⟨x, t, by simp only [rLabel]; rw [if_neg h, h2], Wk.refl _, _, rfl, .refl _⟩
theorem label_ok : EntOk Tryd.prog labelE := rd_ok label_c (fun _ => rfl) (fun _ => rfl)
theorem edge_c : RdC 39 (fun b => AVal.bool (hold b)) [] rEdge := by
  intro l hl
  refine edge_i _ l _ (.of [wordE, peekE, mustE] rfl ⟨word_ok, peek_ok, must_ok, trivial⟩) ?_
  refine peekStep hl wEdge (fun h => ?_) (fun h => ?_)
  · refine rdStep hl rWord (fun h2 => (word_none h h2).elim) (fun x t h2 => ?_)
    obtain ⟨rfl, rfl⟩ := word_head h h2
    exact ⟨true, l.tail, by simp only [rEdge]; rw [if_pos h], by simp only [hold_eq]; exact Wk.refl _, _, rfl, .refl _⟩
  · refine rdStep hl (rMust wVertex) (fun h2 => ?_) (fun x t h2 => ?_)
    · simp only [rEdge]; rw [if_neg h, h2]; rfl
    · exact ⟨false, t, by simp only [rEdge]; rw [if_neg h, h2]; rfl, by simp only [hold_eq]; exact Wk.refl _, _, rfl, .refl _⟩
theorem edge_ok : EntOk Tryd.prog edgeE := rd_ok edge_c (fun _ => rfl) (fun _ => rfl)
theorem node_c : RdC 41 Nd.a [] rNode := by
  intro l hl
  refine node_i _ l _ (.of [nameE, peekE, valueE] rfl ⟨name_ok, peek_ok, value_ok, trivial⟩) ?_
  refine rdStep hl rName (fun h => ?_) (fun a l1 h1 => ?_)
  · simp [rNode, h]
  simp only [Option.getD_some]
  have hl1 := hl.suf (rName_cut _ _ _ h1).1
  by_cases h0 : l1 = []
  · subst h0
    rw [hold_eq]
    refine brF (by simp [strv]) ⟨⟨a, [], .zero, .zero⟩, [], by simp [rNode, h1], Wk.refl _, _, rfl, .refl _⟩
  · rw [hold_eq]
    refine brT (by cases l1 with | nil => exact absurd rfl h0 | cons x t => simp [strv] <;> omega) ?_
    refine gb_by (okR_mk hl1) ?_
    simp only [hold_eq, map_strOf_strv]
    refine brV_by (fun hb => ?_) (fun hb => ?_)
    · have hb : ¬ l1.head? = some wC := nd_of hb
      have e0 : rNode l = match rName l1 with
        | none => none
        | some (k, l) => match rValue l with
          | none => none
          | some (lo, l) => (rValue l).map fun x => (⟨a, k, lo, x.1⟩, x.2) := by
        simp only [rNode, h1]
        rw [if_neg (fun e => e.elim h0 hb)]
        rfl
      rw [e0]
      refine rdStep' hl1 rName (fun h => ?_) (fun k l2 h2 => ?_)
      · rw [h]; rfl
      have hl2 := hl1.suf (rName_cut _ _ _ h2).1
      rw [h2]
      simp only [Option.getD_some]
      refine rdStep' hl2 rValue (fun h => ?_) (fun lo l3 h3 => ?_)
      · simp only [h]; rfl
      have hl3 := hl2.suf (rValue_cut _ _ _ h3).1
      simp only [Option.getD_some, h3]
      refine rdStep' hl3 rValue (fun h => ?_) (fun hi l4 h4 => ?_)
      · simp only [h]; rfl
      simp only [Option.getD_some]
      exact ⟨⟨a, k, lo, hi⟩, l4, by simp [h4], Wk.refl _, _, rfl, .refl _⟩
    · have hb : l1.head? = some wC := dn_of hb
      exact ⟨⟨a, [], .zero, .zero⟩, l1, by simp only [rNode, h1]; rw [if_pos (.inr hb)], Wk.refl _, _, rfl, .refl _⟩
theorem node_ok : EntOk Tryd.prog nodeE := rd_ok node_c (fun _ => rfl) (fun _ => rfl)
end Go.Proofs.YtcijjgfadkflmaaDoor
end

section
set_option maxRecDepth 100000
set_option maxHeartbeats 0
set_option linter.unusedVariables false
namespace Go.Proofs.YtcijjgfadkflmaaDoor
open Go.AL Go.Proofs
noncomputable def cProps (pk : Prop) : Cfg := { keep := [0, 2, 3, 4, 7, 12], cut := [(11, [0, 3], []), (20, [0, 3], [])], pan := pk, orc := ofList [wordE, peekE, nameE, mustE, valueE], grow := [(3, 4)] }
noncomputable def cPattern (pk : Prop) : Cfg := { keep := [0, 2, 3, 4, 6, 19], cut := [(5, [0, 2, 3], [2, 3]), (13, [0, 2, 3], [2, 3]), (12, [0, 2, 3], [2, 3]), (26, [2, 3], [2, 3])], pan := pk, orc := ofList [wordE, peekE, mustE, nodeE, numberRE, labelE], grow := [(3, 12008), (3, 12103)] }
noncomputable def cOp (pk : Prop) : Cfg := { keep := [0, 1, 4, 5, 6, 7, 10, 20, 34, 44, 56, 64, 71, 78, 88, 101, 108], cut := [(31, [0, 4, 5], [4, 5])], pan := pk, orc := ofList [numberRE, nameE, propsE, edgeE, labelE, nodeE, patternE], grow := [(5, 13101)] }
noncomputable def code_17_ : Code := (Tryd.f17.body).getD .skip
noncomputable def code_38_ : Code := (Tryd.f38.body).getD .skip
noncomputable def code_42_ : Code := (Tryd.f42.body).getD .skip
noncomputable def code_17_1_1_1 : Code := codeAt code_17_ [1, 1, 1]
noncomputable def code_42_1_1_1 : Code := codeAt code_42_ [1, 1, 1]
noncomputable def code_38_1_1_1_1 : Code := codeAt code_38_ [1, 1, 1, 1]
noncomputable def code_42_1_1_1_1 : Code := codeAt code_42_ [1, 1, 1, 1]
noncomputable def code_42_1_1_0_0_0 : Code := codeAt code_42_ [1, 1, 0, 0, 0]
noncomputable def code_42_1_1_1_0_0_0 : Code := codeAt code_42_ [1, 1, 1, 0, 0, 0]
noncomputable def code_38_1_1_1_0_1_0_0 : Code := codeAt code_38_ [1, 1, 1, 0, 1, 0, 0]
noncomputable def code_17_1_1_0_1_0_1_1_1_1_1_1_1_0_1_0_0 : Code := codeAt code_17_ [1, 1, 0, 1, 0, 1, 1, 1, 1, 1, 1, 1, 0, 1, 0, 0]
theorem props_i (pk : Prop) (l : List Txt) (Q : AVal → Sto → Prop) (ho : OrcOk Tryd.prog (cProps pk)) (h : gb (okR (strv l) 1) (brV (!hold (decide (List.head? (List.map AVal.strOf (strv l)) = some [(123 : UInt8)]))) true (Q (AVal.slice [] 0 Tag.nil) (Sto.one (AObj.cells [AVal.slice (strv l) 1 Tag.ro]))) (∀ (y : Rd (List UInt8)), y = rWord (List.map AVal.strOf (strv l)) → gb (okR (strv l) 1) (brV (Option.isNone y) true pk (loopV (fun s => St.norm [(3, 4)] [0, 3] [] s) (vc Tryd.prog (cProps pk) code_38_1_1_1_0_1_0_0) (blockK 0 (thenK (fun s => cutV (vc Tryd.prog (cProps pk) code_38_1_1_1_1 (endK Tryd.prog (Array.toList (Go.Func.results Tryd.f38)) Q)) (St.norm [(3, 4)] [0, 3] [] s)) (endK Tryd.prog (Array.toList (Go.Func.results Tryd.f38)) Q))) (St.mk 28 [(0, AVal.ptr (Oid.out 0) 0), (3, AVal.slice [] 4 (Tag.own 0))] [] [] (Sto.pushOwn (Sto.set (Sto.one (AObj.cells [AVal.slice (strv l) 1 Tag.ro])) 0 (AObj.cells [AVal.slice (strv (Prod.snd (Option.getD y ([], [])))) 1 Tag.ro])) 0))))))) : XCall Tryd.prog 38 [.ptr (.out 0) 0] (Sto.one (.cells [.slice (strv l) 1 .ro])) pk Q :=
  XCall.intro hmix Tryd.func38 (c := code_38_) (by kernel_rfl) (cProps pk) ho (Nat.le_of_ble_eq_true (by kernel_rfl)) (Eq.mpr (by kernel_rfl) h)
noncomputable def propsL_S (cur : List Txt) (acc : List Pr) : St := St.mk 28 [(0, .ptr (.out 0) 0), (3, .slice (prv acc) 4 (.own 0))] [] [] (Sto.pushOwn (Sto.one (.cells [.slice (strv cur) 1 .ro])) (prv acc).length)
noncomputable abbrev propsL_C : Code := code_38_1_1_1_0_1_0_0
theorem propsL_r (pk : Prop) (cur : List Txt) (acc : List Pr) (L : St → Prop) (K : Exit → St → Prop) : vc Tryd.prog (cProps pk) code_38_1_1_1_0_1_0_0 (thenK (fun s => L (St.norm [(3, 4)] [0, 3] [] s)) K) (St.mk 28 [(0, .ptr (.out 0) 0), (3, .slice (prv acc) 4 (.own 0))] [] [] (Sto.pushOwn (Sto.one (.cells [.slice (strv cur) 1 .ro])) (prv acc).length)) =
  (gb (okR (strv cur) 1) (brV (!hold (decide (List.head? (List.map AVal.strOf (strv cur)) = some [(125 : UInt8)]))) true (∀ (y : Rd (List UInt8)), y = rName (List.map AVal.strOf (strv cur)) → gb (okR (strv cur) 1) (brV (Option.isNone y) true pk (∀ (y_1 : Rd Unit), y_1 = rMust [(61 : UInt8)] (List.map AVal.strOf (strv (Prod.snd (Option.getD y ([], []))))) → gb (okR (strv (Prod.snd (Option.getD y ([], [])))) 1) (brV (Option.isNone y_1) true pk (∀ (y_2 : Rd Vl), y_2 = rValue (List.map AVal.strOf (strv (Prod.snd (Option.getD y_1 (PUnit.unit, []))))) → gb (okR (strv (Prod.snd (Option.getD y_1 (PUnit.unit, [])))) 1) (brV (Option.isNone y_2) true pk (gb (decide (decide (true = true ∧ some (List.length (prv acc)) = some (List.length (prv acc)) ∧ (List.length (prv acc) + 1) * 48 ≤ 140737488355328 ∧ List.length (prv acc) + 1 ≤ 9223372036854775807) = true ∧ true = true)) (L (St.mk 28 [(0, AVal.ptr (Oid.out 0) 0), (3, AVal.slice (prv acc ++ [AVal.agg [AVal.str (Prod.fst (Option.getD y ([], []))), AVal.int IntKind.i64 (Vl.k (Prod.fst (Option.getD y_2 (Vl.mk (0 : Int) (0 : Int) [], [])))), AVal.int IntKind.i64 (Vl.n (Prod.fst (Option.getD y_2 (Vl.mk (0 : Int) (0 : Int) [], [])))), AVal.str (Vl.s (Prod.fst (Option.getD y_2 (Vl.mk (0 : Int) (0 : Int) [], []))))]]) 4 (Tag.own 0))] [] [] (Sto.setOwn (Sto.set (Sto.set (Sto.set (Sto.pushOwn (Sto.one (AObj.cells [AVal.slice (strv cur) 1 Tag.ro])) (List.length (prv acc))) 0 (AObj.cells [AVal.slice (strv (Prod.snd (Option.getD y ([], [])))) 1 Tag.ro])) 0 (AObj.cells [AVal.slice (strv (Prod.snd (Option.getD y_1 (PUnit.unit, [])))) 1 Tag.ro])) 0 (AObj.cells [AVal.slice (strv (Prod.snd (Option.getD y_2 (Vl.mk (0 : Int) (0 : Int) [], [])))) 1 Tag.ro])) 0 (List.length (prv acc) + 1))))))))))) (K (Exit.exit 0) (St.mk 28 [(0, AVal.ptr (Oid.out 0) 0), (3, AVal.slice (prv acc) 4 (Tag.own 0)), (12, AVal.bool !hold (decide (List.head? (List.map AVal.strOf (strv cur)) = some [(125 : UInt8)])))] [] [] (Sto.pushOwn (Sto.one (AObj.cells [AVal.slice (strv cur) 1 Tag.ro])) (List.length (prv acc))))))) := by kernel_rfl
noncomputable def propsF_S (cur : List Txt) (acc : List Pr) : St := St.mk 28 [(0, .ptr (.out 0) 0), (3, .slice (prv acc) 4 (.own 0))] [] [] (Sto.pushOwn (Sto.one (.cells [.slice (strv cur) 1 .ro])) (prv acc).length)
noncomputable abbrev propsF_C : Code := code_38_1_1_1_1
theorem propsF_r (pk : Prop) (cur : List Txt) (acc : List Pr) (Q : AVal → Sto → Prop) : vc Tryd.prog (cProps pk) code_38_1_1_1_1 (endK Tryd.prog Tryd.f38.results.toList Q) (St.mk 28 [(0, .ptr (.out 0) 0), (3, .slice (prv acc) 4 (.own 0))] [] [] (Sto.pushOwn (Sto.one (.cells [.slice (strv cur) 1 .ro])) (prv acc).length)) =
  (∀ (y : Rd (List UInt8)), y = rWord (List.map AVal.strOf (strv cur)) → gb (okR (strv cur) 1) (brV (Option.isNone y) true pk (Q (AVal.slice (prv acc) 4 (Tag.own 0)) (Sto.set (Sto.pushOwn (Sto.one (AObj.cells [AVal.slice (strv cur) 1 Tag.ro])) (List.length (prv acc))) 0 (AObj.cells [AVal.slice (strv (Prod.snd (Option.getD y ([], [])))) 1 Tag.ro]))))) := by kernel_rfl
theorem pattern_i (pk : Prop) (l : List Txt) (Q : AVal → Sto → Prop) (ho : OrcOk Tryd.prog (cPattern pk)) (h : loopV (fun s => St.norm [(3, 12008), (3, 12103)] [0, 2, 3] [2, 3] s) (vc Tryd.prog (cPattern pk) code_42_1_1_0_0_0) (blockK 0 (thenK (fun s => cutV (vc Tryd.prog (cPattern pk) code_42_1_1_1 (endK Tryd.prog (Array.toList (Go.Func.results Tryd.f42)) Q)) (St.norm [(3, 12008), (3, 12103)] [0, 2, 3] [2, 3] s)) (endK Tryd.prog (Array.toList (Go.Func.results Tryd.f42)) Q))) (St.mk 40 [(0, AVal.ptr (Oid.out 0) 0), (2, AVal.ptr (Oid.loc 2) 0), (3, AVal.ptr (Oid.loc 3) 0)] [] [(2, AObj.cells [AVal.slice [] 0 Tag.nil, AVal.slice [] 0 Tag.nil]), (3, AObj.cells [AVal.slice [] 8 (Tag.own 0), AVal.slice [] 3 (Tag.own 1)])] (Sto.pushOwn (Sto.pushOwn (Sto.one (AObj.cells [AVal.slice (strv l) 1 Tag.ro])) 0) 0))) : XCall Tryd.prog 42 [.ptr (.out 0) 0] (Sto.one (.cells [.slice (strv l) 1 .ro])) pk Q :=
  XCall.intro hmix Tryd.func42 (c := code_42_) (by kernel_rfl) (cPattern pk) ho (Nat.le_of_ble_eq_true (by kernel_rfl)) (Eq.mpr (by kernel_rfl) h)
noncomputable def patternL_S (cur : List Txt) (ns : List Nd) (ls : List Lk) : St := St.mk 40 [(0, .ptr (.out 0) 0), (2, .ptr (.loc 2) 0), (3, .ptr (.loc 3) 0)] [] [(2, .cells [.slice [] 0 .nil, .slice [] 0 .nil]), (3, .cells [.slice (ndv ns) 8 (.own 0), .slice (lkv ls) 3 (.own 1)])] (Sto.pushOwn (Sto.pushOwn (Sto.one (.cells [.slice (strv cur) 1 .ro])) (ndv ns).length) (lkv ls).length)
noncomputable abbrev patternL_C : Code := code_42_1_1_0_0_0
theorem patternL_r (pk : Prop) (cur : List Txt) (ns : List Nd) (ls : List Lk) (L : St → Prop) (K : Exit → St → Prop) : vc Tryd.prog (cPattern pk) code_42_1_1_0_0_0 (thenK (fun s => L (St.norm [(3, 12008), (3, 12103)] [0, 2, 3] [2, 3] s)) K) (St.mk 40 [(0, .ptr (.out 0) 0), (2, .ptr (.loc 2) 0), (3, .ptr (.loc 3) 0)] [] [(2, .cells [.slice [] 0 .nil, .slice [] 0 .nil]), (3, .cells [.slice (ndv ns) 8 (.own 0), .slice (lkv ls) 3 (.own 1)])] (Sto.pushOwn (Sto.pushOwn (Sto.one (.cells [.slice (strv cur) 1 .ro])) (ndv ns).length) (lkv ls).length)) =
  (gb (okR (strv cur) 1) (brV (hold (decide (List.head? (List.map AVal.strOf (strv cur)) = some [(40 : UInt8)]))) true (∀ (y : Rd (List UInt8)), y = rWord (List.map AVal.strOf (strv cur)) → gb (okR (strv cur) 1) (brV (Option.isNone y) true pk (∀ (y_1 : Rd Nd), y_1 = rNode (List.map AVal.strOf (strv (Prod.snd (Option.getD y ([], []))))) → gb (okR (strv (Prod.snd (Option.getD y ([], [])))) 1) (brV (Option.isNone y_1) true (pk ∧ gb (decide (decide (true = true ∧ some (List.length (ndv ns)) = some (List.length (ndv ns)) ∧ (List.length (ndv ns) + 1) * 96 ≤ 140737488355328 ∧ List.length (ndv ns) + 1 ≤ 9223372036854775807) = true ∧ true = true)) True) (gb (decide (decide (true = true ∧ some (List.length (ndv ns)) = some (List.length (ndv ns)) ∧ (List.length (ndv ns) + 1) * 96 ≤ 140737488355328 ∧ List.length (ndv ns) + 1 ≤ 9223372036854775807) = true ∧ true = true)) (∀ (y_2 : Rd Unit), y_2 = rMust [(41 : UInt8)] (List.map AVal.strOf (strv (Prod.snd (Option.getD y_1 (Nd.mk [] [] (Vl.mk (0 : Int) (0 : Int) []) (Vl.mk (0 : Int) (0 : Int) []), []))))) → gb (okR (strv (Prod.snd (Option.getD y_1 (Nd.mk [] [] (Vl.mk (0 : Int) (0 : Int) []) (Vl.mk (0 : Int) (0 : Int) []), [])))) 1) (brV (Option.isNone y_2) true pk (L (St.mk 40 [(0, AVal.ptr (Oid.out 0) 0), (2, AVal.ptr (Oid.loc 2) 0), (3, AVal.ptr (Oid.loc 3) 0)] [] [(2, AObj.cells [AVal.slice [] 0 Tag.nil, AVal.slice [] 0 Tag.nil]), (3, AObj.cells [AVal.slice (ndv ns ++ [AVal.agg [AVal.str (Nd.label (Prod.fst (Option.getD y_1 (Nd.mk [] [] (Vl.mk (0 : Int) (0 : Int) []) (Vl.mk (0 : Int) (0 : Int) []), [])))), AVal.str (Nd.key (Prod.fst (Option.getD y_1 (Nd.mk [] [] (Vl.mk (0 : Int) (0 : Int) []) (Vl.mk (0 : Int) (0 : Int) []), [])))), AVal.int IntKind.i64 (Vl.k (Nd.lo (Prod.fst (Option.getD y_1 (Nd.mk [] [] (Vl.mk (0 : Int) (0 : Int) []) (Vl.mk (0 : Int) (0 : Int) []), []))))), AVal.int IntKind.i64 (Vl.n (Nd.lo (Prod.fst (Option.getD y_1 (Nd.mk [] [] (Vl.mk (0 : Int) (0 : Int) []) (Vl.mk (0 : Int) (0 : Int) []), []))))), AVal.str (Vl.s (Nd.lo (Prod.fst (Option.getD y_1 (Nd.mk [] [] (Vl.mk (0 : Int) (0 : Int) []) (Vl.mk (0 : Int) (0 : Int) []), []))))), AVal.int IntKind.i64 (Vl.k (Nd.hi (Prod.fst (Option.getD y_1 (Nd.mk [] [] (Vl.mk (0 : Int) (0 : Int) []) (Vl.mk (0 : Int) (0 : Int) []), []))))), AVal.int IntKind.i64 (Vl.n (Nd.hi (Prod.fst (Option.getD y_1 (Nd.mk [] [] (Vl.mk (0 : Int) (0 : Int) []) (Vl.mk (0 : Int) (0 : Int) []), []))))), AVal.str (Vl.s (Nd.hi (Prod.fst (Option.getD y_1 (Nd.mk [] [] (Vl.mk (0 : Int) (0 : Int) []) (Vl.mk (0 : Int) (0 : Int) []), [])))))]]) 8 (Tag.own 0), AVal.slice (lkv ls) 3 (Tag.own 1)])] (Sto.set (Sto.setOwn (Sto.set (Sto.set (Sto.pushOwn (Sto.pushOwn (Sto.one (AObj.cells [AVal.slice (strv cur) 1 Tag.ro])) (List.length (ndv ns))) (List.length (lkv ls))) 0 (AObj.cells [AVal.slice (strv (Prod.snd (Option.getD y ([], [])))) 1 Tag.ro])) 0 (AObj.cells [AVal.slice (strv (Prod.snd (Option.getD y_1 (Nd.mk [] [] (Vl.mk (0 : Int) (0 : Int) []) (Vl.mk (0 : Int) (0 : Int) []), [])))) 1 Tag.ro])) 0 (List.length (ndv ns) + 1)) 0 (AObj.cells [AVal.slice (strv (Prod.snd (Option.getD y_2 (PUnit.unit, [])))) 1 Tag.ro]))))))))))) (K (Exit.exit 0) (St.mk 40 [(0, AVal.ptr (Oid.out 0) 0), (2, AVal.ptr (Oid.loc 2) 0), (3, AVal.ptr (Oid.loc 3) 0), (6, AVal.bool (hold (decide (List.head? (List.map AVal.strOf (strv cur)) = some [(40 : UInt8)]))))] [] [(2, AObj.cells [AVal.slice [] 0 Tag.nil, AVal.slice [] 0 Tag.nil]), (3, AObj.cells [AVal.slice (ndv ns) 8 (Tag.own 0), AVal.slice (lkv ls) 3 (Tag.own 1)])] (Sto.pushOwn (Sto.pushOwn (Sto.one (AObj.cells [AVal.slice (strv cur) 1 Tag.ro])) (List.length (ndv ns))) (List.length (lkv ls))))))) := by kernel_rfl
noncomputable def patternM_S (cur : List Txt) (ns : List Nd) (ls : List Lk) : St := St.mk 40 [(0, .ptr (.out 0) 0), (2, .ptr (.loc 2) 0), (3, .ptr (.loc 3) 0)] [] [(2, .cells [.slice [] 0 .nil, .slice [] 0 .nil]), (3, .cells [.slice (ndv ns) 8 (.own 0), .slice (lkv ls) 3 (.own 1)])] (Sto.pushOwn (Sto.pushOwn (Sto.one (.cells [.slice (strv cur) 1 .ro])) (ndv ns).length) (lkv ls).length)
noncomputable abbrev patternM_C : Code := code_42_1_1_1
theorem patternM_r (pk : Prop) (cur : List Txt) (ns : List Nd) (ls : List Lk) (Q : AVal → Sto → Prop) : vc Tryd.prog (cPattern pk) code_42_1_1_1 (endK Tryd.prog Tryd.f42.results.toList Q) (St.mk 40 [(0, .ptr (.out 0) 0), (2, .ptr (.loc 2) 0), (3, .ptr (.loc 3) 0)] [] [(2, .cells [.slice [] 0 .nil, .slice [] 0 .nil]), (3, .cells [.slice (ndv ns) 8 (.own 0), .slice (lkv ls) 3 (.own 1)])] (Sto.pushOwn (Sto.pushOwn (Sto.one (.cells [.slice (strv cur) 1 .ro])) (ndv ns).length) (lkv ls).length)) =
  (loopV (fun s => St.norm [(3, 12008), (3, 12103)] [0, 2, 3] [2, 3] s) (vc Tryd.prog (cPattern pk) code_42_1_1_1_0_0_0) (blockK 2 (thenK (fun s => cutV (vc Tryd.prog (cPattern pk) code_42_1_1_1_1 (endK Tryd.prog (Array.toList (Go.Func.results Tryd.f42)) Q)) (St.norm [(3, 12008), (3, 12103)] [2, 3] [2, 3] s)) (endK Tryd.prog (Array.toList (Go.Func.results Tryd.f42)) Q))) (St.mk 40 [(0, AVal.ptr (Oid.out 0) 0), (2, AVal.ptr (Oid.loc 2) 0), (3, AVal.ptr (Oid.loc 3) 0)] [] [(2, AObj.cells [AVal.slice [] 0 Tag.nil, AVal.slice [] 0 Tag.nil]), (3, AObj.cells [AVal.slice (ndv ns) 8 (Tag.own 0), AVal.slice (lkv ls) 3 (Tag.own 1)])] (Sto.pushOwn (Sto.pushOwn (Sto.one (AObj.cells [AVal.slice (strv cur) 1 Tag.ro])) (List.length (ndv ns))) (List.length (lkv ls))))) := by kernel_rfl
noncomputable def patternK_S (cur : List Txt) (ns : List Nd) (ls : List Lk) : St := St.mk 40 [(0, .ptr (.out 0) 0), (2, .ptr (.loc 2) 0), (3, .ptr (.loc 3) 0)] [] [(2, .cells [.slice [] 0 .nil, .slice [] 0 .nil]), (3, .cells [.slice (ndv ns) 8 (.own 0), .slice (lkv ls) 3 (.own 1)])] (Sto.pushOwn (Sto.pushOwn (Sto.one (.cells [.slice (strv cur) 1 .ro])) (ndv ns).length) (lkv ls).length)
noncomputable abbrev patternK_C : Code := code_42_1_1_1_0_0_0
theorem patternK_r (pk : Prop) (cur : List Txt) (ns : List Nd) (ls : List Lk) (L : St → Prop) (K : Exit → St → Prop) : vc Tryd.prog (cPattern pk) code_42_1_1_1_0_0_0 (thenK (fun s => L (St.norm [(3, 12008), (3, 12103)] [0, 2, 3] [2, 3] s)) K) (St.mk 40 [(0, .ptr (.out 0) 0), (2, .ptr (.loc 2) 0), (3, .ptr (.loc 3) 0)] [] [(2, .cells [.slice [] 0 .nil, .slice [] 0 .nil]), (3, .cells [.slice (ndv ns) 8 (.own 0), .slice (lkv ls) 3 (.own 1)])] (Sto.pushOwn (Sto.pushOwn (Sto.one (.cells [.slice (strv cur) 1 .ro])) (ndv ns).length) (lkv ls).length)) =
  (gb (okR (strv cur) 1) (brV (hold (decide (List.head? (List.map AVal.strOf (strv cur)) = some [(123 : UInt8)]))) true (∀ (y : Rd (List UInt8)), y = rWord (List.map AVal.strOf (strv cur)) → gb (okR (strv cur) 1) (brV (Option.isNone y) true pk (∀ (y_1 : Rd Int), y_1 = rNumber (List.map AVal.strOf (strv (Prod.snd (Option.getD y ([], []))))) → gb (okR (strv (Prod.snd (Option.getD y ([], [])))) 1) (brV (Option.isNone y_1) true pk (∀ (y_2 : Rd (List UInt8)), y_2 = rLabel (List.map AVal.strOf (strv (Prod.snd (Option.getD y_1 ((0 : Int), []))))) → gb (okR (strv (Prod.snd (Option.getD y_1 ((0 : Int), [])))) 1) (brV (Option.isNone y_2) true pk (∀ (y_3 : Rd Int), y_3 = rNumber (List.map AVal.strOf (strv (Prod.snd (Option.getD y_2 ([], []))))) → gb (okR (strv (Prod.snd (Option.getD y_2 ([], [])))) 1) (brV (Option.isNone y_3) true pk (gb (decide (decide (true = true ∧ some (List.length (lkv ls)) = some (List.length (lkv ls)) ∧ (List.length (lkv ls) + 1) * 32 ≤ 140737488355328 ∧ List.length (lkv ls) + 1 ≤ 9223372036854775807) = true ∧ true = true)) (∀ (y_4 : Rd Unit), y_4 = rMust [(125 : UInt8)] (List.map AVal.strOf (strv (Prod.snd (Option.getD y_3 ((0 : Int), []))))) → gb (okR (strv (Prod.snd (Option.getD y_3 ((0 : Int), [])))) 1) (brV (Option.isNone y_4) true pk (L (St.mk 40 [(0, AVal.ptr (Oid.out 0) 0), (2, AVal.ptr (Oid.loc 2) 0), (3, AVal.ptr (Oid.loc 3) 0)] [] [(2, AObj.cells [AVal.slice [] 0 Tag.nil, AVal.slice [] 0 Tag.nil]), (3, AObj.cells [AVal.slice (ndv ns) 8 (Tag.own 0), AVal.slice (lkv ls ++ [AVal.agg [AVal.int IntKind.i64 (Prod.fst (Option.getD y_1 ((0 : Int), []))), AVal.int IntKind.i64 (Prod.fst (Option.getD y_3 ((0 : Int), []))), AVal.str (Prod.fst (Option.getD y_2 ([], [])))]]) 3 (Tag.own 1)])] (Sto.set (Sto.setOwn (Sto.set (Sto.set (Sto.set (Sto.set (Sto.pushOwn (Sto.pushOwn (Sto.one (AObj.cells [AVal.slice (strv cur) 1 Tag.ro])) (List.length (ndv ns))) (List.length (lkv ls))) 0 (AObj.cells [AVal.slice (strv (Prod.snd (Option.getD y ([], [])))) 1 Tag.ro])) 0 (AObj.cells [AVal.slice (strv (Prod.snd (Option.getD y_1 ((0 : Int), [])))) 1 Tag.ro])) 0 (AObj.cells [AVal.slice (strv (Prod.snd (Option.getD y_2 ([], [])))) 1 Tag.ro])) 0 (AObj.cells [AVal.slice (strv (Prod.snd (Option.getD y_3 ((0 : Int), [])))) 1 Tag.ro])) 1 (List.length (lkv ls) + 1)) 0 (AObj.cells [AVal.slice (strv (Prod.snd (Option.getD y_4 (PUnit.unit, [])))) 1 Tag.ro]))))))))))))))) (K (Exit.exit 2) (St.mk 40 [(0, AVal.ptr (Oid.out 0) 0), (2, AVal.ptr (Oid.loc 2) 0), (3, AVal.ptr (Oid.loc 3) 0), (19, AVal.bool (hold (decide (List.head? (List.map AVal.strOf (strv cur)) = some [(123 : UInt8)]))))] [] [(2, AObj.cells [AVal.slice [] 0 Tag.nil, AVal.slice [] 0 Tag.nil]), (3, AObj.cells [AVal.slice (ndv ns) 8 (Tag.own 0), AVal.slice (lkv ls) 3 (Tag.own 1)])] (Sto.pushOwn (Sto.pushOwn (Sto.one (AObj.cells [AVal.slice (strv cur) 1 Tag.ro])) (List.length (ndv ns))) (List.length (lkv ls))))))) := by kernel_rfl
noncomputable def patternF_S (cur : List Txt) (ns : List Nd) (ls : List Lk) : St := St.mk 40 [(2, .ptr (.loc 2) 0), (3, .ptr (.loc 3) 0)] [] [(2, .cells [.slice [] 0 .nil, .slice [] 0 .nil]), (3, .cells [.slice (ndv ns) 8 (.own 0), .slice (lkv ls) 3 (.own 1)])] (Sto.pushOwn (Sto.pushOwn (Sto.one (.cells [.slice (strv cur) 1 .ro])) (ndv ns).length) (lkv ls).length)
noncomputable abbrev patternF_C : Code := code_42_1_1_1_1
theorem patternF_r (pk : Prop) (cur : List Txt) (ns : List Nd) (ls : List Lk) (Q : AVal → Sto → Prop) : vc Tryd.prog (cPattern pk) code_42_1_1_1_1 (endK Tryd.prog Tryd.f42.results.toList Q) (St.mk 40 [(2, .ptr (.loc 2) 0), (3, .ptr (.loc 3) 0)] [] [(2, .cells [.slice [] 0 .nil, .slice [] 0 .nil]), (3, .cells [.slice (ndv ns) 8 (.own 0), .slice (lkv ls) 3 (.own 1)])] (Sto.pushOwn (Sto.pushOwn (Sto.one (.cells [.slice (strv cur) 1 .ro])) (ndv ns).length) (lkv ls).length)) =
  (Q (AVal.agg [AVal.slice (ndv ns) 8 (Tag.own 0), AVal.slice (lkv ls) 3 (Tag.own 1)]) (Sto.pushOwn (Sto.pushOwn (Sto.one (AObj.cells [AVal.slice (strv cur) 1 Tag.ro])) (List.length (ndv ns))) (List.length (lkv ls)))) := by kernel_rfl
theorem op_i (pk : Prop) (l : List Txt) (w : Txt) (Q : AVal → Sto → Prop) (ho : OrcOk Tryd.prog (cOp pk)) (h : brV (hold (w == [(118 : UInt8), (101 : UInt8), (114 : UInt8), (116 : UInt8), (101 : UInt8), (120 : UInt8)])) true (∀ (y : Rd Int), y = rNumber (List.map AVal.strOf (strv l)) → gb (okR (strv l) 1) (brV (Option.isNone y) true pk (∀ (y_1 : Rd (List UInt8)), y_1 = rName (List.map AVal.strOf (strv (Prod.snd (Option.getD y ((0 : Int), []))))) → gb (okR (strv (Prod.snd (Option.getD y ((0 : Int), [])))) 1) (brV (Option.isNone y_1) true pk (∀ (y_2 : Rd (List Pr)), y_2 = rProps (List.map AVal.strOf (strv (Prod.snd (Option.getD y_1 ([], []))))) → gb (okR (strv (Prod.snd (Option.getD y_1 ([], [])))) 1) (brV (Option.isNone y_2) true pk (Q (AVal.agg [AVal.int IntKind.i64 (1 : Int), AVal.bool false, AVal.bool false, AVal.int IntKind.i64 (Prod.fst (Option.getD y ((0 : Int), []))), AVal.int IntKind.i64 (0 : Int), AVal.int IntKind.i64 (0 : Int), AVal.int IntKind.i64 (0 : Int), AVal.int IntKind.i64 (0 : Int), AVal.str (Prod.fst (Option.getD y_1 ([], []))), AVal.str [], AVal.slice (prv (Prod.fst (Option.getD y_2 ([], [])))) 4 Tag.ro, AVal.slice [] 0 Tag.nil, AVal.int IntKind.i64 (0 : Int), AVal.int IntKind.i64 (0 : Int), AVal.str [], AVal.int IntKind.i64 (0 : Int), AVal.int IntKind.i64 (0 : Int), AVal.str [], AVal.slice [] 0 Tag.nil, AVal.slice [] 0 Tag.nil]) (Sto.set (Sto.set (Sto.set (Sto.one (AObj.cells [AVal.slice (strv l) 1 Tag.ro])) 0 (AObj.cells [AVal.slice (strv (Prod.snd (Option.getD y ((0 : Int), [])))) 1 Tag.ro])) 0 (AObj.cells [AVal.slice (strv (Prod.snd (Option.getD y_1 ([], [])))) 1 Tag.ro])) 0 (AObj.cells [AVal.slice (strv (Prod.snd (Option.getD y_2 ([], [])))) 1 Tag.ro]))))))))) (brV (hold (w == [(101 : UInt8), (100 : UInt8), (103 : UInt8), (101 : UInt8)])) true (∀ (y : Rd Int), y = rNumber (List.map AVal.strOf (strv l)) → gb (okR (strv l) 1) (brV (Option.isNone y) true pk (∀ (y_1 : Rd (List UInt8)), y_1 = rName (List.map AVal.strOf (strv (Prod.snd (Option.getD y ((0 : Int), []))))) → gb (okR (strv (Prod.snd (Option.getD y ((0 : Int), [])))) 1) (brV (Option.isNone y_1) true pk (∀ (y_2 : Rd Int), y_2 = rNumber (List.map AVal.strOf (strv (Prod.snd (Option.getD y_1 ([], []))))) → gb (okR (strv (Prod.snd (Option.getD y_1 ([], [])))) 1) (brV (Option.isNone y_2) true pk (∀ (y_3 : Rd Int), y_3 = rNumber (List.map AVal.strOf (strv (Prod.snd (Option.getD y_2 ((0 : Int), []))))) → gb (okR (strv (Prod.snd (Option.getD y_2 ((0 : Int), [])))) 1) (brV (Option.isNone y_3) true pk (∀ (y_4 : Rd (List Pr)), y_4 = rProps (List.map AVal.strOf (strv (Prod.snd (Option.getD y_3 ((0 : Int), []))))) → gb (okR (strv (Prod.snd (Option.getD y_3 ((0 : Int), [])))) 1) (brV (Option.isNone y_4) true pk (Q (AVal.agg [AVal.int IntKind.i64 (2 : Int), AVal.bool false, AVal.bool false, AVal.int IntKind.i64 (Prod.fst (Option.getD y ((0 : Int), []))), AVal.int IntKind.i64 (Prod.fst (Option.getD y_2 ((0 : Int), []))), AVal.int IntKind.i64 (Prod.fst (Option.getD y_3 ((0 : Int), []))), AVal.int IntKind.i64 (0 : Int), AVal.int IntKind.i64 (0 : Int), AVal.str (Prod.fst (Option.getD y_1 ([], []))), AVal.str [], AVal.slice (prv (Prod.fst (Option.getD y_4 ([], [])))) 4 Tag.ro, AVal.slice [] 0 Tag.nil, AVal.int IntKind.i64 (0 : Int), AVal.int IntKind.i64 (0 : Int), AVal.str [], AVal.int IntKind.i64 (0 : Int), AVal.int IntKind.i64 (0 : Int), AVal.str [], AVal.slice [] 0 Tag.nil, AVal.slice [] 0 Tag.nil]) (Sto.set (Sto.set (Sto.set (Sto.set (Sto.set (Sto.one (AObj.cells [AVal.slice (strv l) 1 Tag.ro])) 0 (AObj.cells [AVal.slice (strv (Prod.snd (Option.getD y ((0 : Int), [])))) 1 Tag.ro])) 0 (AObj.cells [AVal.slice (strv (Prod.snd (Option.getD y_1 ([], [])))) 1 Tag.ro])) 0 (AObj.cells [AVal.slice (strv (Prod.snd (Option.getD y_2 ((0 : Int), [])))) 1 Tag.ro])) 0 (AObj.cells [AVal.slice (strv (Prod.snd (Option.getD y_3 ((0 : Int), [])))) 1 Tag.ro])) 0 (AObj.cells [AVal.slice (strv (Prod.snd (Option.getD y_4 ([], [])))) 1 Tag.ro]))))))))))))) (brV (hold (w == [(115 : UInt8), (101 : UInt8), (116 : UInt8)])) true (∀ (y : Rd Bool), y = rEdge (List.map AVal.strOf (strv l)) → gb (okR (strv l) 1) (brV (Option.isNone y) true pk (∀ (y_1 : Rd Int), y_1 = rNumber (List.map AVal.strOf (strv (Prod.snd (Option.getD y (false, []))))) → gb (okR (strv (Prod.snd (Option.getD y (false, [])))) 1) (brV (Option.isNone y_1) true pk (∀ (y_2 : Rd (List Pr)), y_2 = rProps (List.map AVal.strOf (strv (Prod.snd (Option.getD y_1 ((0 : Int), []))))) → gb (okR (strv (Prod.snd (Option.getD y_1 ((0 : Int), [])))) 1) (brV (Option.isNone y_2) true pk (Q (AVal.agg [AVal.int IntKind.i64 (3 : Int), AVal.bool (hold (Prod.fst (Option.getD y (false, [])))), AVal.bool false, AVal.int IntKind.i64 (Prod.fst (Option.getD y_1 ((0 : Int), []))), AVal.int IntKind.i64 (0 : Int), AVal.int IntKind.i64 (0 : Int), AVal.int IntKind.i64 (0 : Int), AVal.int IntKind.i64 (0 : Int), AVal.str [], AVal.str [], AVal.slice (prv (Prod.fst (Option.getD y_2 ([], [])))) 4 Tag.ro, AVal.slice [] 0 Tag.nil, AVal.int IntKind.i64 (0 : Int), AVal.int IntKind.i64 (0 : Int), AVal.str [], AVal.int IntKind.i64 (0 : Int), AVal.int IntKind.i64 (0 : Int), AVal.str [], AVal.slice [] 0 Tag.nil, AVal.slice [] 0 Tag.nil]) (Sto.set (Sto.set (Sto.set (Sto.one (AObj.cells [AVal.slice (strv l) 1 Tag.ro])) 0 (AObj.cells [AVal.slice (strv (Prod.snd (Option.getD y (false, [])))) 1 Tag.ro])) 0 (AObj.cells [AVal.slice (strv (Prod.snd (Option.getD y_1 ((0 : Int), [])))) 1 Tag.ro])) 0 (AObj.cells [AVal.slice (strv (Prod.snd (Option.getD y_2 ([], [])))) 1 Tag.ro]))))))))) (brV (hold (w == [(117 : UInt8), (110 : UInt8), (115 : UInt8), (101 : UInt8), (116 : UInt8)])) true (∀ (y : Rd Bool), y = rEdge (List.map AVal.strOf (strv l)) → gb (okR (strv l) 1) (brV (Option.isNone y) true pk (∀ (y_1 : Rd Int), y_1 = rNumber (List.map AVal.strOf (strv (Prod.snd (Option.getD y (false, []))))) → gb (okR (strv (Prod.snd (Option.getD y (false, [])))) 1) (brV (Option.isNone y_1) true pk (loopV (fun s => St.norm [(5, 13101)] [0, 4, 5] [4, 5] s) (vc Tryd.prog (cOp pk) code_17_1_1_0_1_0_1_1_1_1_1_1_1_0_1_0_0) (blockK 1 (blockK 0 (thenK (vc Tryd.prog (cOp pk) code_17_1_1_1 (endK Tryd.prog (Array.toList (Go.Func.results Tryd.f17)) Q)) (endK Tryd.prog (Array.toList (Go.Func.results Tryd.f17)) Q)))) (St.mk 120 [(0, AVal.ptr (Oid.out 0) 0), (4, AVal.ptr (Oid.loc 4) 0), (5, AVal.ptr (Oid.loc 5) 0)] [] [(4, AObj.cells [AVal.int IntKind.i64 (0 : Int), AVal.bool false, AVal.bool false, AVal.int IntKind.i64 (0 : Int), AVal.int IntKind.i64 (0 : Int), AVal.int IntKind.i64 (0 : Int), AVal.int IntKind.i64 (0 : Int), AVal.int IntKind.i64 (0 : Int), AVal.str [], AVal.str [], AVal.slice [] 0 Tag.nil, AVal.slice [] 0 Tag.nil, AVal.int IntKind.i64 (0 : Int), AVal.int IntKind.i64 (0 : Int), AVal.str [], AVal.int IntKind.i64 (0 : Int), AVal.int IntKind.i64 (0 : Int), AVal.str [], AVal.slice [] 0 Tag.nil, AVal.slice [] 0 Tag.nil]), (5, AObj.cells [AVal.int IntKind.i64 (4 : Int), AVal.bool (hold (Prod.fst (Option.getD y (false, [])))), AVal.bool false, AVal.int IntKind.i64 (Prod.fst (Option.getD y_1 ((0 : Int), []))), AVal.int IntKind.i64 (0 : Int), AVal.int IntKind.i64 (0 : Int), AVal.int IntKind.i64 (0 : Int), AVal.int IntKind.i64 (0 : Int), AVal.str [], AVal.str [], AVal.slice [] 0 Tag.nil, AVal.slice [] 1 (Tag.own 0), AVal.int IntKind.i64 (0 : Int), AVal.int IntKind.i64 (0 : Int), AVal.str [], AVal.int IntKind.i64 (0 : Int), AVal.int IntKind.i64 (0 : Int), AVal.str [], AVal.slice [] 0 Tag.nil, AVal.slice [] 0 Tag.nil])] (Sto.pushOwn (Sto.set (Sto.set (Sto.one (AObj.cells [AVal.slice (strv l) 1 Tag.ro])) 0 (AObj.cells [AVal.slice (strv (Prod.snd (Option.getD y (false, [])))) 1 Tag.ro])) 0 (AObj.cells [AVal.slice (strv (Prod.snd (Option.getD y_1 ((0 : Int), [])))) 1 Tag.ro])) 0))))))) (brV (hold (w == [(100 : UInt8), (114 : UInt8), (111 : UInt8), (112 : UInt8)])) true (∀ (y : Rd Bool), y = rEdge (List.map AVal.strOf (strv l)) → gb (okR (strv l) 1) (brV (Option.isNone y) true pk (∀ (y_1 : Rd Int), y_1 = rNumber (List.map AVal.strOf (strv (Prod.snd (Option.getD y (false, []))))) → gb (okR (strv (Prod.snd (Option.getD y (false, [])))) 1) (brV (Option.isNone y_1) true pk (Q (AVal.agg [AVal.int IntKind.i64 (5 : Int), AVal.bool (hold (Prod.fst (Option.getD y (false, [])))), AVal.bool false, AVal.int IntKind.i64 (Prod.fst (Option.getD y_1 ((0 : Int), []))), AVal.int IntKind.i64 (0 : Int), AVal.int IntKind.i64 (0 : Int), AVal.int IntKind.i64 (0 : Int), AVal.int IntKind.i64 (0 : Int), AVal.str [], AVal.str [], AVal.slice [] 0 Tag.nil, AVal.slice [] 0 Tag.nil, AVal.int IntKind.i64 (0 : Int), AVal.int IntKind.i64 (0 : Int), AVal.str [], AVal.int IntKind.i64 (0 : Int), AVal.int IntKind.i64 (0 : Int), AVal.str [], AVal.slice [] 0 Tag.nil, AVal.slice [] 0 Tag.nil]) (Sto.set (Sto.set (Sto.one (AObj.cells [AVal.slice (strv l) 1 Tag.ro])) 0 (AObj.cells [AVal.slice (strv (Prod.snd (Option.getD y (false, [])))) 1 Tag.ro])) 0 (AObj.cells [AVal.slice (strv (Prod.snd (Option.getD y_1 ((0 : Int), [])))) 1 Tag.ro]))))))) (brV (hold (w == [(103 : UInt8), (101 : UInt8), (116 : UInt8)])) true (∀ (y : Rd Bool), y = rEdge (List.map AVal.strOf (strv l)) → gb (okR (strv l) 1) (brV (Option.isNone y) true pk (∀ (y_1 : Rd Int), y_1 = rNumber (List.map AVal.strOf (strv (Prod.snd (Option.getD y (false, []))))) → gb (okR (strv (Prod.snd (Option.getD y (false, [])))) 1) (brV (Option.isNone y_1) true pk (Q (AVal.agg [AVal.int IntKind.i64 (6 : Int), AVal.bool (hold (Prod.fst (Option.getD y (false, [])))), AVal.bool false, AVal.int IntKind.i64 (Prod.fst (Option.getD y_1 ((0 : Int), []))), AVal.int IntKind.i64 (0 : Int), AVal.int IntKind.i64 (0 : Int), AVal.int IntKind.i64 (0 : Int), AVal.int IntKind.i64 (0 : Int), AVal.str [], AVal.str [], AVal.slice [] 0 Tag.nil, AVal.slice [] 0 Tag.nil, AVal.int IntKind.i64 (0 : Int), AVal.int IntKind.i64 (0 : Int), AVal.str [], AVal.int IntKind.i64 (0 : Int), AVal.int IntKind.i64 (0 : Int), AVal.str [], AVal.slice [] 0 Tag.nil, AVal.slice [] 0 Tag.nil]) (Sto.set (Sto.set (Sto.one (AObj.cells [AVal.slice (strv l) 1 Tag.ro])) 0 (AObj.cells [AVal.slice (strv (Prod.snd (Option.getD y (false, [])))) 1 Tag.ro])) 0 (AObj.cells [AVal.slice (strv (Prod.snd (Option.getD y_1 ((0 : Int), [])))) 1 Tag.ro]))))))) (brV (hold (w == [(110 : UInt8), (101 : UInt8), (120 : UInt8), (116 : UInt8)])) true (brV (hold (w == [(110 : UInt8), (101 : UInt8), (120 : UInt8), (116 : UInt8)])) true (∀ (y : Rd Int), y = rNumber (List.map AVal.strOf (strv l)) → gb (okR (strv l) 1) (brV (Option.isNone y) true pk (∀ (y_1 : Rd (List UInt8)), y_1 = rLabel (List.map AVal.strOf (strv (Prod.snd (Option.getD y ((0 : Int), []))))) → gb (okR (strv (Prod.snd (Option.getD y ((0 : Int), [])))) 1) (brV (Option.isNone y_1) true pk (Q (AVal.agg [AVal.int IntKind.i64 (7 : Int), AVal.bool false, AVal.bool (hold (w == [(110 : UInt8), (101 : UInt8), (120 : UInt8), (116 : UInt8)])), AVal.int IntKind.i64 (Prod.fst (Option.getD y ((0 : Int), []))), AVal.int IntKind.i64 (0 : Int), AVal.int IntKind.i64 (0 : Int), AVal.int IntKind.i64 (0 : Int), AVal.int IntKind.i64 (0 : Int), AVal.str (Prod.fst (Option.getD y_1 ([], []))), AVal.str [], AVal.slice [] 0 Tag.nil, AVal.slice [] 0 Tag.nil, AVal.int IntKind.i64 (0 : Int), AVal.int IntKind.i64 (0 : Int), AVal.str [], AVal.int IntKind.i64 (0 : Int), AVal.int IntKind.i64 (0 : Int), AVal.str [], AVal.slice [] 0 Tag.nil, AVal.slice [] 0 Tag.nil]) (Sto.set (Sto.set (Sto.one (AObj.cells [AVal.slice (strv l) 1 Tag.ro])) 0 (AObj.cells [AVal.slice (strv (Prod.snd (Option.getD y ((0 : Int), [])))) 1 Tag.ro])) 0 (AObj.cells [AVal.slice (strv (Prod.snd (Option.getD y_1 ([], [])))) 1 Tag.ro]))))))) (brV (hold (w == [(102 : UInt8), (105 : UInt8), (110 : UInt8), (100 : UInt8)])) true (∀ (y : Rd Nd), y = rNode (List.map AVal.strOf (strv l)) → gb (okR (strv l) 1) (brV (Option.isNone y) true pk (Q (AVal.agg [AVal.int IntKind.i64 (8 : Int), AVal.bool false, AVal.bool false, AVal.int IntKind.i64 (0 : Int), AVal.int IntKind.i64 (0 : Int), AVal.int IntKind.i64 (0 : Int), AVal.int IntKind.i64 (0 : Int), AVal.int IntKind.i64 (0 : Int), AVal.str (Nd.label (Prod.fst (Option.getD y (Nd.mk [] [] (Vl.mk (0 : Int) (0 : Int) []) (Vl.mk (0 : Int) (0 : Int) []), [])))), AVal.str (Nd.key (Prod.fst (Option.getD y (Nd.mk [] [] (Vl.mk (0 : Int) (0 : Int) []) (Vl.mk (0 : Int) (0 : Int) []), [])))), AVal.slice [] 0 Tag.nil, AVal.slice [] 0 Tag.nil, AVal.int IntKind.i64 (Vl.k (Nd.lo (Prod.fst (Option.getD y (Nd.mk [] [] (Vl.mk (0 : Int) (0 : Int) []) (Vl.mk (0 : Int) (0 : Int) []), []))))), AVal.int IntKind.i64 (Vl.n (Nd.lo (Prod.fst (Option.getD y (Nd.mk [] [] (Vl.mk (0 : Int) (0 : Int) []) (Vl.mk (0 : Int) (0 : Int) []), []))))), AVal.str (Vl.s (Nd.lo (Prod.fst (Option.getD y (Nd.mk [] [] (Vl.mk (0 : Int) (0 : Int) []) (Vl.mk (0 : Int) (0 : Int) []), []))))), AVal.int IntKind.i64 (Vl.k (Nd.hi (Prod.fst (Option.getD y (Nd.mk [] [] (Vl.mk (0 : Int) (0 : Int) []) (Vl.mk (0 : Int) (0 : Int) []), []))))), AVal.int IntKind.i64 (Vl.n (Nd.hi (Prod.fst (Option.getD y (Nd.mk [] [] (Vl.mk (0 : Int) (0 : Int) []) (Vl.mk (0 : Int) (0 : Int) []), []))))), AVal.str (Vl.s (Nd.hi (Prod.fst (Option.getD y (Nd.mk [] [] (Vl.mk (0 : Int) (0 : Int) []) (Vl.mk (0 : Int) (0 : Int) []), []))))), AVal.slice [] 0 Tag.nil, AVal.slice [] 0 Tag.nil]) (Sto.set (Sto.one (AObj.cells [AVal.slice (strv l) 1 Tag.ro])) 0 (AObj.cells [AVal.slice (strv (Prod.snd (Option.getD y (Nd.mk [] [] (Vl.mk (0 : Int) (0 : Int) []) (Vl.mk (0 : Int) (0 : Int) []), [])))) 1 Tag.ro]))))) (brV (hold (w == [(109 : UInt8), (97 : UInt8), (116 : UInt8), (99 : UInt8), (104 : UInt8)])) true (∀ (y : Rd Int), y = rNumber (List.map AVal.strOf (strv l)) → gb (okR (strv l) 1) (brV (Option.isNone y) true pk (∀ (y_1 : Rd (List Nd × List Lk)), y_1 = rPattern (List.map AVal.strOf (strv (Prod.snd (Option.getD y ((0 : Int), []))))) → gb (okR (strv (Prod.snd (Option.getD y ((0 : Int), [])))) 1) (brV (Option.isNone y_1) true pk (Q (AVal.agg [AVal.int IntKind.i64 (9 : Int), AVal.bool false, AVal.bool false, AVal.int IntKind.i64 (0 : Int), AVal.int IntKind.i64 (0 : Int), AVal.int IntKind.i64 (0 : Int), AVal.int IntKind.i64 (Prod.fst (Option.getD y ((0 : Int), []))), AVal.int IntKind.i64 (0 : Int), AVal.str [], AVal.str [], AVal.slice [] 0 Tag.nil, AVal.slice [] 0 Tag.nil, AVal.int IntKind.i64 (0 : Int), AVal.int IntKind.i64 (0 : Int), AVal.str [], AVal.int IntKind.i64 (0 : Int), AVal.int IntKind.i64 (0 : Int), AVal.str [], AVal.slice (ndv (Prod.fst (Prod.fst (Option.getD y_1 (([], []), []))))) 8 Tag.ro, AVal.slice (lkv (Prod.snd (Prod.fst (Option.getD y_1 (([], []), []))))) 3 Tag.ro]) (Sto.set (Sto.set (Sto.one (AObj.cells [AVal.slice (strv l) 1 Tag.ro])) 0 (AObj.cells [AVal.slice (strv (Prod.snd (Option.getD y ((0 : Int), [])))) 1 Tag.ro])) 0 (AObj.cells [AVal.slice (strv (Prod.snd (Option.getD y_1 (([], []), [])))) 1 Tag.ro]))))))) (brV (hold (w == [(112 : UInt8), (97 : UInt8), (116 : UInt8), (104 : UInt8)])) true (∀ (y : Rd Int), y = rNumber (List.map AVal.strOf (strv l)) → gb (okR (strv l) 1) (brV (Option.isNone y) true pk (∀ (y_1 : Rd Int), y_1 = rNumber (List.map AVal.strOf (strv (Prod.snd (Option.getD y ((0 : Int), []))))) → gb (okR (strv (Prod.snd (Option.getD y ((0 : Int), [])))) 1) (brV (Option.isNone y_1) true pk (∀ (y_2 : Rd (List UInt8)), y_2 = rLabel (List.map AVal.strOf (strv (Prod.snd (Option.getD y_1 ((0 : Int), []))))) → gb (okR (strv (Prod.snd (Option.getD y_1 ((0 : Int), [])))) 1) (brV (Option.isNone y_2) true pk (∀ (y_3 : Rd Int), y_3 = rNumber (List.map AVal.strOf (strv (Prod.snd (Option.getD y_2 ([], []))))) → gb (okR (strv (Prod.snd (Option.getD y_2 ([], [])))) 1) (brV (Option.isNone y_3) true pk (Q (AVal.agg [AVal.int IntKind.i64 (10 : Int), AVal.bool false, AVal.bool false, AVal.int IntKind.i64 (0 : Int), AVal.int IntKind.i64 (Prod.fst (Option.getD y ((0 : Int), []))), AVal.int IntKind.i64 (Prod.fst (Option.getD y_1 ((0 : Int), []))), AVal.int IntKind.i64 (Prod.fst (Option.getD y_3 ((0 : Int), []))), AVal.int IntKind.i64 (0 : Int), AVal.str (Prod.fst (Option.getD y_2 ([], []))), AVal.str [], AVal.slice [] 0 Tag.nil, AVal.slice [] 0 Tag.nil, AVal.int IntKind.i64 (0 : Int), AVal.int IntKind.i64 (0 : Int), AVal.str [], AVal.int IntKind.i64 (0 : Int), AVal.int IntKind.i64 (0 : Int), AVal.str [], AVal.slice [] 0 Tag.nil, AVal.slice [] 0 Tag.nil]) (Sto.set (Sto.set (Sto.set (Sto.set (Sto.one (AObj.cells [AVal.slice (strv l) 1 Tag.ro])) 0 (AObj.cells [AVal.slice (strv (Prod.snd (Option.getD y ((0 : Int), [])))) 1 Tag.ro])) 0 (AObj.cells [AVal.slice (strv (Prod.snd (Option.getD y_1 ((0 : Int), [])))) 1 Tag.ro])) 0 (AObj.cells [AVal.slice (strv (Prod.snd (Option.getD y_2 ([], [])))) 1 Tag.ro])) 0 (AObj.cells [AVal.slice (strv (Prod.snd (Option.getD y_3 ((0 : Int), [])))) 1 Tag.ro]))))))))))) pk)))) (brV (hold (w == [(98 : UInt8), (97 : UInt8), (99 : UInt8), (107 : UInt8)])) true (∀ (y : Rd Int), y = rNumber (List.map AVal.strOf (strv l)) → gb (okR (strv l) 1) (brV (Option.isNone y) true pk (∀ (y_1 : Rd (List UInt8)), y_1 = rLabel (List.map AVal.strOf (strv (Prod.snd (Option.getD y ((0 : Int), []))))) → gb (okR (strv (Prod.snd (Option.getD y ((0 : Int), [])))) 1) (brV (Option.isNone y_1) true pk (Q (AVal.agg [AVal.int IntKind.i64 (7 : Int), AVal.bool false, AVal.bool (hold (w == [(110 : UInt8), (101 : UInt8), (120 : UInt8), (116 : UInt8)])), AVal.int IntKind.i64 (Prod.fst (Option.getD y ((0 : Int), []))), AVal.int IntKind.i64 (0 : Int), AVal.int IntKind.i64 (0 : Int), AVal.int IntKind.i64 (0 : Int), AVal.int IntKind.i64 (0 : Int), AVal.str (Prod.fst (Option.getD y_1 ([], []))), AVal.str [], AVal.slice [] 0 Tag.nil, AVal.slice [] 0 Tag.nil, AVal.int IntKind.i64 (0 : Int), AVal.int IntKind.i64 (0 : Int), AVal.str [], AVal.int IntKind.i64 (0 : Int), AVal.int IntKind.i64 (0 : Int), AVal.str [], AVal.slice [] 0 Tag.nil, AVal.slice [] 0 Tag.nil]) (Sto.set (Sto.set (Sto.one (AObj.cells [AVal.slice (strv l) 1 Tag.ro])) 0 (AObj.cells [AVal.slice (strv (Prod.snd (Option.getD y ((0 : Int), [])))) 1 Tag.ro])) 0 (AObj.cells [AVal.slice (strv (Prod.snd (Option.getD y_1 ([], [])))) 1 Tag.ro]))))))) (brV (hold (w == [(102 : UInt8), (105 : UInt8), (110 : UInt8), (100 : UInt8)])) true (∀ (y : Rd Nd), y = rNode (List.map AVal.strOf (strv l)) → gb (okR (strv l) 1) (brV (Option.isNone y) true pk (Q (AVal.agg [AVal.int IntKind.i64 (8 : Int), AVal.bool false, AVal.bool false, AVal.int IntKind.i64 (0 : Int), AVal.int IntKind.i64 (0 : Int), AVal.int IntKind.i64 (0 : Int), AVal.int IntKind.i64 (0 : Int), AVal.int IntKind.i64 (0 : Int), AVal.str (Nd.label (Prod.fst (Option.getD y (Nd.mk [] [] (Vl.mk (0 : Int) (0 : Int) []) (Vl.mk (0 : Int) (0 : Int) []), [])))), AVal.str (Nd.key (Prod.fst (Option.getD y (Nd.mk [] [] (Vl.mk (0 : Int) (0 : Int) []) (Vl.mk (0 : Int) (0 : Int) []), [])))), AVal.slice [] 0 Tag.nil, AVal.slice [] 0 Tag.nil, AVal.int IntKind.i64 (Vl.k (Nd.lo (Prod.fst (Option.getD y (Nd.mk [] [] (Vl.mk (0 : Int) (0 : Int) []) (Vl.mk (0 : Int) (0 : Int) []), []))))), AVal.int IntKind.i64 (Vl.n (Nd.lo (Prod.fst (Option.getD y (Nd.mk [] [] (Vl.mk (0 : Int) (0 : Int) []) (Vl.mk (0 : Int) (0 : Int) []), []))))), AVal.str (Vl.s (Nd.lo (Prod.fst (Option.getD y (Nd.mk [] [] (Vl.mk (0 : Int) (0 : Int) []) (Vl.mk (0 : Int) (0 : Int) []), []))))), AVal.int IntKind.i64 (Vl.k (Nd.hi (Prod.fst (Option.getD y (Nd.mk [] [] (Vl.mk (0 : Int) (0 : Int) []) (Vl.mk (0 : Int) (0 : Int) []), []))))), AVal.int IntKind.i64 (Vl.n (Nd.hi (Prod.fst (Option.getD y (Nd.mk [] [] (Vl.mk (0 : Int) (0 : Int) []) (Vl.mk (0 : Int) (0 : Int) []), []))))), AVal.str (Vl.s (Nd.hi (Prod.fst (Option.getD y (Nd.mk [] [] (Vl.mk (0 : Int) (0 : Int) []) (Vl.mk (0 : Int) (0 : Int) []), []))))), AVal.slice [] 0 Tag.nil, AVal.slice [] 0 Tag.nil]) (Sto.set (Sto.one (AObj.cells [AVal.slice (strv l) 1 Tag.ro])) 0 (AObj.cells [AVal.slice (strv (Prod.snd (Option.getD y (Nd.mk [] [] (Vl.mk (0 : Int) (0 : Int) []) (Vl.mk (0 : Int) (0 : Int) []), [])))) 1 Tag.ro]))))) (brV (hold (w == [(109 : UInt8), (97 : UInt8), (116 : UInt8), (99 : UInt8), (104 : UInt8)])) true (∀ (y : Rd Int), y = rNumber (List.map AVal.strOf (strv l)) → gb (okR (strv l) 1) (brV (Option.isNone y) true pk (∀ (y_1 : Rd (List Nd × List Lk)), y_1 = rPattern (List.map AVal.strOf (strv (Prod.snd (Option.getD y ((0 : Int), []))))) → gb (okR (strv (Prod.snd (Option.getD y ((0 : Int), [])))) 1) (brV (Option.isNone y_1) true pk (Q (AVal.agg [AVal.int IntKind.i64 (9 : Int), AVal.bool false, AVal.bool false, AVal.int IntKind.i64 (0 : Int), AVal.int IntKind.i64 (0 : Int), AVal.int IntKind.i64 (0 : Int), AVal.int IntKind.i64 (Prod.fst (Option.getD y ((0 : Int), []))), AVal.int IntKind.i64 (0 : Int), AVal.str [], AVal.str [], AVal.slice [] 0 Tag.nil, AVal.slice [] 0 Tag.nil, AVal.int IntKind.i64 (0 : Int), AVal.int IntKind.i64 (0 : Int), AVal.str [], AVal.int IntKind.i64 (0 : Int), AVal.int IntKind.i64 (0 : Int), AVal.str [], AVal.slice (ndv (Prod.fst (Prod.fst (Option.getD y_1 (([], []), []))))) 8 Tag.ro, AVal.slice (lkv (Prod.snd (Prod.fst (Option.getD y_1 (([], []), []))))) 3 Tag.ro]) (Sto.set (Sto.set (Sto.one (AObj.cells [AVal.slice (strv l) 1 Tag.ro])) 0 (AObj.cells [AVal.slice (strv (Prod.snd (Option.getD y ((0 : Int), [])))) 1 Tag.ro])) 0 (AObj.cells [AVal.slice (strv (Prod.snd (Option.getD y_1 (([], []), [])))) 1 Tag.ro]))))))) (brV (hold (w == [(112 : UInt8), (97 : UInt8), (116 : UInt8), (104 : UInt8)])) true (∀ (y : Rd Int), y = rNumber (List.map AVal.strOf (strv l)) → gb (okR (strv l) 1) (brV (Option.isNone y) true pk (∀ (y_1 : Rd Int), y_1 = rNumber (List.map AVal.strOf (strv (Prod.snd (Option.getD y ((0 : Int), []))))) → gb (okR (strv (Prod.snd (Option.getD y ((0 : Int), [])))) 1) (brV (Option.isNone y_1) true pk (∀ (y_2 : Rd (List UInt8)), y_2 = rLabel (List.map AVal.strOf (strv (Prod.snd (Option.getD y_1 ((0 : Int), []))))) → gb (okR (strv (Prod.snd (Option.getD y_1 ((0 : Int), [])))) 1) (brV (Option.isNone y_2) true pk (∀ (y_3 : Rd Int), y_3 = rNumber (List.map AVal.strOf (strv (Prod.snd (Option.getD y_2 ([], []))))) → gb (okR (strv (Prod.snd (Option.getD y_2 ([], [])))) 1) (brV (Option.isNone y_3) true pk (Q (AVal.agg [AVal.int IntKind.i64 (10 : Int), AVal.bool false, AVal.bool false, AVal.int IntKind.i64 (0 : Int), AVal.int IntKind.i64 (Prod.fst (Option.getD y ((0 : Int), []))), AVal.int IntKind.i64 (Prod.fst (Option.getD y_1 ((0 : Int), []))), AVal.int IntKind.i64 (Prod.fst (Option.getD y_3 ((0 : Int), []))), AVal.int IntKind.i64 (0 : Int), AVal.str (Prod.fst (Option.getD y_2 ([], []))), AVal.str [], AVal.slice [] 0 Tag.nil, AVal.slice [] 0 Tag.nil, AVal.int IntKind.i64 (0 : Int), AVal.int IntKind.i64 (0 : Int), AVal.str [], AVal.int IntKind.i64 (0 : Int), AVal.int IntKind.i64 (0 : Int), AVal.str [], AVal.slice [] 0 Tag.nil, AVal.slice [] 0 Tag.nil]) (Sto.set (Sto.set (Sto.set (Sto.set (Sto.one (AObj.cells [AVal.slice (strv l) 1 Tag.ro])) 0 (AObj.cells [AVal.slice (strv (Prod.snd (Option.getD y ((0 : Int), [])))) 1 Tag.ro])) 0 (AObj.cells [AVal.slice (strv (Prod.snd (Option.getD y_1 ((0 : Int), [])))) 1 Tag.ro])) 0 (AObj.cells [AVal.slice (strv (Prod.snd (Option.getD y_2 ([], [])))) 1 Tag.ro])) 0 (AObj.cells [AVal.slice (strv (Prod.snd (Option.getD y_3 ((0 : Int), [])))) 1 Tag.ro]))))))))))) pk))))))))))) : XCall Tryd.prog 17 [.ptr (.out 0) 0, .str w] (Sto.one (.cells [.slice (strv l) 1 .ro])) pk Q :=
  XCall.intro hmix Tryd.func17 (c := code_17_) (by kernel_rfl) (cOp pk) ho (Nat.le_of_ble_eq_true (by kernel_rfl)) (Eq.mpr (by kernel_rfl) h)
noncomputable def opL_S (cur : List Txt) (e : Bool) (id : Int) (ks : List Txt) : St := St.mk 120 [(0, .ptr (.out 0) 0), (4, .ptr (.loc 4) 0), (5, .ptr (.loc 5) 0)] [] [(4, .cells [.int .i64 0, .bool false, .bool false, .int .i64 0, .int .i64 0, .int .i64 0, .int .i64 0, .int .i64 0, .str [], .str [], .slice [] 0 .nil, .slice [] 0 .nil, .int .i64 0, .int .i64 0, .str [], .int .i64 0, .int .i64 0, .str [], .slice [] 0 .nil, .slice [] 0 .nil]), (5, .cells [.int .i64 4, .bool e, .bool false, .int .i64 id, .int .i64 0, .int .i64 0, .int .i64 0, .int .i64 0, .str [], .str [], .slice [] 0 .nil, .slice (strv ks) 1 (.own 0), .int .i64 0, .int .i64 0, .str [], .int .i64 0, .int .i64 0, .str [], .slice [] 0 .nil, .slice [] 0 .nil])] (Sto.pushOwn (Sto.one (.cells [.slice (strv cur) 1 .ro])) (strv ks).length)
noncomputable abbrev opL_C : Code := code_17_1_1_0_1_0_1_1_1_1_1_1_1_0_1_0_0
theorem opL_r (pk : Prop) (cur : List Txt) (e : Bool) (id : Int) (ks : List Txt) (L : St → Prop) (K : Exit → St → Prop) : vc Tryd.prog (cOp pk) code_17_1_1_0_1_0_1_1_1_1_1_1_1_0_1_0_0 (thenK (fun s => L (St.norm [(5, 13101)] [0, 4, 5] [4, 5] s)) K) (St.mk 120 [(0, .ptr (.out 0) 0), (4, .ptr (.loc 4) 0), (5, .ptr (.loc 5) 0)] [] [(4, .cells [.int .i64 0, .bool false, .bool false, .int .i64 0, .int .i64 0, .int .i64 0, .int .i64 0, .int .i64 0, .str [], .str [], .slice [] 0 .nil, .slice [] 0 .nil, .int .i64 0, .int .i64 0, .str [], .int .i64 0, .int .i64 0, .str [], .slice [] 0 .nil, .slice [] 0 .nil]), (5, .cells [.int .i64 4, .bool e, .bool false, .int .i64 id, .int .i64 0, .int .i64 0, .int .i64 0, .int .i64 0, .str [], .str [], .slice [] 0 .nil, .slice (strv ks) 1 (.own 0), .int .i64 0, .int .i64 0, .str [], .int .i64 0, .int .i64 0, .str [], .slice [] 0 .nil, .slice [] 0 .nil])] (Sto.pushOwn (Sto.one (.cells [.slice (strv cur) 1 .ro])) (strv ks).length)) =
  (brV (hold (decide ((0 : Int) < (↑(List.length (strv cur)) : Int)))) true (∀ (y : Rd (List UInt8)), y = rName (List.map AVal.strOf (strv cur)) → gb (okR (strv cur) 1) (brV (Option.isNone y) true (pk ∧ gb (decide (decide (true = true ∧ some (List.length (strv ks)) = some (List.length (strv ks)) ∧ (List.length (strv ks) + 1) * 16 ≤ 140737488355328 ∧ List.length (strv ks) + 1 ≤ 9223372036854775807) = true ∧ true = true)) True) (gb (decide (decide (true = true ∧ some (List.length (strv ks)) = some (List.length (strv ks)) ∧ (List.length (strv ks) + 1) * 16 ≤ 140737488355328 ∧ List.length (strv ks) + 1 ≤ 9223372036854775807) = true ∧ true = true)) (L (St.mk 120 [(0, AVal.ptr (Oid.out 0) 0), (4, AVal.ptr (Oid.loc 4) 0), (5, AVal.ptr (Oid.loc 5) 0)] [] [(4, AObj.cells [AVal.int IntKind.i64 (0 : Int), AVal.bool false, AVal.bool false, AVal.int IntKind.i64 (0 : Int), AVal.int IntKind.i64 (0 : Int), AVal.int IntKind.i64 (0 : Int), AVal.int IntKind.i64 (0 : Int), AVal.int IntKind.i64 (0 : Int), AVal.str [], AVal.str [], AVal.slice [] 0 Tag.nil, AVal.slice [] 0 Tag.nil, AVal.int IntKind.i64 (0 : Int), AVal.int IntKind.i64 (0 : Int), AVal.str [], AVal.int IntKind.i64 (0 : Int), AVal.int IntKind.i64 (0 : Int), AVal.str [], AVal.slice [] 0 Tag.nil, AVal.slice [] 0 Tag.nil]), (5, AObj.cells [AVal.int IntKind.i64 (4 : Int), AVal.bool e, AVal.bool false, AVal.int IntKind.i64 id, AVal.int IntKind.i64 (0 : Int), AVal.int IntKind.i64 (0 : Int), AVal.int IntKind.i64 (0 : Int), AVal.int IntKind.i64 (0 : Int), AVal.str [], AVal.str [], AVal.slice [] 0 Tag.nil, AVal.slice (strv ks ++ [AVal.str (Prod.fst (Option.getD y ([], [])))]) 1 (Tag.own 0), AVal.int IntKind.i64 (0 : Int), AVal.int IntKind.i64 (0 : Int), AVal.str [], AVal.int IntKind.i64 (0 : Int), AVal.int IntKind.i64 (0 : Int), AVal.str [], AVal.slice [] 0 Tag.nil, AVal.slice [] 0 Tag.nil])] (Sto.setOwn (Sto.set (Sto.pushOwn (Sto.one (AObj.cells [AVal.slice (strv cur) 1 Tag.ro])) (List.length (strv ks))) 0 (AObj.cells [AVal.slice (strv (Prod.snd (Option.getD y ([], [])))) 1 Tag.ro])) 0 (List.length (strv ks) + 1))))))) (K (Exit.exit 1) (St.mk 120 [(0, AVal.ptr (Oid.out 0) 0), (4, AVal.ptr (Oid.loc 4) 0), (5, AVal.ptr (Oid.loc 5) 0), (56, AVal.bool (hold (decide ((0 : Int) < (↑(List.length (strv cur)) : Int)))))] [] [(4, AObj.cells [AVal.int IntKind.i64 (0 : Int), AVal.bool false, AVal.bool false, AVal.int IntKind.i64 (0 : Int), AVal.int IntKind.i64 (0 : Int), AVal.int IntKind.i64 (0 : Int), AVal.int IntKind.i64 (0 : Int), AVal.int IntKind.i64 (0 : Int), AVal.str [], AVal.str [], AVal.slice [] 0 Tag.nil, AVal.slice [] 0 Tag.nil, AVal.int IntKind.i64 (0 : Int), AVal.int IntKind.i64 (0 : Int), AVal.str [], AVal.int IntKind.i64 (0 : Int), AVal.int IntKind.i64 (0 : Int), AVal.str [], AVal.slice [] 0 Tag.nil, AVal.slice [] 0 Tag.nil]), (5, AObj.cells [AVal.int IntKind.i64 (4 : Int), AVal.bool e, AVal.bool false, AVal.int IntKind.i64 id, AVal.int IntKind.i64 (0 : Int), AVal.int IntKind.i64 (0 : Int), AVal.int IntKind.i64 (0 : Int), AVal.int IntKind.i64 (0 : Int), AVal.str [], AVal.str [], AVal.slice [] 0 Tag.nil, AVal.slice (strv ks) 1 (Tag.own 0), AVal.int IntKind.i64 (0 : Int), AVal.int IntKind.i64 (0 : Int), AVal.str [], AVal.int IntKind.i64 (0 : Int), AVal.int IntKind.i64 (0 : Int), AVal.str [], AVal.slice [] 0 Tag.nil, AVal.slice [] 0 Tag.nil])] (Sto.pushOwn (Sto.one (AObj.cells [AVal.slice (strv cur) 1 Tag.ro])) (List.length (strv ks)))))) := by kernel_rfl
noncomputable def opF_S (cur : List Txt) (e : Bool) (id : Int) (ks : List Txt) (b : Bool) : St := St.mk 120 [(0, .ptr (.out 0) 0), (4, .ptr (.loc 4) 0), (5, .ptr (.loc 5) 0), (56, .bool b)] [] [(4, .cells [.int .i64 0, .bool false, .bool false, .int .i64 0, .int .i64 0, .int .i64 0, .int .i64 0, .int .i64 0, .str [], .str [], .slice [] 0 .nil, .slice [] 0 .nil, .int .i64 0, .int .i64 0, .str [], .int .i64 0, .int .i64 0, .str [], .slice [] 0 .nil, .slice [] 0 .nil]), (5, .cells [.int .i64 4, .bool e, .bool false, .int .i64 id, .int .i64 0, .int .i64 0, .int .i64 0, .int .i64 0, .str [], .str [], .slice [] 0 .nil, .slice (strv ks) 1 (.own 0), .int .i64 0, .int .i64 0, .str [], .int .i64 0, .int .i64 0, .str [], .slice [] 0 .nil, .slice [] 0 .nil])] (Sto.pushOwn (Sto.one (.cells [.slice (strv cur) 1 .ro])) (strv ks).length)
noncomputable abbrev opF_C : Code := code_17_1_1_1
theorem opF_r (pk : Prop) (cur : List Txt) (e : Bool) (id : Int) (ks : List Txt) (b : Bool) (Q : AVal → Sto → Prop) : vc Tryd.prog (cOp pk) code_17_1_1_1 (endK Tryd.prog Tryd.f17.results.toList Q) (St.mk 120 [(0, .ptr (.out 0) 0), (4, .ptr (.loc 4) 0), (5, .ptr (.loc 5) 0), (56, .bool b)] [] [(4, .cells [.int .i64 0, .bool false, .bool false, .int .i64 0, .int .i64 0, .int .i64 0, .int .i64 0, .int .i64 0, .str [], .str [], .slice [] 0 .nil, .slice [] 0 .nil, .int .i64 0, .int .i64 0, .str [], .int .i64 0, .int .i64 0, .str [], .slice [] 0 .nil, .slice [] 0 .nil]), (5, .cells [.int .i64 4, .bool e, .bool false, .int .i64 id, .int .i64 0, .int .i64 0, .int .i64 0, .int .i64 0, .str [], .str [], .slice [] 0 .nil, .slice (strv ks) 1 (.own 0), .int .i64 0, .int .i64 0, .str [], .int .i64 0, .int .i64 0, .str [], .slice [] 0 .nil, .slice [] 0 .nil])] (Sto.pushOwn (Sto.one (.cells [.slice (strv cur) 1 .ro])) (strv ks).length)) =
  (Q (AVal.agg [AVal.int IntKind.i64 (4 : Int), AVal.bool e, AVal.bool false, AVal.int IntKind.i64 id, AVal.int IntKind.i64 (0 : Int), AVal.int IntKind.i64 (0 : Int), AVal.int IntKind.i64 (0 : Int), AVal.int IntKind.i64 (0 : Int), AVal.str [], AVal.str [], AVal.slice [] 0 Tag.nil, AVal.slice (strv ks) 1 (Tag.own 0), AVal.int IntKind.i64 (0 : Int), AVal.int IntKind.i64 (0 : Int), AVal.str [], AVal.int IntKind.i64 (0 : Int), AVal.int IntKind.i64 (0 : Int), AVal.str [], AVal.slice [] 0 Tag.nil, AVal.slice [] 0 Tag.nil]) (Sto.pushOwn (Sto.one (AObj.cells [AVal.slice (strv cur) 1 Tag.ro])) (List.length (strv ks)))) := by kernel_rfl
end Go.Proofs.YtcijjgfadkflmaaDoor
end

section
namespace Go.AL
theorem oneSet (a b : AObj) : (Sto.one a).set 0 b = Sto.one b := by
  simp only [Sto.set, Sto.one, Sto.mk.injEq, true_and, and_true]
  funext n; split <;> simp_all
theorem pushSet (σ : Sto) (n o : Nat) (b : AObj) : (σ.pushOwn n).set o b = (σ.set o b).pushOwn n := rfl
theorem one_own1 (b : AObj) (n m : Nat) : ((Sto.one b).pushOwn n).setOwn 0 m = (Sto.one b).pushOwn m := by
  simp only [Sto.setOwn, Sto.pushOwn, Sto.one, Sto.mk.injEq, true_and]
  funext q; split <;> simp_all
theorem one_own2 (b : AObj) (n k m : Nat) : (((Sto.one b).pushOwn n).pushOwn k).setOwn 0 m = ((Sto.one b).pushOwn m).pushOwn k := by
  simp only [Sto.setOwn, Sto.pushOwn, Sto.one, Sto.mk.injEq, true_and]
  funext q
  by_cases h0 : q = 0
  · subst h0; simp
  · simp [h0]
theorem one_own2' (b : AObj) (n k m : Nat) : (((Sto.one b).pushOwn n).pushOwn k).setOwn 1 m = ((Sto.one b).pushOwn n).pushOwn m := by
  simp only [Sto.setOwn, Sto.pushOwn, Sto.one, Sto.mk.injEq, true_and]
  funext q
  by_cases h0 : q = 1
  · subst h0; simp
  · simp [h0]
theorem prv_snoc (acc : List Pr) (p : Pr) : prv acc ++ [AVal.agg [.str p.key, .int .i64 p.v.k, .int .i64 p.v.n, .str p.v.s]] = prv (acc ++ [p]) := by simp [prv, Pr.a]
theorem prv_len (acc : List Pr) : (prv acc).length = acc.length := by simp [prv]
theorem ndv_snoc (acc : List Nd) (p : Nd) : ndv acc ++ [AVal.agg [.str p.label, .str p.key, .int .i64 p.lo.k, .int .i64 p.lo.n, .str p.lo.s, .int .i64 p.hi.k, .int .i64 p.hi.n, .str p.hi.s]] = ndv (acc ++ [p]) := by simp [ndv, Nd.a]
theorem ndv_len (acc : List Nd) : (ndv acc).length = acc.length := by simp [ndv]
theorem lkv_snoc (acc : List Lk) (p : Lk) : lkv acc ++ [AVal.agg [.int .i64 p.fr, .int .i64 p.tw, .str p.label]] = lkv (acc ++ [p]) := by simp [lkv, Lk.a]
theorem lkv_len (acc : List Lk) : (lkv acc).length = acc.length := by simp [lkv]
theorem strv_snoc (acc : List Txt) (p : Txt) : strv acc ++ [AVal.str p] = strv (acc ++ [p]) := by simp [strv]
theorem prv_noOut (n : Nat) (l : List Pr) : noOutL n (prv l) = true := noOutL_map n (fun _ => rfl) l
theorem prv_noTok (n : Nat) (l : List Pr) : noTokL n (prv l) = true := noTokL_map n (fun _ => rfl) l
theorem ndv_noOut (n : Nat) (l : List Nd) : noOutL n (ndv l) = true := noOutL_map n (fun _ => rfl) l
theorem ndv_noTok (n : Nat) (l : List Nd) : noTokL n (ndv l) = true := noTokL_map n (fun _ => rfl) l
theorem lkv_noOut (n : Nat) (l : List Lk) : noOutL n (lkv l) = true := noOutL_map n (fun _ => rfl) l
theorem lkv_noTok (n : Nat) (l : List Lk) : noTokL n (lkv l) = true := noTokL_map n (fun _ => rfl) l
end Go.AL
namespace Go.Proofs.YtcijjgfadkflmaaDoor
open Go.AL
set_option linter.unusedSimpArgs false
set_option linter.unusedVariables false
set_option maxHeartbeats 1000000
set_option maxRecDepth 20000
theorem map_snoc {α : Type} {R A B : Rd (List α)} {acc : List α} {p : α} (h1 : R = A.map fun y => (acc ++ y.1, y.2)) (h2 : A = B.map fun x => (p :: x.1, x.2)) : R = B.map fun y => ((acc ++ [p]) ++ y.1, y.2) := by
  rw [h1, h2, Option.map_map]
  congr 1
  funext x
  simp
theorem peekStepN {l : List Txt} (hl : okL l) (w : Txt) {A B : Prop} (h1 : l.head? = some w → B) (h2 : ¬ l.head? = some w → A) :
    gb (okR (strv l) 1) (brV (!hold (decide (List.head? (List.map AVal.strOf (strv l)) = some w))) true A B) := by
  refine gb_by (okR_mk hl) ?_
  rw [hold_eq, map_strOf_strv]
  exact brV_by (fun h => h2 (nd_of h)) (fun h => h1 (dn_of h))
theorem props_c : RdC 38 (fun l => .slice (prv l) 4 .ro) [] rProps := by
  intro l hl
  refine props_i _ l _ (.of [wordE, peekE, nameE, mustE, valueE] rfl ⟨word_ok, peek_ok, name_ok, must_ok, value_ok, trivial⟩) ?_
  refine peekStepN hl wL (fun h => ?_) (fun h => ?_)
  rotate_left
  · exact ⟨[], l, by simp only [rProps]; rw [if_neg h], Wk.nil 0 4 .nil, _, rfl, .refl _⟩
  refine rdStep hl rWord (fun h2 => (word_none h h2).elim) (fun x t h2 => ?_)
  obtain ⟨rfl, rfl⟩ := word_head h h2
  simp only [Option.getD_some, oneSet]
  have hl1 := hl.suf (tail_cut h).1
  have e0 : rProps l = rPropsF l.length l.tail := by simp only [rProps]; rw [if_pos h]
  rw [e0]
  refine loopV_intro (α := Nat × List Txt × List Pr) (fun x => propsL_S x.2.1 x.2.2) (fun x => okL x.2.1 ∧ x.2.1.length < x.1 ∧ x.2.2.length + x.2.1.length ≤ 1000000 ∧ rPropsF l.length l.tail = (rPropsF x.1 x.2.1).map fun y => (x.2.2 ++ y.1, y.2)) (fun x => x.1) ?_ (l.length, l.tail, []) ⟨hl1, (tail_cut h).2, by have := hl1.1; simpa using this, by simp⟩
  rintro ⟨f, cur, acc⟩ ⟨hc, hf, hn, he⟩ L hL
  simp only at hc hf hn he ⊢
  obtain ⟨g, rfl⟩ : ∃ g, f = g + 1 := ⟨f - 1, by omega⟩
  rw [he]
  refine Eq.mpr (propsL_r _ cur acc L _) ?_
  refine peekStepN hc wR (fun hh => ?_) (fun hh => ?_)
  · have e1 : rPropsF (g + 1) cur = some ([], cur.tail) := by rw [rPropsF, if_pos hh]
    refine leaveK (Lt.thenN (toCut ?_))
    refine Eq.mpr (propsF_r _ cur acc _) ?_
    refine rdStep hc rWord (fun h2 => (word_none hh h2).elim) (fun x t h2 => ?_)
    obtain ⟨rfl, rfl⟩ := word_head hh h2
    exact ⟨acc, cur.tail, by rw [e1]; simp, Wk.ro _ _ _, _, rfl, .refl _⟩
  · have e1 : rPropsF (g + 1) cur = match rProp cur with
      | none => none
      | some (p, l) => (rPropsF g l).map fun x => (p :: x.1, x.2) := by rw [rPropsF, if_neg hh]; rfl
    rw [e1]
    refine rdStep hc rName (fun h3 => ?_) (fun k t1 h3 => ?_)
    · simp [rProp, h3]
    have c1 := rName_cut _ _ _ h3
    have hc1 := hc.suf c1.1
    simp only [Option.getD_some]
    refine rdStep hc1 (rMust wE) (fun h4 => ?_) (fun u t2 h4 => ?_)
    · simp [rProp, h3, h4]
    have c2 := rMust_cut _ _ _ _ h4
    have hc2 := hc1.suf c2.1
    simp only [Option.getD_some]
    refine rdStep hc2 rValue (fun h5 => ?_) (fun v t3 h5 => ?_)
    · simp [rProp, h3, h4, h5]
    have c3 := rValue_cut _ _ _ h5
    have hc3 := hc2.suf c3.1
    have hp : rProp cur = some (⟨k, v⟩, t3) := by simp [rProp, h3, h4, h5]
    simp only [Option.getD_some, pushSet, oneSet, one_own1]
    refine gb_by ?_ ?_
    · rw [prv_len]; simp; omega
    rw [prv_snoc acc ⟨k, v⟩, show (prv acc).length + 1 = (prv (acc ++ [⟨k, v⟩])).length by simp [prv_len]]
    have e2 : rPropsF (g + 1) cur = (rPropsF g t3).map fun x => (⟨k, v⟩ :: x.1, x.2) := by rw [e1, hp]
    exact hL (g, t3, acc ++ [⟨k, v⟩]) ⟨hc3, show t3.length < g by omega, by simp only [List.length_append, List.length_singleton]; omega, map_snoc he e2⟩ (Nat.lt_succ_self g)
theorem props_ok : EntOk Tryd.prog propsE := rd_ok props_c (fun l => by simp only [AVal.noOut, prv_noOut]) (fun l => by simp only [AVal.noTok, prv_noTok, Tag.below, Bool.and_self])
theorem links_c (l : List Txt) (ho : OrcOk Tryd.prog (cPattern ((rPattern l).isNone = true))) (cur0 : List Txt) (ns : List Nd) (hc0 : okL cur0) (e0 : rPattern l = (rLinksF (cur0.length + 1) cur0).map fun z => ((ns, z.1), z.2)) :
    vc Tryd.prog (cPattern ((rPattern l).isNone = true)) patternM_C (endK Tryd.prog Tryd.f42.results.toList fun r τ => ∃ x t, rPattern l = some (x, t) ∧ Wk r (.agg [.slice (ndv x.1) 8 .ro, .slice (lkv x.2) 3 .ro]) ∧ ∃ y, τ.obj 0 = some (.cells y) ∧ WkL y [.slice (strv t) 1 .ro]) (patternM_S cur0 ns []) := by
  refine Eq.mpr (patternM_r _ cur0 ns [] _) ?_
  refine loopV_intro (α := Nat × List Txt × List Lk) (fun x => patternK_S x.2.1 ns x.2.2) (fun x => okL x.2.1 ∧ x.2.1.length < x.1 ∧ x.2.2.length + x.2.1.length ≤ 1000000 ∧ rPattern l = (rLinksF x.1 x.2.1).map fun z => ((ns, x.2.2 ++ z.1), z.2)) (fun x => x.1) ?_ (cur0.length + 1, cur0, []) ⟨hc0, Nat.lt_succ_self _, by have := hc0.1; simpa using this, by simpa using e0⟩
  rintro ⟨f, cur, ls⟩ ⟨hc, hf, hn, he⟩ L hL
  simp only at hc hf hn he ⊢
  obtain ⟨g, rfl⟩ : ∃ g, f = g + 1 := ⟨f - 1, by omega⟩
  refine Eq.mpr (patternK_r _ cur ns ls L _) ?_
  refine peekStep hc wL (fun hh => ?_) (fun hh => ?_)
  · have e1 : rLinksF (g + 1) cur = match rLink cur.tail with
      | none => none
      | some (n, l) => (rLinksF g l).map fun x => (n :: x.1, x.2) := by rw [rLinksF, if_pos hh]; rfl
    have bad : rLink cur.tail = none → (rPattern l).isNone = true := fun h => by rw [he, e1, h]; rfl
    refine rdStep hc rWord (fun h2 => (word_none hh h2).elim) (fun x t h2 => ?_)
    obtain ⟨rfl, rfl⟩ := word_head hh h2
    have c0 := tail_cut hh
    have hc1 := hc.suf c0.1
    simp only [Option.getD_some]
    refine rdStep hc1 rNumber (fun h3 => bad (by simp [rLink, h3])) (fun a t1 h3 => ?_)
    have c1 := rNumber_cut _ _ _ h3
    have hc2 := hc1.suf c1.1
    simp only [Option.getD_some]
    refine rdStep hc2 rLabel (fun h4 => bad (by simp [rLink, h3, h4])) (fun s t2 h4 => ?_)
    have c2 := rLabel_cut _ _ _ h4
    have hc3 := hc2.suf c2.1
    simp only [Option.getD_some]
    refine rdStep hc3 rNumber (fun h5 => bad (by simp [rLink, h3, h4, h5])) (fun b t3 h5 => ?_)
    have c3 := rNumber_cut _ _ _ h5
    have hc4 := hc3.suf c3.1
    refine gb_by (by simp only [decide_eq_true_eq, lkv_len, true_and, and_true]; omega) ?_
    simp only [Option.getD_some]
    refine rdStep hc4 (rMust wR) (fun h6 => bad (by simp [rLink, h3, h4, h5, h6])) (fun u t4 h6 => ?_)
    have c4 := rMust_cut _ _ _ _ h6
    have hc5 := hc4.suf c4.1
    have hp : rLink cur.tail = some (⟨a, b, s⟩, t4) := by simp [rLink, h3, h4, h5, h6]
    simp only [Option.getD_some, set_setOwn, pushSet, oneSet, one_own2']
    rw [lkv_snoc ls ⟨a, b, s⟩, show (lkv ls).length + 1 = (lkv (ls ++ [⟨a, b, s⟩])).length by simp [lkv_len]]
    have e2 : rLinksF (g + 1) cur = (rLinksF g t4).map fun x => (⟨a, b, s⟩ :: x.1, x.2) := by rw [e1, hp]
    exact hL (g, t4, ls ++ [⟨a, b, s⟩]) ⟨hc5, show t4.length < g by omega, by simp only [List.length_append, List.length_singleton]; omega, by
      rw [he, e2, Option.map_map]; congr 1; funext x; simp⟩ (Nat.lt_succ_self g)
  · have e1 : rLinksF (g + 1) cur = some ([], cur) := by rw [rLinksF, if_neg hh]
    refine leaveK (Lt.thenN (toCut ?_))
    refine Eq.mpr (patternF_r _ cur ns ls _) ?_
    exact ⟨(ns, ls), cur, by rw [he, e1]; simp, Wk.agg (.cons (Wk.ro _ _ _) (.cons (Wk.ro _ _ _) (.refl _))), _, rfl, .refl _⟩
theorem pattern_c : RdC 42 (fun x => .agg [.slice (ndv x.1) 8 .ro, .slice (lkv x.2) 3 .ro]) [] rPattern := by
  intro l hl
  have ho : OrcOk Tryd.prog (cPattern ((rPattern l).isNone = true)) := .of [wordE, peekE, mustE, nodeE, numberRE, labelE] rfl ⟨word_ok, peek_ok, must_ok, node_ok, numberR_ok, label_ok, trivial⟩
  refine pattern_i _ l _ ho ?_
  have e0 : rPattern l = (rNodesF (l.length + 1) l).bind fun x => (rLinksF (x.2.length + 1) x.2).map fun y => (([] ++ x.1, y.1), y.2) := by
    unfold rPattern
    cases hN : rNodesF (l.length + 1) l with
    | none => rfl
    | some x => rfl
  refine loopV_intro (α := Nat × List Txt × List Nd) (fun x => patternL_S x.2.1 x.2.2 []) (fun x => okL x.2.1 ∧ x.2.1.length < x.1 ∧ x.2.2.length + x.2.1.length ≤ 1000000 ∧ rPattern l = (rNodesF x.1 x.2.1).bind fun y => (rLinksF (y.2.length + 1) y.2).map fun z => ((x.2.2 ++ y.1, z.1), z.2)) (fun x => x.1) ?_ (l.length + 1, l, []) ⟨hl, Nat.lt_succ_self _, by have := hl.1; simpa using this, e0⟩
  rintro ⟨f, cur, ns⟩ ⟨hc, hf, hn, he⟩ L hL
  simp only at hc hf hn he ⊢
  obtain ⟨g, rfl⟩ : ∃ g, f = g + 1 := ⟨f - 1, by omega⟩
  refine Eq.mpr (patternL_r _ cur ns [] L _) ?_
  refine peekStep hc wO (fun hh => ?_) (fun hh => ?_)
  · have e1 : rNodesF (g + 1) cur = match rNode cur.tail with
      | none => none
      | some (n, l) => match rMust wC l with
        | none => none
        | some (_, l) => (rNodesF g l).map fun x => (n :: x.1, x.2) := by rw [rNodesF, if_pos hh]; rfl
    have bad : rNodesF (g + 1) cur = none → (rPattern l).isNone = true := fun h => by rw [he, h]; rfl
    refine rdStep hc rWord (fun h2 => (word_none hh h2).elim) (fun x t h2 => ?_)
    obtain ⟨rfl, rfl⟩ := word_head hh h2
    have c0 := tail_cut hh
    have hc1 := hc.suf c0.1
    simp only [Option.getD_some]
    refine rdStep hc1 rNode (fun h3 => ⟨bad (by rw [e1, h3]), gb_by (by simp only [decide_eq_true_eq, ndv_len, true_and, and_true]; omega) trivial⟩) (fun n t1 h3 => ?_)
    have c1 := rNode_cut _ _ _ h3
    have hc2 := hc1.suf c1.1
    refine gb_by (by simp only [decide_eq_true_eq, ndv_len, true_and, and_true]; omega) ?_
    simp only [Option.getD_some]
    refine rdStep hc2 (rMust wC) (fun h4 => bad (by rw [e1, h3]; simp [h4])) (fun u t2 h4 => ?_)
    have c2 := rMust_cut _ _ _ _ h4
    have hc3 := hc2.suf c2.1
    simp only [Option.getD_some, set_setOwn, pushSet, oneSet, one_own2]
    rw [ndv_snoc ns n, show (ndv ns).length + 1 = (ndv (ns ++ [n])).length by simp [ndv_len]]
    have e2 : rNodesF (g + 1) cur = (rNodesF g t2).map fun x => (n :: x.1, x.2) := by rw [e1, h3]; simp [h4]
    exact hL (g, t2, ns ++ [n]) ⟨hc3, show t2.length < g by omega, by simp only [List.length_append, List.length_singleton]; omega, by
      rw [he, e2]
      cases rNodesF g t2 with
      | none => rfl
      | some x => simp⟩ (Nat.lt_succ_self g)
  · have e1 : rNodesF (g + 1) cur = some ([], cur) := by rw [rNodesF, if_neg hh]
    exact leaveK (Lt.thenN (toCut (links_c l ho cur ns hc (by rw [he, e1]; simp))))
theorem pattern_ok : EntOk Tryd.prog patternE := rd_ok pattern_c (fun x => by simp only [AVal.noOut, noOutL, ndv_noOut, lkv_noOut, Bool.and_self]) (fun x => by simp only [AVal.noTok, noTokL, ndv_noTok, lkv_noTok, Tag.below, Bool.and_self])
end Go.Proofs.YtcijjgfadkflmaaDoor
end

section
namespace Go.Proofs.YtcijjgfadkflmaaDoor
open Go.AL
set_option linter.unusedSimpArgs false
set_option linter.unusedVariables false
set_option maxHeartbeats 1000000
set_option maxRecDepth 20000
theorem ls_no {α : Type} [DecidableEq α] {a b : List α} {i : Nat} (ha : i < a.length) (hb : i < b.length) (h : a[i] ≠ b[i]) : decide (a = b) = false := by
  rw [decide_eq_false_iff_not]
  intro e; subst e; exact h rfl
theorem ls_yes {α : Type} [DecidableEq α] {a b : List α} (hn : a.length = b.length) (h : ∀ j (ha : j < a.length) (hb : j < b.length), a[j] = b[j]) : decide (a = b) = true := by
  rw [decide_eq_true_eq]
  exact List.ext_getElem hn h
theorem elemAt_prv (l : List Pr) (i : Nat) (h : i < l.length) : elemAt (prv l) (i : Int) = [.str l[i].key, .int .i64 l[i].v.k, .int .i64 l[i].v.n, .str l[i].v.s] := elemAt_map Pr.a l i h
theorem elemAt_ndv (l : List Nd) (i : Nat) (h : i < l.length) : elemAt (ndv l) (i : Int) = [.str l[i].label, .str l[i].key, .int .i64 l[i].lo.k, .int .i64 l[i].lo.n, .str l[i].lo.s, .int .i64 l[i].hi.k, .int .i64 l[i].hi.n, .str l[i].hi.s] := elemAt_map Nd.a l i h
theorem elemAt_lkv (l : List Lk) (i : Nat) (h : i < l.length) : elemAt (lkv l) (i : Int) = [.int .i64 l[i].fr, .int .i64 l[i].tw, .str l[i].label] := elemAt_map Lk.a l i h
theorem wk_prv {s : Nat} {es : List AVal} (t : Tag) (hn : okW 4 s es = true) (h : es.all prIs = true) : Wk (.slice es s t) (.slice (prv (es.map prOf)) 4 .ro) := by
  rw [← prv_of h]
  exact wkW t hn
theorem wk_ndv {s : Nat} {es : List AVal} (t : Tag) (hn : okW 8 s es = true) (h : es.all ndIs = true) : Wk (.slice es s t) (.slice (ndv (es.map ndOf)) 8 .ro) := by
  rw [← ndv_of h]
  exact wkW t hn
theorem wk_lkv {s : Nat} {es : List AVal} (t : Tag) (hn : okW 3 s es = true) (h : es.all lkIs = true) : Wk (.slice es s t) (.slice (lkv (es.map lkOf)) 3 .ro) := by
  rw [← lkv_of h]
  exact wkW t hn
theorem eqP_c (a b : List Pr) (ha : a.length ≤ 1000000) (hb : b.length ≤ 1000000) : ACall Tryd.prog 26 [.slice (prv a) 4 .ro, .slice (prv b) 4 .ro] Sto.empty fun r _ => Wk r (.bool (decide (a = b))) := by
  refine eqP_i a b _ (.of_none rfl) ?_
  have h1 := prv_len a
  have h2 := prv_len b
  simp only [hold_eq]
  refine brV_by (fun h => ?_) (fun h => ?_)
  · have hne : a.length ≠ b.length := by
      have h : (((prv a).length : Int) != ((prv b).length : Int)) = true := h
      have : ¬ ((prv a).length : Int) = ((prv b).length : Int) := by simpa using h
      omega
    have : decide (a = b) = false := decide_eq_false fun e => hne (by rw [e])
    rw [this]; exact Wk.refl _
  have hn : a.length = b.length := by
    have h : (((prv a).length : Int) != ((prv b).length : Int)) = false := h
    have : ((prv a).length : Int) = ((prv b).length : Int) := by simpa using h
    omega
  refine loopV_intro (α := Nat) (fun i => eqPL_S a b (prv a).length i) (fun i => i ≤ a.length ∧ ∀ j (ha : j < a.length) (hb : j < b.length), j < i → a[j] = b[j]) (fun i => a.length - i) ?_ 0 ⟨Nat.zero_le _, fun j _ _ h => by omega⟩
  rintro i ⟨hi, hpre⟩ L hL
  refine Eq.mpr (eqPL_r a b (prv a).length i L _) ?_
  simp only [hold_eq]
  refine brV_by (fun h => ?_) (fun h => ?_)
  · have hlt : i < a.length := by have := of_decide_eq_true h; omega
    have hlb : i < b.length := by omega
    rw [i64_succ hlt (by omega), elemAt_prv a i hlt, elemAt_prv b i hlb]
    refine gb_by (dt (by omega)) (gb_by rfl (gb_by (dt (by omega)) (gb_by rfl ?_)))
    refine brV_by (fun h => ?_) (fun h => ?_)
    · have hne : a[i] ≠ b[i] := fun e => by rw [e] at h; simp at h
      rw [ls_no hlt hlb hne]; exact Wk.refl _
    · have he : a[i] = b[i] := by
        generalize a[i] = x at h
        generalize b[i] = y at h
        obtain ⟨x1, ⟨x2, x3, x4⟩⟩ := x
        obtain ⟨y1, ⟨y2, y3, y4⟩⟩ := y
        simpa [AVal.strOf, AVal.intOf, and_assoc] using h
      refine hL (i + 1) ⟨hlt, fun j hj hj' hji => ?_⟩ (by omega)
      rcases Nat.lt_or_ge j i with h9 | h9
      · exact hpre j hj hj' h9
      · obtain rfl : j = i := by omega
        exact he
  · have hge : i = a.length := by have := of_decide_eq_false h; omega
    rw [ls_yes hn (fun j h1 h2 => hpre j h1 h2 (by omega))]
    exact leaveTo (Wk.refl _)
theorem eqP_ok : EntOk Tryd.prog eqPE := by
  intro xs σ; simp only [eqPE]; split
  · rename_i a s t b s' t'
    intro hc
    simp only [Bool.and_eq_true] at hc
    obtain ⟨h1, h2, h3, g1, g2, g3⟩ := hc
    have h3 := lenL_of h3
    have g3 := lenL_of g3
    exact pcall_of (v := .bool _) (.cons (wk_prv t h1 h2) (.cons (wk_prv t' g1 g2) (.refl _))) (by rw [hold_eq]; exact eqP_c _ _ (by simpa using h3) (by simpa using g3)) (by simp only [noOutL, AVal.noOut, prv_noOut, Bool.and_true]) (by simp only [noTokL, AVal.noTok, prv_noTok, Bool.and_true, Tag.below]) rfl rfl
  · trivial
theorem eqS_c (a b : List Txt) (ha : a.length ≤ 1000000) (hb : b.length ≤ 1000000) : ACall Tryd.prog 27 [.slice (strv a) 1 .ro, .slice (strv b) 1 .ro] Sto.empty fun r _ => Wk r (.bool (decide (a = b))) := by
  refine eqS_i a b _ (.of_none rfl) ?_
  have h1 := strv_length a
  have h2 := strv_length b
  simp only [hold_eq]
  refine brV_by (fun h => ?_) (fun h => ?_)
  · have hne : a.length ≠ b.length := by
      have h : (((strv a).length : Int) != ((strv b).length : Int)) = true := h
      have : ¬ ((strv a).length : Int) = ((strv b).length : Int) := by simpa using h
      omega
    have : decide (a = b) = false := decide_eq_false fun e => hne (by rw [e])
    rw [this]; exact Wk.refl _
  have hn : a.length = b.length := by
    have h : (((strv a).length : Int) != ((strv b).length : Int)) = false := h
    have : ((strv a).length : Int) = ((strv b).length : Int) := by simpa using h
    omega
  refine loopV_intro (α := Nat) (fun i => eqSL_S a b (strv a).length i) (fun i => i ≤ a.length ∧ ∀ j (ha : j < a.length) (hb : j < b.length), j < i → a[j] = b[j]) (fun i => a.length - i) ?_ 0 ⟨Nat.zero_le _, fun j _ _ h => by omega⟩
  rintro i ⟨hi, hpre⟩ L hL
  refine Eq.mpr (eqSL_r a b (strv a).length i L _) ?_
  simp only [hold_eq]
  refine brV_by (fun h => ?_) (fun h => ?_)
  · have hlt : i < a.length := by have := of_decide_eq_true h; omega
    have hlb : i < b.length := by omega
    rw [i64_succ hlt (by omega), elemAt_strv a i hlt, elemAt_strv b i hlb]
    refine gb_by (dt (by omega)) (gb_by rfl (gb_by (dt (by omega)) (gb_by rfl ?_)))
    refine brV_by (fun h => ?_) (fun h => ?_)
    · have hne : a[i] ≠ b[i] := fun e => by rw [e] at h; simp at h
      rw [ls_no hlt hlb hne]; exact Wk.refl _
    · have he : a[i] = b[i] := by simpa [AVal.strOf] using h
      refine hL (i + 1) ⟨hlt, fun j hj hj' hji => ?_⟩ (by omega)
      rcases Nat.lt_or_ge j i with h9 | h9
      · exact hpre j hj hj' h9
      · obtain rfl : j = i := by omega
        exact he
  · have hge : i = a.length := by have := of_decide_eq_false h; omega
    rw [ls_yes hn (fun j h1 h2 => hpre j h1 h2 (by omega))]
    exact leaveTo (Wk.refl _)
theorem eqS_ok : EntOk Tryd.prog eqSE := by
  intro xs σ; simp only [eqSE]; split
  · rename_i a s t b s' t'
    intro hc
    simp only [Bool.and_eq_true] at hc
    obtain ⟨h1, h2, h3, g1, g2, g3⟩ := hc
    have h3 := lenL_of h3
    have g3 := lenL_of g3
    exact pcall_of (v := .bool _) (.cons (wk_strv t h1 h2) (.cons (wk_strv t' g1 g2) (.refl _))) (by rw [hold_eq]; exact eqS_c _ _ (by simpa using h3) (by simpa using g3)) (by simp only [noOutL, AVal.noOut, strv_noOut, Bool.and_true]) (by simp only [noTokL, AVal.noTok, strv_noTok, Bool.and_true, Tag.below]) rfl rfl
  · trivial
theorem eqN_c (a b : List Nd) (ha : a.length ≤ 1000000) (hb : b.length ≤ 1000000) : ACall Tryd.prog 28 [.slice (ndv a) 8 .ro, .slice (ndv b) 8 .ro] Sto.empty fun r _ => Wk r (.bool (decide (a = b))) := by
  refine eqN_i a b _ (.of_none rfl) ?_
  have h1 := ndv_len a
  have h2 := ndv_len b
  simp only [hold_eq]
  refine brV_by (fun h => ?_) (fun h => ?_)
  · have hne : a.length ≠ b.length := by
      have h : (((ndv a).length : Int) != ((ndv b).length : Int)) = true := h
      have : ¬ ((ndv a).length : Int) = ((ndv b).length : Int) := by simpa using h
      omega
    have : decide (a = b) = false := decide_eq_false fun e => hne (by rw [e])
    rw [this]; exact Wk.refl _
  have hn : a.length = b.length := by
    have h : (((ndv a).length : Int) != ((ndv b).length : Int)) = false := h
    have : ((ndv a).length : Int) = ((ndv b).length : Int) := by simpa using h
    omega
  refine loopV_intro (α := Nat) (fun i => eqNL_S a b (ndv a).length i) (fun i => i ≤ a.length ∧ ∀ j (ha : j < a.length) (hb : j < b.length), j < i → a[j] = b[j]) (fun i => a.length - i) ?_ 0 ⟨Nat.zero_le _, fun j _ _ h => by omega⟩
  rintro i ⟨hi, hpre⟩ L hL
  refine Eq.mpr (eqNL_r a b (ndv a).length i L _) ?_
  simp only [hold_eq]
  refine brV_by (fun h => ?_) (fun h => ?_)
  · have hlt : i < a.length := by have := of_decide_eq_true h; omega
    have hlb : i < b.length := by omega
    rw [i64_succ hlt (by omega), elemAt_ndv a i hlt, elemAt_ndv b i hlb]
    refine gb_by (dt (by omega)) (gb_by rfl (gb_by (dt (by omega)) (gb_by rfl ?_)))
    refine brV_by (fun h => ?_) (fun h => ?_)
    · have hne : a[i] ≠ b[i] := fun e => by rw [e] at h; simp at h
      rw [ls_no hlt hlb hne]; exact Wk.refl _
    · have he : a[i] = b[i] := by
        generalize a[i] = x at h
        generalize b[i] = y at h
        obtain ⟨x1, x2, ⟨x3, x4, x5⟩, ⟨x6, x7, x8⟩⟩ := x
        obtain ⟨y1, y2, ⟨y3, y4, y5⟩, ⟨y6, y7, y8⟩⟩ := y
        simpa [AVal.strOf, AVal.intOf, and_assoc] using h
      refine hL (i + 1) ⟨hlt, fun j hj hj' hji => ?_⟩ (by omega)
      rcases Nat.lt_or_ge j i with h9 | h9
      · exact hpre j hj hj' h9
      · obtain rfl : j = i := by omega
        exact he
  · have hge : i = a.length := by have := of_decide_eq_false h; omega
    rw [ls_yes hn (fun j h1 h2 => hpre j h1 h2 (by omega))]
    exact leaveTo (Wk.refl _)
theorem eqN_ok : EntOk Tryd.prog eqNE := by
  intro xs σ; simp only [eqNE]; split
  · rename_i a s t b s' t'
    intro hc
    simp only [Bool.and_eq_true] at hc
    obtain ⟨h1, h2, h3, g1, g2, g3⟩ := hc
    have h3 := lenL_of h3
    have g3 := lenL_of g3
    exact pcall_of (v := .bool _) (.cons (wk_ndv t h1 h2) (.cons (wk_ndv t' g1 g2) (.refl _))) (by rw [hold_eq]; exact eqN_c _ _ (by simpa using h3) (by simpa using g3)) (by simp only [noOutL, AVal.noOut, ndv_noOut, Bool.and_true]) (by simp only [noTokL, AVal.noTok, ndv_noTok, Bool.and_true, Tag.below]) rfl rfl
  · trivial
theorem eqK_c (a b : List Lk) (ha : a.length ≤ 1000000) (hb : b.length ≤ 1000000) : ACall Tryd.prog 29 [.slice (lkv a) 3 .ro, .slice (lkv b) 3 .ro] Sto.empty fun r _ => Wk r (.bool (decide (a = b))) := by
  refine eqK_i a b _ (.of_none rfl) ?_
  have h1 := lkv_len a
  have h2 := lkv_len b
  simp only [hold_eq]
  refine brV_by (fun h => ?_) (fun h => ?_)
  · have hne : a.length ≠ b.length := by
      have h : (((lkv a).length : Int) != ((lkv b).length : Int)) = true := h
      have : ¬ ((lkv a).length : Int) = ((lkv b).length : Int) := by simpa using h
      omega
    have : decide (a = b) = false := decide_eq_false fun e => hne (by rw [e])
    rw [this]; exact Wk.refl _
  have hn : a.length = b.length := by
    have h : (((lkv a).length : Int) != ((lkv b).length : Int)) = false := h
    have : ((lkv a).length : Int) = ((lkv b).length : Int) := by simpa using h
    omega
  refine loopV_intro (α := Nat) (fun i => eqKL_S a b (lkv a).length i) (fun i => i ≤ a.length ∧ ∀ j (ha : j < a.length) (hb : j < b.length), j < i → a[j] = b[j]) (fun i => a.length - i) ?_ 0 ⟨Nat.zero_le _, fun j _ _ h => by omega⟩
  rintro i ⟨hi, hpre⟩ L hL
  refine Eq.mpr (eqKL_r a b (lkv a).length i L _) ?_
  simp only [hold_eq]
  refine brV_by (fun h => ?_) (fun h => ?_)
  · have hlt : i < a.length := by have := of_decide_eq_true h; omega
    have hlb : i < b.length := by omega
    rw [i64_succ hlt (by omega), elemAt_lkv a i hlt, elemAt_lkv b i hlb]
    refine gb_by (dt (by omega)) (gb_by rfl (gb_by (dt (by omega)) (gb_by rfl ?_)))
    refine brV_by (fun h => ?_) (fun h => ?_)
    · have hne : a[i] ≠ b[i] := fun e => by rw [e] at h; simp at h
      rw [ls_no hlt hlb hne]; exact Wk.refl _
    · have he : a[i] = b[i] := by
        generalize a[i] = x at h
        generalize b[i] = y at h
        obtain ⟨x1, x2, x3⟩ := x
        obtain ⟨y1, y2, y3⟩ := y
        simpa [AVal.strOf, AVal.intOf, and_assoc] using h
      refine hL (i + 1) ⟨hlt, fun j hj hj' hji => ?_⟩ (by omega)
      rcases Nat.lt_or_ge j i with h9 | h9
      · exact hpre j hj hj' h9
      · obtain rfl : j = i := by omega
        exact he
  · have hge : i = a.length := by have := of_decide_eq_false h; omega
    rw [ls_yes hn (fun j h1 h2 => hpre j h1 h2 (by omega))]
    exact leaveTo (Wk.refl _)
theorem eqK_ok : EntOk Tryd.prog eqLE := by
  intro xs σ; simp only [eqLE]; split
  · rename_i a s t b s' t'
    intro hc
    simp only [Bool.and_eq_true] at hc
    obtain ⟨h1, h2, h3, g1, g2, g3⟩ := hc
    have h3 := lenL_of h3
    have g3 := lenL_of g3
    exact pcall_of (v := .bool _) (.cons (wk_lkv t h1 h2) (.cons (wk_lkv t' g1 g2) (.refl _))) (by rw [hold_eq]; exact eqK_c _ _ (by simpa using h3) (by simpa using g3)) (by simp only [noOutL, AVal.noOut, lkv_noOut, Bool.and_true]) (by simp only [noTokL, AVal.noTok, lkv_noTok, Bool.and_true, Tag.below]) rfl rfl
  · trivial
end Go.Proofs.YtcijjgfadkflmaaDoor
end

section
set_option maxRecDepth 100000
set_option maxHeartbeats 0
set_option linter.unusedVariables false
namespace Go.Proofs.YtcijjgfadkflmaaDoor
open Go.AL Go.Proofs
noncomputable def cEnd : Cfg := { keep := [0, 1, 2, 3, 6], cut := [] }
noncomputable def cWords : Cfg := { keep := [0, 1, 2, 3, 4, 5, 6, 7, 8, 9, 10, 13, 16, 17, 18, 21, 35, 43, 51, 65, 71, 89], cut := [(15, [1, 4, 5, 6, 7, 8, 16], [1, 4, 5, 16]), (46, [1, 4, 6, 8], [1, 4])], out := [1, 4, 5], orc := ofList [endE, signE, containsGE, validE], grow := [(1, 2001)] }
noncomputable def code_13_ : Code := (Tryd.f13.body).getD .skip
noncomputable def code_30_ : Code := (Tryd.f30.body).getD .skip
noncomputable def code_13_1_1_1_1_1_1 : Code := codeAt code_13_ [1, 1, 1, 1, 1, 1]
noncomputable def code_13_1_1_1_1_1_0_1_0_0 : Code := codeAt code_13_ [1, 1, 1, 1, 1, 0, 1, 0, 0]
theorem endW_i (i : Int) (s : Txt) (es : List AVal) (fr : Int) (Q : AVal → Sto → Prop) (ho : OrcOk Tryd.prog cEnd) (h : brV (hold (decide ((0 : Int) ≤ fr))) true (gb (decide ((0 : Int) ≤ fr ∧ fr ≤ i ∧ i ≤ (↑(List.length s) : Int))) (gb (decide (decide (true = true ∧ some (List.length es) = some (List.length es) ∧ (List.length es + 1) * 16 ≤ 140737488355328 ∧ List.length es + 1 ≤ 9223372036854775807) = true ∧ true = true)) (Q (AVal.tuple []) (Sto.set (Sto.set (Sto.setOwn (Sto.pushOwn (Sto.push (Sto.push (Sto.push Sto.empty (AObj.cells [AVal.str s])) (AObj.cells [AVal.slice es 1 (Tag.own 0)])) (AObj.cells [AVal.int IntKind.i64 fr])) (List.length es)) 0 (List.length es + 1)) 1 (AObj.cells [AVal.slice (es ++ [AVal.str (List.take (Int.toNat i - Int.toNat fr) (List.drop (Int.toNat fr) s))]) 1 (Tag.own 0)])) 2 (AObj.cells [AVal.int IntKind.i64 (-1 : Int)]))))) (Q (AVal.tuple []) (Sto.pushOwn (Sto.push (Sto.push (Sto.push Sto.empty (AObj.cells [AVal.str s])) (AObj.cells [AVal.slice es 1 (Tag.own 0)])) (AObj.cells [AVal.int IntKind.i64 fr])) (List.length es)))) : ACall Tryd.prog 30 [.int .i64 i, .ptr (.out 2) 0, .ptr (.out 1) 0, .ptr (.out 0) 0] (wst s es fr) Q :=
  ACall.intro hmix Tryd.func30 (c := code_30_) (by kernel_rfl) cEnd ho (Nat.le_of_ble_eq_true (by kernel_rfl)) (Eq.mpr (by kernel_rfl) h)
theorem words_i (s : Txt) (Q : AVal → Sto → Prop) (ho : OrcOk Tryd.prog cWords) (h : brV (hold (decide ((4096 : Int) < (↑(List.length s) : Int)))) true (Q (AVal.tuple [AVal.slice [] 0 Tag.nil, AVal.int IntKind.i64 (32 : Int)]) (Sto.push Sto.empty (AObj.cells [AVal.str s]))) (loopV (fun s => St.norm [(1, 2001)] [1, 4, 5, 6, 7, 8, 16] [1, 4, 5, 16] s) (vc Tryd.prog cWords code_13_1_1_1_1_1_0_1_0_0) (blockK 0 (thenK (fun s => cutV (vc Tryd.prog cWords code_13_1_1_1_1_1_1 (endK Tryd.prog (Array.toList (Go.Func.results Tryd.f13)) Q)) (St.norm [(1, 2001)] [1, 4, 6, 8] [1, 4] s)) (endK Tryd.prog (Array.toList (Go.Func.results Tryd.f13)) Q))) (St.mk 91 [(1, AVal.ptr (Oid.out 0) 0), (4, AVal.ptr (Oid.out 1) 0), (5, AVal.ptr (Oid.out 2) 0), (6, AVal.bool false), (7, AVal.bool false), (8, AVal.func (Go.Fn.func 30) [] [AVal.ptr (Oid.out 2) 0, AVal.ptr (Oid.out 1) 0, AVal.ptr (Oid.out 0) 0]), (16, AVal.ptr (Oid.loc 16) 0)] [] [(16, AObj.siter s 0)] (Sto.set (Sto.pushOwn (Sto.set (Sto.push (Sto.push (Sto.push Sto.empty (AObj.cells [AVal.str s])) (AObj.cells [AVal.slice [] 0 Tag.nil])) (AObj.cells [AVal.int IntKind.i64 (0 : Int)])) 2 (AObj.cells [AVal.int IntKind.i64 (-1 : Int)])) 0) 1 (AObj.cells [AVal.slice [] 1 (Tag.own 0)]))))) : ACall Tryd.prog 13 [.str s] (Sto.empty) Q :=
  ACall.intro hmix Tryd.func13 (c := code_13_) (by kernel_rfl) cWords ho (Nat.le_of_ble_eq_true (by kernel_rfl)) (Eq.mpr (by kernel_rfl) h)
noncomputable def wordsL_S (s : Txt) (l : List Txt) (fr : Int) (q b : Bool) (p : Nat) : St := St.mk 91 [(1, .ptr (.out 0) 0), (4, .ptr (.out 1) 0), (5, .ptr (.out 2) 0), (6, .bool q), (7, .bool b), (8, .func (.func 30) [] [.ptr (.out 2) 0, .ptr (.out 1) 0, .ptr (.out 0) 0]), (16, .ptr (.loc 16) 0)] [] [(16, .siter s p)] (wst s (strv l) fr)
noncomputable abbrev wordsL_C : Code := code_13_1_1_1_1_1_0_1_0_0
theorem wordsL_r (s : Txt) (l : List Txt) (fr : Int) (q b : Bool) (p : Nat) (L : St → Prop) (K : Exit → St → Prop) : vc Tryd.prog cWords code_13_1_1_1_1_1_0_1_0_0 (thenK (fun s => L (St.norm [(1, 2001)] [1, 4, 5, 6, 7, 8, 16] [1, 4, 5, 16] s)) K) (St.mk 91 [(1, .ptr (.out 0) 0), (4, .ptr (.out 1) 0), (5, .ptr (.out 2) 0), (6, .bool q), (7, .bool b), (8, .func (.func 30) [] [.ptr (.out 2) 0, .ptr (.out 1) 0, .ptr (.out 0) 0]), (16, .ptr (.loc 16) 0)] [] [(16, .siter s p)] (wst s (strv l) fr)) =
  (brV (hold (decide (p < List.length s))) true (brV q true (brV (hold (decR s p == (34 : Int))) true (brV (!b) true (brV (hold (decide ((0 : Int) ≤ fr))) true (gb (isW (Sto.pushOwn (Sto.push (Sto.push (Sto.push Sto.empty (AObj.cells [AVal.str s])) (AObj.cells [AVal.slice (strv l) 1 (Tag.own 0)])) (AObj.cells [AVal.int IntKind.i64 fr])) (List.length (strv l))) s (strv l) fr && hold (decide (fr ≤ IntKind.wrap IntKind.i64 ((↑p : Int) + (1 : Int)) ∧ IntKind.wrap IntKind.i64 ((↑p : Int) + (1 : Int)) ≤ (↑(List.length s) : Int) ∧ List.length (strv l) ≤ 1000000))) (L (St.mk 91 [(1, AVal.ptr (Oid.out 0) 0), (4, AVal.ptr (Oid.out 1) 0), (5, AVal.ptr (Oid.out 2) 0), (6, AVal.bool false), (7, AVal.bool b), (8, AVal.func (Go.Fn.func 30) [] [AVal.ptr (Oid.out 2) 0, AVal.ptr (Oid.out 1) 0, AVal.ptr (Oid.out 0) 0]), (16, AVal.ptr (Oid.loc 16) 0)] [] [(16, AObj.siter s (p + decW s p))] (Sto.pushOwn (Sto.push (Sto.push (Sto.push Sto.empty (AObj.cells [AVal.str s])) (AObj.cells [AVal.slice (strv l ++ [AVal.str (cutW s fr (IntKind.wrap IntKind.i64 ((↑p : Int) + (1 : Int))))]) 1 (Tag.own 0)])) (AObj.cells [AVal.int IntKind.i64 (-1 : Int)])) (List.length (strv l ++ [AVal.str (cutW s fr (IntKind.wrap IntKind.i64 ((↑p : Int) + (1 : Int))))])))))) (gb (isW (Sto.pushOwn (Sto.push (Sto.push (Sto.push Sto.empty (AObj.cells [AVal.str s])) (AObj.cells [AVal.slice (strv l) 1 (Tag.own 0)])) (AObj.cells [AVal.int IntKind.i64 fr])) (List.length (strv l))) s (strv l) fr) (L (St.mk 91 [(1, AVal.ptr (Oid.out 0) 0), (4, AVal.ptr (Oid.out 1) 0), (5, AVal.ptr (Oid.out 2) 0), (6, AVal.bool false), (7, AVal.bool b), (8, AVal.func (Go.Fn.func 30) [] [AVal.ptr (Oid.out 2) 0, AVal.ptr (Oid.out 1) 0, AVal.ptr (Oid.out 0) 0]), (16, AVal.ptr (Oid.loc 16) 0)] [] [(16, AObj.siter s (p + decW s p))] (Sto.pushOwn (Sto.push (Sto.push (Sto.push Sto.empty (AObj.cells [AVal.str s])) (AObj.cells [AVal.slice (strv l) 1 (Tag.own 0)])) (AObj.cells [AVal.int IntKind.i64 fr])) (List.length (strv l))))))) (brV q true (brV (hold (decR s p == (92 : Int))) true (L (St.mk 91 [(1, AVal.ptr (Oid.out 0) 0), (4, AVal.ptr (Oid.out 1) 0), (5, AVal.ptr (Oid.out 2) 0), (6, AVal.bool q), (7, AVal.bool !b), (8, AVal.func (Go.Fn.func 30) [] [AVal.ptr (Oid.out 2) 0, AVal.ptr (Oid.out 1) 0, AVal.ptr (Oid.out 0) 0]), (16, AVal.ptr (Oid.loc 16) 0)] [] [(16, AObj.siter s (p + decW s p))] (Sto.pushOwn (Sto.push (Sto.push (Sto.push Sto.empty (AObj.cells [AVal.str s])) (AObj.cells [AVal.slice (strv l) 1 (Tag.own 0)])) (AObj.cells [AVal.int IntKind.i64 fr])) (List.length (strv l))))) (L (St.mk 91 [(1, AVal.ptr (Oid.out 0) 0), (4, AVal.ptr (Oid.out 1) 0), (5, AVal.ptr (Oid.out 2) 0), (6, AVal.bool q), (7, AVal.bool false), (8, AVal.func (Go.Fn.func 30) [] [AVal.ptr (Oid.out 2) 0, AVal.ptr (Oid.out 1) 0, AVal.ptr (Oid.out 0) 0]), (16, AVal.ptr (Oid.loc 16) 0)] [] [(16, AObj.siter s (p + decW s p))] (Sto.pushOwn (Sto.push (Sto.push (Sto.push Sto.empty (AObj.cells [AVal.str s])) (AObj.cells [AVal.slice (strv l) 1 (Tag.own 0)])) (AObj.cells [AVal.int IntKind.i64 fr])) (List.length (strv l)))))) (brV (hold (decR s p == (34 : Int))) true (brV (hold (decide (fr < (0 : Int)))) true (L (St.mk 91 [(1, AVal.ptr (Oid.out 0) 0), (4, AVal.ptr (Oid.out 1) 0), (5, AVal.ptr (Oid.out 2) 0), (6, AVal.bool true), (7, AVal.bool false), (8, AVal.func (Go.Fn.func 30) [] [AVal.ptr (Oid.out 2) 0, AVal.ptr (Oid.out 1) 0, AVal.ptr (Oid.out 0) 0]), (16, AVal.ptr (Oid.loc 16) 0)] [] [(16, AObj.siter s (p + decW s p))] (Sto.set (Sto.pushOwn (Sto.push (Sto.push (Sto.push Sto.empty (AObj.cells [AVal.str s])) (AObj.cells [AVal.slice (strv l) 1 (Tag.own 0)])) (AObj.cells [AVal.int IntKind.i64 fr])) (List.length (strv l))) 2 (AObj.cells [AVal.int IntKind.i64 (↑p : Int)])))) (brV (hold (signI (decR s p))) true (brV (hold (decide ((0 : Int) ≤ fr))) true (gb (isW (Sto.pushOwn (Sto.push (Sto.push (Sto.push Sto.empty (AObj.cells [AVal.str s])) (AObj.cells [AVal.slice (strv l) 1 (Tag.own 0)])) (AObj.cells [AVal.int IntKind.i64 fr])) (List.length (strv l))) s (strv l) fr && hold (decide (fr ≤ (↑p : Int) ∧ (↑p : Int) ≤ (↑(List.length s) : Int) ∧ List.length (strv l) ≤ 1000000))) (gb (decide ((0 : Int) ≤ (↑p : Int) ∧ (↑p : Int) ≤ IntKind.wrap IntKind.i64 ((↑p : Int) + (1 : Int)) ∧ IntKind.wrap IntKind.i64 ((↑p : Int) + (1 : Int)) ≤ (↑(List.length s) : Int))) (gb (decide (decide (true = true ∧ some (List.length (strv l ++ [AVal.str (cutW s fr (↑p : Int))])) = some (List.length (strv l ++ [AVal.str (cutW s fr (↑p : Int))])) ∧ (List.length (strv l ++ [AVal.str (cutW s fr (↑p : Int))]) + 1) * 16 ≤ 140737488355328 ∧ List.length (strv l ++ [AVal.str (cutW s fr (↑p : Int))]) + 1 ≤ 9223372036854775807) = true ∧ true = true)) (L (St.mk 91 [(1, AVal.ptr (Oid.out 0) 0), (4, AVal.ptr (Oid.out 1) 0), (5, AVal.ptr (Oid.out 2) 0), (6, AVal.bool q), (7, AVal.bool b), (8, AVal.func (Go.Fn.func 30) [] [AVal.ptr (Oid.out 2) 0, AVal.ptr (Oid.out 1) 0, AVal.ptr (Oid.out 0) 0]), (16, AVal.ptr (Oid.loc 16) 0)] [] [(16, AObj.siter s (p + decW s p))] (Sto.set (Sto.setOwn (Sto.pushOwn (Sto.push (Sto.push (Sto.push Sto.empty (AObj.cells [AVal.str s])) (AObj.cells [AVal.slice (strv l ++ [AVal.str (cutW s fr (↑p : Int))]) 1 (Tag.own 0)])) (AObj.cells [AVal.int IntKind.i64 (-1 : Int)])) (List.length (strv l ++ [AVal.str (cutW s fr (↑p : Int))]))) 0 (List.length (strv l ++ [AVal.str (cutW s fr (↑p : Int))]) + 1)) 1 (AObj.cells [AVal.slice (strv l ++ [AVal.str (cutW s fr (↑p : Int))] ++ [AVal.str (List.take (Int.toNat (IntKind.wrap IntKind.i64 ((↑p : Int) + (1 : Int))) - Int.toNat (↑p : Int)) (List.drop (Int.toNat (↑p : Int)) s))]) 1 (Tag.own 0)]))))))) (gb (isW (Sto.pushOwn (Sto.push (Sto.push (Sto.push Sto.empty (AObj.cells [AVal.str s])) (AObj.cells [AVal.slice (strv l) 1 (Tag.own 0)])) (AObj.cells [AVal.int IntKind.i64 fr])) (List.length (strv l))) s (strv l) fr) (gb (decide ((0 : Int) ≤ (↑p : Int) ∧ (↑p : Int) ≤ IntKind.wrap IntKind.i64 ((↑p : Int) + (1 : Int)) ∧ IntKind.wrap IntKind.i64 ((↑p : Int) + (1 : Int)) ≤ (↑(List.length s) : Int))) (gb (decide (decide (true = true ∧ some (List.length (strv l)) = some (List.length (strv l)) ∧ (List.length (strv l) + 1) * 16 ≤ 140737488355328 ∧ List.length (strv l) + 1 ≤ 9223372036854775807) = true ∧ true = true)) (L (St.mk 91 [(1, AVal.ptr (Oid.out 0) 0), (4, AVal.ptr (Oid.out 1) 0), (5, AVal.ptr (Oid.out 2) 0), (6, AVal.bool q), (7, AVal.bool b), (8, AVal.func (Go.Fn.func 30) [] [AVal.ptr (Oid.out 2) 0, AVal.ptr (Oid.out 1) 0, AVal.ptr (Oid.out 0) 0]), (16, AVal.ptr (Oid.loc 16) 0)] [] [(16, AObj.siter s (p + decW s p))] (Sto.set (Sto.setOwn (Sto.pushOwn (Sto.push (Sto.push (Sto.push Sto.empty (AObj.cells [AVal.str s])) (AObj.cells [AVal.slice (strv l) 1 (Tag.own 0)])) (AObj.cells [AVal.int IntKind.i64 fr])) (List.length (strv l))) 0 (List.length (strv l) + 1)) 1 (AObj.cells [AVal.slice (strv l ++ [AVal.str (List.take (Int.toNat (IntKind.wrap IntKind.i64 ((↑p : Int) + (1 : Int))) - Int.toNat (↑p : Int)) (List.drop (Int.toNat (↑p : Int)) s))]) 1 (Tag.own 0)])))))))) (brV (hold (decR s p == (32 : Int))) true (brV (hold (decide ((0 : Int) ≤ fr))) true (gb (isW (Sto.pushOwn (Sto.push (Sto.push (Sto.push Sto.empty (AObj.cells [AVal.str s])) (AObj.cells [AVal.slice (strv l) 1 (Tag.own 0)])) (AObj.cells [AVal.int IntKind.i64 fr])) (List.length (strv l))) s (strv l) fr && hold (decide (fr ≤ (↑p : Int) ∧ (↑p : Int) ≤ (↑(List.length s) : Int) ∧ List.length (strv l) ≤ 1000000))) (L (St.mk 91 [(1, AVal.ptr (Oid.out 0) 0), (4, AVal.ptr (Oid.out 1) 0), (5, AVal.ptr (Oid.out 2) 0), (6, AVal.bool q), (7, AVal.bool b), (8, AVal.func (Go.Fn.func 30) [] [AVal.ptr (Oid.out 2) 0, AVal.ptr (Oid.out 1) 0, AVal.ptr (Oid.out 0) 0]), (16, AVal.ptr (Oid.loc 16) 0)] [] [(16, AObj.siter s (p + decW s p))] (Sto.pushOwn (Sto.push (Sto.push (Sto.push Sto.empty (AObj.cells [AVal.str s])) (AObj.cells [AVal.slice (strv l ++ [AVal.str (cutW s fr (↑p : Int))]) 1 (Tag.own 0)])) (AObj.cells [AVal.int IntKind.i64 (-1 : Int)])) (List.length (strv l ++ [AVal.str (cutW s fr (↑p : Int))])))))) (gb (isW (Sto.pushOwn (Sto.push (Sto.push (Sto.push Sto.empty (AObj.cells [AVal.str s])) (AObj.cells [AVal.slice (strv l) 1 (Tag.own 0)])) (AObj.cells [AVal.int IntKind.i64 fr])) (List.length (strv l))) s (strv l) fr) (L (St.mk 91 [(1, AVal.ptr (Oid.out 0) 0), (4, AVal.ptr (Oid.out 1) 0), (5, AVal.ptr (Oid.out 2) 0), (6, AVal.bool q), (7, AVal.bool b), (8, AVal.func (Go.Fn.func 30) [] [AVal.ptr (Oid.out 2) 0, AVal.ptr (Oid.out 1) 0, AVal.ptr (Oid.out 0) 0]), (16, AVal.ptr (Oid.loc 16) 0)] [] [(16, AObj.siter s (p + decW s p))] (Sto.pushOwn (Sto.push (Sto.push (Sto.push Sto.empty (AObj.cells [AVal.str s])) (AObj.cells [AVal.slice (strv l) 1 (Tag.own 0)])) (AObj.cells [AVal.int IntKind.i64 fr])) (List.length (strv l))))))) (brV (hold (decide (fr < (0 : Int)))) true (L (St.mk 91 [(1, AVal.ptr (Oid.out 0) 0), (4, AVal.ptr (Oid.out 1) 0), (5, AVal.ptr (Oid.out 2) 0), (6, AVal.bool q), (7, AVal.bool b), (8, AVal.func (Go.Fn.func 30) [] [AVal.ptr (Oid.out 2) 0, AVal.ptr (Oid.out 1) 0, AVal.ptr (Oid.out 0) 0]), (16, AVal.ptr (Oid.loc 16) 0)] [] [(16, AObj.siter s (p + decW s p))] (Sto.set (Sto.pushOwn (Sto.push (Sto.push (Sto.push Sto.empty (AObj.cells [AVal.str s])) (AObj.cells [AVal.slice (strv l) 1 (Tag.own 0)])) (AObj.cells [AVal.int IntKind.i64 fr])) (List.length (strv l))) 2 (AObj.cells [AVal.int IntKind.i64 (↑p : Int)])))) (L (St.mk 91 [(1, AVal.ptr (Oid.out 0) 0), (4, AVal.ptr (Oid.out 1) 0), (5, AVal.ptr (Oid.out 2) 0), (6, AVal.bool q), (7, AVal.bool b), (8, AVal.func (Go.Fn.func 30) [] [AVal.ptr (Oid.out 2) 0, AVal.ptr (Oid.out 1) 0, AVal.ptr (Oid.out 0) 0]), (16, AVal.ptr (Oid.loc 16) 0)] [] [(16, AObj.siter s (p + decW s p))] (Sto.pushOwn (Sto.push (Sto.push (Sto.push Sto.empty (AObj.cells [AVal.str s])) (AObj.cells [AVal.slice (strv l) 1 (Tag.own 0)])) (AObj.cells [AVal.int IntKind.i64 fr])) (List.length (strv l))))))))) (brV (hold (signI (decR s p))) true (brV (hold (decide ((0 : Int) ≤ fr))) true (gb (isW (Sto.pushOwn (Sto.push (Sto.push (Sto.push Sto.empty (AObj.cells [AVal.str s])) (AObj.cells [AVal.slice (strv l) 1 (Tag.own 0)])) (AObj.cells [AVal.int IntKind.i64 fr])) (List.length (strv l))) s (strv l) fr && hold (decide (fr ≤ (↑p : Int) ∧ (↑p : Int) ≤ (↑(List.length s) : Int) ∧ List.length (strv l) ≤ 1000000))) (gb (decide ((0 : Int) ≤ (↑p : Int) ∧ (↑p : Int) ≤ IntKind.wrap IntKind.i64 ((↑p : Int) + (1 : Int)) ∧ IntKind.wrap IntKind.i64 ((↑p : Int) + (1 : Int)) ≤ (↑(List.length s) : Int))) (gb (decide (decide (true = true ∧ some (List.length (strv l ++ [AVal.str (cutW s fr (↑p : Int))])) = some (List.length (strv l ++ [AVal.str (cutW s fr (↑p : Int))])) ∧ (List.length (strv l ++ [AVal.str (cutW s fr (↑p : Int))]) + 1) * 16 ≤ 140737488355328 ∧ List.length (strv l ++ [AVal.str (cutW s fr (↑p : Int))]) + 1 ≤ 9223372036854775807) = true ∧ true = true)) (L (St.mk 91 [(1, AVal.ptr (Oid.out 0) 0), (4, AVal.ptr (Oid.out 1) 0), (5, AVal.ptr (Oid.out 2) 0), (6, AVal.bool q), (7, AVal.bool b), (8, AVal.func (Go.Fn.func 30) [] [AVal.ptr (Oid.out 2) 0, AVal.ptr (Oid.out 1) 0, AVal.ptr (Oid.out 0) 0]), (16, AVal.ptr (Oid.loc 16) 0)] [] [(16, AObj.siter s (p + decW s p))] (Sto.set (Sto.setOwn (Sto.pushOwn (Sto.push (Sto.push (Sto.push Sto.empty (AObj.cells [AVal.str s])) (AObj.cells [AVal.slice (strv l ++ [AVal.str (cutW s fr (↑p : Int))]) 1 (Tag.own 0)])) (AObj.cells [AVal.int IntKind.i64 (-1 : Int)])) (List.length (strv l ++ [AVal.str (cutW s fr (↑p : Int))]))) 0 (List.length (strv l ++ [AVal.str (cutW s fr (↑p : Int))]) + 1)) 1 (AObj.cells [AVal.slice (strv l ++ [AVal.str (cutW s fr (↑p : Int))] ++ [AVal.str (List.take (Int.toNat (IntKind.wrap IntKind.i64 ((↑p : Int) + (1 : Int))) - Int.toNat (↑p : Int)) (List.drop (Int.toNat (↑p : Int)) s))]) 1 (Tag.own 0)]))))))) (gb (isW (Sto.pushOwn (Sto.push (Sto.push (Sto.push Sto.empty (AObj.cells [AVal.str s])) (AObj.cells [AVal.slice (strv l) 1 (Tag.own 0)])) (AObj.cells [AVal.int IntKind.i64 fr])) (List.length (strv l))) s (strv l) fr) (gb (decide ((0 : Int) ≤ (↑p : Int) ∧ (↑p : Int) ≤ IntKind.wrap IntKind.i64 ((↑p : Int) + (1 : Int)) ∧ IntKind.wrap IntKind.i64 ((↑p : Int) + (1 : Int)) ≤ (↑(List.length s) : Int))) (gb (decide (decide (true = true ∧ some (List.length (strv l)) = some (List.length (strv l)) ∧ (List.length (strv l) + 1) * 16 ≤ 140737488355328 ∧ List.length (strv l) + 1 ≤ 9223372036854775807) = true ∧ true = true)) (L (St.mk 91 [(1, AVal.ptr (Oid.out 0) 0), (4, AVal.ptr (Oid.out 1) 0), (5, AVal.ptr (Oid.out 2) 0), (6, AVal.bool q), (7, AVal.bool b), (8, AVal.func (Go.Fn.func 30) [] [AVal.ptr (Oid.out 2) 0, AVal.ptr (Oid.out 1) 0, AVal.ptr (Oid.out 0) 0]), (16, AVal.ptr (Oid.loc 16) 0)] [] [(16, AObj.siter s (p + decW s p))] (Sto.set (Sto.setOwn (Sto.pushOwn (Sto.push (Sto.push (Sto.push Sto.empty (AObj.cells [AVal.str s])) (AObj.cells [AVal.slice (strv l) 1 (Tag.own 0)])) (AObj.cells [AVal.int IntKind.i64 fr])) (List.length (strv l))) 0 (List.length (strv l) + 1)) 1 (AObj.cells [AVal.slice (strv l ++ [AVal.str (List.take (Int.toNat (IntKind.wrap IntKind.i64 ((↑p : Int) + (1 : Int))) - Int.toNat (↑p : Int)) (List.drop (Int.toNat (↑p : Int)) s))]) 1 (Tag.own 0)])))))))) (brV (hold (decR s p == (32 : Int))) true (brV (hold (decide ((0 : Int) ≤ fr))) true (gb (isW (Sto.pushOwn (Sto.push (Sto.push (Sto.push Sto.empty (AObj.cells [AVal.str s])) (AObj.cells [AVal.slice (strv l) 1 (Tag.own 0)])) (AObj.cells [AVal.int IntKind.i64 fr])) (List.length (strv l))) s (strv l) fr && hold (decide (fr ≤ (↑p : Int) ∧ (↑p : Int) ≤ (↑(List.length s) : Int) ∧ List.length (strv l) ≤ 1000000))) (L (St.mk 91 [(1, AVal.ptr (Oid.out 0) 0), (4, AVal.ptr (Oid.out 1) 0), (5, AVal.ptr (Oid.out 2) 0), (6, AVal.bool q), (7, AVal.bool b), (8, AVal.func (Go.Fn.func 30) [] [AVal.ptr (Oid.out 2) 0, AVal.ptr (Oid.out 1) 0, AVal.ptr (Oid.out 0) 0]), (16, AVal.ptr (Oid.loc 16) 0)] [] [(16, AObj.siter s (p + decW s p))] (Sto.pushOwn (Sto.push (Sto.push (Sto.push Sto.empty (AObj.cells [AVal.str s])) (AObj.cells [AVal.slice (strv l ++ [AVal.str (cutW s fr (↑p : Int))]) 1 (Tag.own 0)])) (AObj.cells [AVal.int IntKind.i64 (-1 : Int)])) (List.length (strv l ++ [AVal.str (cutW s fr (↑p : Int))])))))) (gb (isW (Sto.pushOwn (Sto.push (Sto.push (Sto.push Sto.empty (AObj.cells [AVal.str s])) (AObj.cells [AVal.slice (strv l) 1 (Tag.own 0)])) (AObj.cells [AVal.int IntKind.i64 fr])) (List.length (strv l))) s (strv l) fr) (L (St.mk 91 [(1, AVal.ptr (Oid.out 0) 0), (4, AVal.ptr (Oid.out 1) 0), (5, AVal.ptr (Oid.out 2) 0), (6, AVal.bool q), (7, AVal.bool b), (8, AVal.func (Go.Fn.func 30) [] [AVal.ptr (Oid.out 2) 0, AVal.ptr (Oid.out 1) 0, AVal.ptr (Oid.out 0) 0]), (16, AVal.ptr (Oid.loc 16) 0)] [] [(16, AObj.siter s (p + decW s p))] (Sto.pushOwn (Sto.push (Sto.push (Sto.push Sto.empty (AObj.cells [AVal.str s])) (AObj.cells [AVal.slice (strv l) 1 (Tag.own 0)])) (AObj.cells [AVal.int IntKind.i64 fr])) (List.length (strv l))))))) (brV (hold (decide (fr < (0 : Int)))) true (L (St.mk 91 [(1, AVal.ptr (Oid.out 0) 0), (4, AVal.ptr (Oid.out 1) 0), (5, AVal.ptr (Oid.out 2) 0), (6, AVal.bool q), (7, AVal.bool b), (8, AVal.func (Go.Fn.func 30) [] [AVal.ptr (Oid.out 2) 0, AVal.ptr (Oid.out 1) 0, AVal.ptr (Oid.out 0) 0]), (16, AVal.ptr (Oid.loc 16) 0)] [] [(16, AObj.siter s (p + decW s p))] (Sto.set (Sto.pushOwn (Sto.push (Sto.push (Sto.push Sto.empty (AObj.cells [AVal.str s])) (AObj.cells [AVal.slice (strv l) 1 (Tag.own 0)])) (AObj.cells [AVal.int IntKind.i64 fr])) (List.length (strv l))) 2 (AObj.cells [AVal.int IntKind.i64 (↑p : Int)])))) (L (St.mk 91 [(1, AVal.ptr (Oid.out 0) 0), (4, AVal.ptr (Oid.out 1) 0), (5, AVal.ptr (Oid.out 2) 0), (6, AVal.bool q), (7, AVal.bool b), (8, AVal.func (Go.Fn.func 30) [] [AVal.ptr (Oid.out 2) 0, AVal.ptr (Oid.out 1) 0, AVal.ptr (Oid.out 0) 0]), (16, AVal.ptr (Oid.loc 16) 0)] [] [(16, AObj.siter s (p + decW s p))] (Sto.pushOwn (Sto.push (Sto.push (Sto.push Sto.empty (AObj.cells [AVal.str s])) (AObj.cells [AVal.slice (strv l) 1 (Tag.own 0)])) (AObj.cells [AVal.int IntKind.i64 fr])) (List.length (strv l))))))))))) (brV q true (brV (hold (decR s p == (92 : Int))) true (L (St.mk 91 [(1, AVal.ptr (Oid.out 0) 0), (4, AVal.ptr (Oid.out 1) 0), (5, AVal.ptr (Oid.out 2) 0), (6, AVal.bool q), (7, AVal.bool !b), (8, AVal.func (Go.Fn.func 30) [] [AVal.ptr (Oid.out 2) 0, AVal.ptr (Oid.out 1) 0, AVal.ptr (Oid.out 0) 0]), (16, AVal.ptr (Oid.loc 16) 0)] [] [(16, AObj.siter s (p + decW s p))] (Sto.pushOwn (Sto.push (Sto.push (Sto.push Sto.empty (AObj.cells [AVal.str s])) (AObj.cells [AVal.slice (strv l) 1 (Tag.own 0)])) (AObj.cells [AVal.int IntKind.i64 fr])) (List.length (strv l))))) (L (St.mk 91 [(1, AVal.ptr (Oid.out 0) 0), (4, AVal.ptr (Oid.out 1) 0), (5, AVal.ptr (Oid.out 2) 0), (6, AVal.bool q), (7, AVal.bool false), (8, AVal.func (Go.Fn.func 30) [] [AVal.ptr (Oid.out 2) 0, AVal.ptr (Oid.out 1) 0, AVal.ptr (Oid.out 0) 0]), (16, AVal.ptr (Oid.loc 16) 0)] [] [(16, AObj.siter s (p + decW s p))] (Sto.pushOwn (Sto.push (Sto.push (Sto.push Sto.empty (AObj.cells [AVal.str s])) (AObj.cells [AVal.slice (strv l) 1 (Tag.own 0)])) (AObj.cells [AVal.int IntKind.i64 fr])) (List.length (strv l)))))) (brV (hold (decR s p == (34 : Int))) true (brV (hold (decide (fr < (0 : Int)))) true (L (St.mk 91 [(1, AVal.ptr (Oid.out 0) 0), (4, AVal.ptr (Oid.out 1) 0), (5, AVal.ptr (Oid.out 2) 0), (6, AVal.bool true), (7, AVal.bool false), (8, AVal.func (Go.Fn.func 30) [] [AVal.ptr (Oid.out 2) 0, AVal.ptr (Oid.out 1) 0, AVal.ptr (Oid.out 0) 0]), (16, AVal.ptr (Oid.loc 16) 0)] [] [(16, AObj.siter s (p + decW s p))] (Sto.set (Sto.pushOwn (Sto.push (Sto.push (Sto.push Sto.empty (AObj.cells [AVal.str s])) (AObj.cells [AVal.slice (strv l) 1 (Tag.own 0)])) (AObj.cells [AVal.int IntKind.i64 fr])) (List.length (strv l))) 2 (AObj.cells [AVal.int IntKind.i64 (↑p : Int)])))) (brV (hold (signI (decR s p))) true (brV (hold (decide ((0 : Int) ≤ fr))) true (gb (isW (Sto.pushOwn (Sto.push (Sto.push (Sto.push Sto.empty (AObj.cells [AVal.str s])) (AObj.cells [AVal.slice (strv l) 1 (Tag.own 0)])) (AObj.cells [AVal.int IntKind.i64 fr])) (List.length (strv l))) s (strv l) fr && hold (decide (fr ≤ (↑p : Int) ∧ (↑p : Int) ≤ (↑(List.length s) : Int) ∧ List.length (strv l) ≤ 1000000))) (gb (decide ((0 : Int) ≤ (↑p : Int) ∧ (↑p : Int) ≤ IntKind.wrap IntKind.i64 ((↑p : Int) + (1 : Int)) ∧ IntKind.wrap IntKind.i64 ((↑p : Int) + (1 : Int)) ≤ (↑(List.length s) : Int))) (gb (decide (decide (true = true ∧ some (List.length (strv l ++ [AVal.str (cutW s fr (↑p : Int))])) = some (List.length (strv l ++ [AVal.str (cutW s fr (↑p : Int))])) ∧ (List.length (strv l ++ [AVal.str (cutW s fr (↑p : Int))]) + 1) * 16 ≤ 140737488355328 ∧ List.length (strv l ++ [AVal.str (cutW s fr (↑p : Int))]) + 1 ≤ 9223372036854775807) = true ∧ true = true)) (L (St.mk 91 [(1, AVal.ptr (Oid.out 0) 0), (4, AVal.ptr (Oid.out 1) 0), (5, AVal.ptr (Oid.out 2) 0), (6, AVal.bool q), (7, AVal.bool b), (8, AVal.func (Go.Fn.func 30) [] [AVal.ptr (Oid.out 2) 0, AVal.ptr (Oid.out 1) 0, AVal.ptr (Oid.out 0) 0]), (16, AVal.ptr (Oid.loc 16) 0)] [] [(16, AObj.siter s (p + decW s p))] (Sto.set (Sto.setOwn (Sto.pushOwn (Sto.push (Sto.push (Sto.push Sto.empty (AObj.cells [AVal.str s])) (AObj.cells [AVal.slice (strv l ++ [AVal.str (cutW s fr (↑p : Int))]) 1 (Tag.own 0)])) (AObj.cells [AVal.int IntKind.i64 (-1 : Int)])) (List.length (strv l ++ [AVal.str (cutW s fr (↑p : Int))]))) 0 (List.length (strv l ++ [AVal.str (cutW s fr (↑p : Int))]) + 1)) 1 (AObj.cells [AVal.slice (strv l ++ [AVal.str (cutW s fr (↑p : Int))] ++ [AVal.str (List.take (Int.toNat (IntKind.wrap IntKind.i64 ((↑p : Int) + (1 : Int))) - Int.toNat (↑p : Int)) (List.drop (Int.toNat (↑p : Int)) s))]) 1 (Tag.own 0)]))))))) (gb (isW (Sto.pushOwn (Sto.push (Sto.push (Sto.push Sto.empty (AObj.cells [AVal.str s])) (AObj.cells [AVal.slice (strv l) 1 (Tag.own 0)])) (AObj.cells [AVal.int IntKind.i64 fr])) (List.length (strv l))) s (strv l) fr) (gb (decide ((0 : Int) ≤ (↑p : Int) ∧ (↑p : Int) ≤ IntKind.wrap IntKind.i64 ((↑p : Int) + (1 : Int)) ∧ IntKind.wrap IntKind.i64 ((↑p : Int) + (1 : Int)) ≤ (↑(List.length s) : Int))) (gb (decide (decide (true = true ∧ some (List.length (strv l)) = some (List.length (strv l)) ∧ (List.length (strv l) + 1) * 16 ≤ 140737488355328 ∧ List.length (strv l) + 1 ≤ 9223372036854775807) = true ∧ true = true)) (L (St.mk 91 [(1, AVal.ptr (Oid.out 0) 0), (4, AVal.ptr (Oid.out 1) 0), (5, AVal.ptr (Oid.out 2) 0), (6, AVal.bool q), (7, AVal.bool b), (8, AVal.func (Go.Fn.func 30) [] [AVal.ptr (Oid.out 2) 0, AVal.ptr (Oid.out 1) 0, AVal.ptr (Oid.out 0) 0]), (16, AVal.ptr (Oid.loc 16) 0)] [] [(16, AObj.siter s (p + decW s p))] (Sto.set (Sto.setOwn (Sto.pushOwn (Sto.push (Sto.push (Sto.push Sto.empty (AObj.cells [AVal.str s])) (AObj.cells [AVal.slice (strv l) 1 (Tag.own 0)])) (AObj.cells [AVal.int IntKind.i64 fr])) (List.length (strv l))) 0 (List.length (strv l) + 1)) 1 (AObj.cells [AVal.slice (strv l ++ [AVal.str (List.take (Int.toNat (IntKind.wrap IntKind.i64 ((↑p : Int) + (1 : Int))) - Int.toNat (↑p : Int)) (List.drop (Int.toNat (↑p : Int)) s))]) 1 (Tag.own 0)])))))))) (brV (hold (decR s p == (32 : Int))) true (brV (hold (decide ((0 : Int) ≤ fr))) true (gb (isW (Sto.pushOwn (Sto.push (Sto.push (Sto.push Sto.empty (AObj.cells [AVal.str s])) (AObj.cells [AVal.slice (strv l) 1 (Tag.own 0)])) (AObj.cells [AVal.int IntKind.i64 fr])) (List.length (strv l))) s (strv l) fr && hold (decide (fr ≤ (↑p : Int) ∧ (↑p : Int) ≤ (↑(List.length s) : Int) ∧ List.length (strv l) ≤ 1000000))) (L (St.mk 91 [(1, AVal.ptr (Oid.out 0) 0), (4, AVal.ptr (Oid.out 1) 0), (5, AVal.ptr (Oid.out 2) 0), (6, AVal.bool q), (7, AVal.bool b), (8, AVal.func (Go.Fn.func 30) [] [AVal.ptr (Oid.out 2) 0, AVal.ptr (Oid.out 1) 0, AVal.ptr (Oid.out 0) 0]), (16, AVal.ptr (Oid.loc 16) 0)] [] [(16, AObj.siter s (p + decW s p))] (Sto.pushOwn (Sto.push (Sto.push (Sto.push Sto.empty (AObj.cells [AVal.str s])) (AObj.cells [AVal.slice (strv l ++ [AVal.str (cutW s fr (↑p : Int))]) 1 (Tag.own 0)])) (AObj.cells [AVal.int IntKind.i64 (-1 : Int)])) (List.length (strv l ++ [AVal.str (cutW s fr (↑p : Int))])))))) (gb (isW (Sto.pushOwn (Sto.push (Sto.push (Sto.push Sto.empty (AObj.cells [AVal.str s])) (AObj.cells [AVal.slice (strv l) 1 (Tag.own 0)])) (AObj.cells [AVal.int IntKind.i64 fr])) (List.length (strv l))) s (strv l) fr) (L (St.mk 91 [(1, AVal.ptr (Oid.out 0) 0), (4, AVal.ptr (Oid.out 1) 0), (5, AVal.ptr (Oid.out 2) 0), (6, AVal.bool q), (7, AVal.bool b), (8, AVal.func (Go.Fn.func 30) [] [AVal.ptr (Oid.out 2) 0, AVal.ptr (Oid.out 1) 0, AVal.ptr (Oid.out 0) 0]), (16, AVal.ptr (Oid.loc 16) 0)] [] [(16, AObj.siter s (p + decW s p))] (Sto.pushOwn (Sto.push (Sto.push (Sto.push Sto.empty (AObj.cells [AVal.str s])) (AObj.cells [AVal.slice (strv l) 1 (Tag.own 0)])) (AObj.cells [AVal.int IntKind.i64 fr])) (List.length (strv l))))))) (brV (hold (decide (fr < (0 : Int)))) true (L (St.mk 91 [(1, AVal.ptr (Oid.out 0) 0), (4, AVal.ptr (Oid.out 1) 0), (5, AVal.ptr (Oid.out 2) 0), (6, AVal.bool q), (7, AVal.bool b), (8, AVal.func (Go.Fn.func 30) [] [AVal.ptr (Oid.out 2) 0, AVal.ptr (Oid.out 1) 0, AVal.ptr (Oid.out 0) 0]), (16, AVal.ptr (Oid.loc 16) 0)] [] [(16, AObj.siter s (p + decW s p))] (Sto.set (Sto.pushOwn (Sto.push (Sto.push (Sto.push Sto.empty (AObj.cells [AVal.str s])) (AObj.cells [AVal.slice (strv l) 1 (Tag.own 0)])) (AObj.cells [AVal.int IntKind.i64 fr])) (List.length (strv l))) 2 (AObj.cells [AVal.int IntKind.i64 (↑p : Int)])))) (L (St.mk 91 [(1, AVal.ptr (Oid.out 0) 0), (4, AVal.ptr (Oid.out 1) 0), (5, AVal.ptr (Oid.out 2) 0), (6, AVal.bool q), (7, AVal.bool b), (8, AVal.func (Go.Fn.func 30) [] [AVal.ptr (Oid.out 2) 0, AVal.ptr (Oid.out 1) 0, AVal.ptr (Oid.out 0) 0]), (16, AVal.ptr (Oid.loc 16) 0)] [] [(16, AObj.siter s (p + decW s p))] (Sto.pushOwn (Sto.push (Sto.push (Sto.push Sto.empty (AObj.cells [AVal.str s])) (AObj.cells [AVal.slice (strv l) 1 (Tag.own 0)])) (AObj.cells [AVal.int IntKind.i64 fr])) (List.length (strv l))))))))) (brV (hold (signI (decR s p))) true (brV (hold (decide ((0 : Int) ≤ fr))) true (gb (isW (Sto.pushOwn (Sto.push (Sto.push (Sto.push Sto.empty (AObj.cells [AVal.str s])) (AObj.cells [AVal.slice (strv l) 1 (Tag.own 0)])) (AObj.cells [AVal.int IntKind.i64 fr])) (List.length (strv l))) s (strv l) fr && hold (decide (fr ≤ (↑p : Int) ∧ (↑p : Int) ≤ (↑(List.length s) : Int) ∧ List.length (strv l) ≤ 1000000))) (gb (decide ((0 : Int) ≤ (↑p : Int) ∧ (↑p : Int) ≤ IntKind.wrap IntKind.i64 ((↑p : Int) + (1 : Int)) ∧ IntKind.wrap IntKind.i64 ((↑p : Int) + (1 : Int)) ≤ (↑(List.length s) : Int))) (gb (decide (decide (true = true ∧ some (List.length (strv l ++ [AVal.str (cutW s fr (↑p : Int))])) = some (List.length (strv l ++ [AVal.str (cutW s fr (↑p : Int))])) ∧ (List.length (strv l ++ [AVal.str (cutW s fr (↑p : Int))]) + 1) * 16 ≤ 140737488355328 ∧ List.length (strv l ++ [AVal.str (cutW s fr (↑p : Int))]) + 1 ≤ 9223372036854775807) = true ∧ true = true)) (L (St.mk 91 [(1, AVal.ptr (Oid.out 0) 0), (4, AVal.ptr (Oid.out 1) 0), (5, AVal.ptr (Oid.out 2) 0), (6, AVal.bool q), (7, AVal.bool b), (8, AVal.func (Go.Fn.func 30) [] [AVal.ptr (Oid.out 2) 0, AVal.ptr (Oid.out 1) 0, AVal.ptr (Oid.out 0) 0]), (16, AVal.ptr (Oid.loc 16) 0)] [] [(16, AObj.siter s (p + decW s p))] (Sto.set (Sto.setOwn (Sto.pushOwn (Sto.push (Sto.push (Sto.push Sto.empty (AObj.cells [AVal.str s])) (AObj.cells [AVal.slice (strv l ++ [AVal.str (cutW s fr (↑p : Int))]) 1 (Tag.own 0)])) (AObj.cells [AVal.int IntKind.i64 (-1 : Int)])) (List.length (strv l ++ [AVal.str (cutW s fr (↑p : Int))]))) 0 (List.length (strv l ++ [AVal.str (cutW s fr (↑p : Int))]) + 1)) 1 (AObj.cells [AVal.slice (strv l ++ [AVal.str (cutW s fr (↑p : Int))] ++ [AVal.str (List.take (Int.toNat (IntKind.wrap IntKind.i64 ((↑p : Int) + (1 : Int))) - Int.toNat (↑p : Int)) (List.drop (Int.toNat (↑p : Int)) s))]) 1 (Tag.own 0)]))))))) (gb (isW (Sto.pushOwn (Sto.push (Sto.push (Sto.push Sto.empty (AObj.cells [AVal.str s])) (AObj.cells [AVal.slice (strv l) 1 (Tag.own 0)])) (AObj.cells [AVal.int IntKind.i64 fr])) (List.length (strv l))) s (strv l) fr) (gb (decide ((0 : Int) ≤ (↑p : Int) ∧ (↑p : Int) ≤ IntKind.wrap IntKind.i64 ((↑p : Int) + (1 : Int)) ∧ IntKind.wrap IntKind.i64 ((↑p : Int) + (1 : Int)) ≤ (↑(List.length s) : Int))) (gb (decide (decide (true = true ∧ some (List.length (strv l)) = some (List.length (strv l)) ∧ (List.length (strv l) + 1) * 16 ≤ 140737488355328 ∧ List.length (strv l) + 1 ≤ 9223372036854775807) = true ∧ true = true)) (L (St.mk 91 [(1, AVal.ptr (Oid.out 0) 0), (4, AVal.ptr (Oid.out 1) 0), (5, AVal.ptr (Oid.out 2) 0), (6, AVal.bool q), (7, AVal.bool b), (8, AVal.func (Go.Fn.func 30) [] [AVal.ptr (Oid.out 2) 0, AVal.ptr (Oid.out 1) 0, AVal.ptr (Oid.out 0) 0]), (16, AVal.ptr (Oid.loc 16) 0)] [] [(16, AObj.siter s (p + decW s p))] (Sto.set (Sto.setOwn (Sto.pushOwn (Sto.push (Sto.push (Sto.push Sto.empty (AObj.cells [AVal.str s])) (AObj.cells [AVal.slice (strv l) 1 (Tag.own 0)])) (AObj.cells [AVal.int IntKind.i64 fr])) (List.length (strv l))) 0 (List.length (strv l) + 1)) 1 (AObj.cells [AVal.slice (strv l ++ [AVal.str (List.take (Int.toNat (IntKind.wrap IntKind.i64 ((↑p : Int) + (1 : Int))) - Int.toNat (↑p : Int)) (List.drop (Int.toNat (↑p : Int)) s))]) 1 (Tag.own 0)])))))))) (brV (hold (decR s p == (32 : Int))) true (brV (hold (decide ((0 : Int) ≤ fr))) true (gb (isW (Sto.pushOwn (Sto.push (Sto.push (Sto.push Sto.empty (AObj.cells [AVal.str s])) (AObj.cells [AVal.slice (strv l) 1 (Tag.own 0)])) (AObj.cells [AVal.int IntKind.i64 fr])) (List.length (strv l))) s (strv l) fr && hold (decide (fr ≤ (↑p : Int) ∧ (↑p : Int) ≤ (↑(List.length s) : Int) ∧ List.length (strv l) ≤ 1000000))) (L (St.mk 91 [(1, AVal.ptr (Oid.out 0) 0), (4, AVal.ptr (Oid.out 1) 0), (5, AVal.ptr (Oid.out 2) 0), (6, AVal.bool q), (7, AVal.bool b), (8, AVal.func (Go.Fn.func 30) [] [AVal.ptr (Oid.out 2) 0, AVal.ptr (Oid.out 1) 0, AVal.ptr (Oid.out 0) 0]), (16, AVal.ptr (Oid.loc 16) 0)] [] [(16, AObj.siter s (p + decW s p))] (Sto.pushOwn (Sto.push (Sto.push (Sto.push Sto.empty (AObj.cells [AVal.str s])) (AObj.cells [AVal.slice (strv l ++ [AVal.str (cutW s fr (↑p : Int))]) 1 (Tag.own 0)])) (AObj.cells [AVal.int IntKind.i64 (-1 : Int)])) (List.length (strv l ++ [AVal.str (cutW s fr (↑p : Int))])))))) (gb (isW (Sto.pushOwn (Sto.push (Sto.push (Sto.push Sto.empty (AObj.cells [AVal.str s])) (AObj.cells [AVal.slice (strv l) 1 (Tag.own 0)])) (AObj.cells [AVal.int IntKind.i64 fr])) (List.length (strv l))) s (strv l) fr) (L (St.mk 91 [(1, AVal.ptr (Oid.out 0) 0), (4, AVal.ptr (Oid.out 1) 0), (5, AVal.ptr (Oid.out 2) 0), (6, AVal.bool q), (7, AVal.bool b), (8, AVal.func (Go.Fn.func 30) [] [AVal.ptr (Oid.out 2) 0, AVal.ptr (Oid.out 1) 0, AVal.ptr (Oid.out 0) 0]), (16, AVal.ptr (Oid.loc 16) 0)] [] [(16, AObj.siter s (p + decW s p))] (Sto.pushOwn (Sto.push (Sto.push (Sto.push Sto.empty (AObj.cells [AVal.str s])) (AObj.cells [AVal.slice (strv l) 1 (Tag.own 0)])) (AObj.cells [AVal.int IntKind.i64 fr])) (List.length (strv l))))))) (brV (hold (decide (fr < (0 : Int)))) true (L (St.mk 91 [(1, AVal.ptr (Oid.out 0) 0), (4, AVal.ptr (Oid.out 1) 0), (5, AVal.ptr (Oid.out 2) 0), (6, AVal.bool q), (7, AVal.bool b), (8, AVal.func (Go.Fn.func 30) [] [AVal.ptr (Oid.out 2) 0, AVal.ptr (Oid.out 1) 0, AVal.ptr (Oid.out 0) 0]), (16, AVal.ptr (Oid.loc 16) 0)] [] [(16, AObj.siter s (p + decW s p))] (Sto.set (Sto.pushOwn (Sto.push (Sto.push (Sto.push Sto.empty (AObj.cells [AVal.str s])) (AObj.cells [AVal.slice (strv l) 1 (Tag.own 0)])) (AObj.cells [AVal.int IntKind.i64 fr])) (List.length (strv l))) 2 (AObj.cells [AVal.int IntKind.i64 (↑p : Int)])))) (L (St.mk 91 [(1, AVal.ptr (Oid.out 0) 0), (4, AVal.ptr (Oid.out 1) 0), (5, AVal.ptr (Oid.out 2) 0), (6, AVal.bool q), (7, AVal.bool b), (8, AVal.func (Go.Fn.func 30) [] [AVal.ptr (Oid.out 2) 0, AVal.ptr (Oid.out 1) 0, AVal.ptr (Oid.out 0) 0]), (16, AVal.ptr (Oid.loc 16) 0)] [] [(16, AObj.siter s (p + decW s p))] (Sto.pushOwn (Sto.push (Sto.push (Sto.push Sto.empty (AObj.cells [AVal.str s])) (AObj.cells [AVal.slice (strv l) 1 (Tag.own 0)])) (AObj.cells [AVal.int IntKind.i64 fr])) (List.length (strv l))))))))))) (brV q true (brV (hold (decR s p == (92 : Int))) true (L (St.mk 91 [(1, AVal.ptr (Oid.out 0) 0), (4, AVal.ptr (Oid.out 1) 0), (5, AVal.ptr (Oid.out 2) 0), (6, AVal.bool q), (7, AVal.bool !b), (8, AVal.func (Go.Fn.func 30) [] [AVal.ptr (Oid.out 2) 0, AVal.ptr (Oid.out 1) 0, AVal.ptr (Oid.out 0) 0]), (16, AVal.ptr (Oid.loc 16) 0)] [] [(16, AObj.siter s (p + decW s p))] (Sto.pushOwn (Sto.push (Sto.push (Sto.push Sto.empty (AObj.cells [AVal.str s])) (AObj.cells [AVal.slice (strv l) 1 (Tag.own 0)])) (AObj.cells [AVal.int IntKind.i64 fr])) (List.length (strv l))))) (L (St.mk 91 [(1, AVal.ptr (Oid.out 0) 0), (4, AVal.ptr (Oid.out 1) 0), (5, AVal.ptr (Oid.out 2) 0), (6, AVal.bool q), (7, AVal.bool false), (8, AVal.func (Go.Fn.func 30) [] [AVal.ptr (Oid.out 2) 0, AVal.ptr (Oid.out 1) 0, AVal.ptr (Oid.out 0) 0]), (16, AVal.ptr (Oid.loc 16) 0)] [] [(16, AObj.siter s (p + decW s p))] (Sto.pushOwn (Sto.push (Sto.push (Sto.push Sto.empty (AObj.cells [AVal.str s])) (AObj.cells [AVal.slice (strv l) 1 (Tag.own 0)])) (AObj.cells [AVal.int IntKind.i64 fr])) (List.length (strv l)))))) (brV (hold (decR s p == (34 : Int))) true (brV (hold (decide (fr < (0 : Int)))) true (L (St.mk 91 [(1, AVal.ptr (Oid.out 0) 0), (4, AVal.ptr (Oid.out 1) 0), (5, AVal.ptr (Oid.out 2) 0), (6, AVal.bool true), (7, AVal.bool false), (8, AVal.func (Go.Fn.func 30) [] [AVal.ptr (Oid.out 2) 0, AVal.ptr (Oid.out 1) 0, AVal.ptr (Oid.out 0) 0]), (16, AVal.ptr (Oid.loc 16) 0)] [] [(16, AObj.siter s (p + decW s p))] (Sto.set (Sto.pushOwn (Sto.push (Sto.push (Sto.push Sto.empty (AObj.cells [AVal.str s])) (AObj.cells [AVal.slice (strv l) 1 (Tag.own 0)])) (AObj.cells [AVal.int IntKind.i64 fr])) (List.length (strv l))) 2 (AObj.cells [AVal.int IntKind.i64 (↑p : Int)])))) (brV (hold (signI (decR s p))) true (brV (hold (decide ((0 : Int) ≤ fr))) true (gb (isW (Sto.pushOwn (Sto.push (Sto.push (Sto.push Sto.empty (AObj.cells [AVal.str s])) (AObj.cells [AVal.slice (strv l) 1 (Tag.own 0)])) (AObj.cells [AVal.int IntKind.i64 fr])) (List.length (strv l))) s (strv l) fr && hold (decide (fr ≤ (↑p : Int) ∧ (↑p : Int) ≤ (↑(List.length s) : Int) ∧ List.length (strv l) ≤ 1000000))) (gb (decide ((0 : Int) ≤ (↑p : Int) ∧ (↑p : Int) ≤ IntKind.wrap IntKind.i64 ((↑p : Int) + (1 : Int)) ∧ IntKind.wrap IntKind.i64 ((↑p : Int) + (1 : Int)) ≤ (↑(List.length s) : Int))) (gb (decide (decide (true = true ∧ some (List.length (strv l ++ [AVal.str (cutW s fr (↑p : Int))])) = some (List.length (strv l ++ [AVal.str (cutW s fr (↑p : Int))])) ∧ (List.length (strv l ++ [AVal.str (cutW s fr (↑p : Int))]) + 1) * 16 ≤ 140737488355328 ∧ List.length (strv l ++ [AVal.str (cutW s fr (↑p : Int))]) + 1 ≤ 9223372036854775807) = true ∧ true = true)) (L (St.mk 91 [(1, AVal.ptr (Oid.out 0) 0), (4, AVal.ptr (Oid.out 1) 0), (5, AVal.ptr (Oid.out 2) 0), (6, AVal.bool q), (7, AVal.bool b), (8, AVal.func (Go.Fn.func 30) [] [AVal.ptr (Oid.out 2) 0, AVal.ptr (Oid.out 1) 0, AVal.ptr (Oid.out 0) 0]), (16, AVal.ptr (Oid.loc 16) 0)] [] [(16, AObj.siter s (p + decW s p))] (Sto.set (Sto.setOwn (Sto.pushOwn (Sto.push (Sto.push (Sto.push Sto.empty (AObj.cells [AVal.str s])) (AObj.cells [AVal.slice (strv l ++ [AVal.str (cutW s fr (↑p : Int))]) 1 (Tag.own 0)])) (AObj.cells [AVal.int IntKind.i64 (-1 : Int)])) (List.length (strv l ++ [AVal.str (cutW s fr (↑p : Int))]))) 0 (List.length (strv l ++ [AVal.str (cutW s fr (↑p : Int))]) + 1)) 1 (AObj.cells [AVal.slice (strv l ++ [AVal.str (cutW s fr (↑p : Int))] ++ [AVal.str (List.take (Int.toNat (IntKind.wrap IntKind.i64 ((↑p : Int) + (1 : Int))) - Int.toNat (↑p : Int)) (List.drop (Int.toNat (↑p : Int)) s))]) 1 (Tag.own 0)]))))))) (gb (isW (Sto.pushOwn (Sto.push (Sto.push (Sto.push Sto.empty (AObj.cells [AVal.str s])) (AObj.cells [AVal.slice (strv l) 1 (Tag.own 0)])) (AObj.cells [AVal.int IntKind.i64 fr])) (List.length (strv l))) s (strv l) fr) (gb (decide ((0 : Int) ≤ (↑p : Int) ∧ (↑p : Int) ≤ IntKind.wrap IntKind.i64 ((↑p : Int) + (1 : Int)) ∧ IntKind.wrap IntKind.i64 ((↑p : Int) + (1 : Int)) ≤ (↑(List.length s) : Int))) (gb (decide (decide (true = true ∧ some (List.length (strv l)) = some (List.length (strv l)) ∧ (List.length (strv l) + 1) * 16 ≤ 140737488355328 ∧ List.length (strv l) + 1 ≤ 9223372036854775807) = true ∧ true = true)) (L (St.mk 91 [(1, AVal.ptr (Oid.out 0) 0), (4, AVal.ptr (Oid.out 1) 0), (5, AVal.ptr (Oid.out 2) 0), (6, AVal.bool q), (7, AVal.bool b), (8, AVal.func (Go.Fn.func 30) [] [AVal.ptr (Oid.out 2) 0, AVal.ptr (Oid.out 1) 0, AVal.ptr (Oid.out 0) 0]), (16, AVal.ptr (Oid.loc 16) 0)] [] [(16, AObj.siter s (p + decW s p))] (Sto.set (Sto.setOwn (Sto.pushOwn (Sto.push (Sto.push (Sto.push Sto.empty (AObj.cells [AVal.str s])) (AObj.cells [AVal.slice (strv l) 1 (Tag.own 0)])) (AObj.cells [AVal.int IntKind.i64 fr])) (List.length (strv l))) 0 (List.length (strv l) + 1)) 1 (AObj.cells [AVal.slice (strv l ++ [AVal.str (List.take (Int.toNat (IntKind.wrap IntKind.i64 ((↑p : Int) + (1 : Int))) - Int.toNat (↑p : Int)) (List.drop (Int.toNat (↑p : Int)) s))]) 1 (Tag.own 0)])))))))) (brV (hold (decR s p == (32 : Int))) true (brV (hold (decide ((0 : Int) ≤ fr))) true (gb (isW (Sto.pushOwn (Sto.push (Sto.push (Sto.push Sto.empty (AObj.cells [AVal.str s])) (AObj.cells [AVal.slice (strv l) 1 (Tag.own 0)])) (AObj.cells [AVal.int IntKind.i64 fr])) (List.length (strv l))) s (strv l) fr && hold (decide (fr ≤ (↑p : Int) ∧ (↑p : Int) ≤ (↑(List.length s) : Int) ∧ List.length (strv l) ≤ 1000000))) (L (St.mk 91 [(1, AVal.ptr (Oid.out 0) 0), (4, AVal.ptr (Oid.out 1) 0), (5, AVal.ptr (Oid.out 2) 0), (6, AVal.bool q), (7, AVal.bool b), (8, AVal.func (Go.Fn.func 30) [] [AVal.ptr (Oid.out 2) 0, AVal.ptr (Oid.out 1) 0, AVal.ptr (Oid.out 0) 0]), (16, AVal.ptr (Oid.loc 16) 0)] [] [(16, AObj.siter s (p + decW s p))] (Sto.pushOwn (Sto.push (Sto.push (Sto.push Sto.empty (AObj.cells [AVal.str s])) (AObj.cells [AVal.slice (strv l ++ [AVal.str (cutW s fr (↑p : Int))]) 1 (Tag.own 0)])) (AObj.cells [AVal.int IntKind.i64 (-1 : Int)])) (List.length (strv l ++ [AVal.str (cutW s fr (↑p : Int))])))))) (gb (isW (Sto.pushOwn (Sto.push (Sto.push (Sto.push Sto.empty (AObj.cells [AVal.str s])) (AObj.cells [AVal.slice (strv l) 1 (Tag.own 0)])) (AObj.cells [AVal.int IntKind.i64 fr])) (List.length (strv l))) s (strv l) fr) (L (St.mk 91 [(1, AVal.ptr (Oid.out 0) 0), (4, AVal.ptr (Oid.out 1) 0), (5, AVal.ptr (Oid.out 2) 0), (6, AVal.bool q), (7, AVal.bool b), (8, AVal.func (Go.Fn.func 30) [] [AVal.ptr (Oid.out 2) 0, AVal.ptr (Oid.out 1) 0, AVal.ptr (Oid.out 0) 0]), (16, AVal.ptr (Oid.loc 16) 0)] [] [(16, AObj.siter s (p + decW s p))] (Sto.pushOwn (Sto.push (Sto.push (Sto.push Sto.empty (AObj.cells [AVal.str s])) (AObj.cells [AVal.slice (strv l) 1 (Tag.own 0)])) (AObj.cells [AVal.int IntKind.i64 fr])) (List.length (strv l))))))) (brV (hold (decide (fr < (0 : Int)))) true (L (St.mk 91 [(1, AVal.ptr (Oid.out 0) 0), (4, AVal.ptr (Oid.out 1) 0), (5, AVal.ptr (Oid.out 2) 0), (6, AVal.bool q), (7, AVal.bool b), (8, AVal.func (Go.Fn.func 30) [] [AVal.ptr (Oid.out 2) 0, AVal.ptr (Oid.out 1) 0, AVal.ptr (Oid.out 0) 0]), (16, AVal.ptr (Oid.loc 16) 0)] [] [(16, AObj.siter s (p + decW s p))] (Sto.set (Sto.pushOwn (Sto.push (Sto.push (Sto.push Sto.empty (AObj.cells [AVal.str s])) (AObj.cells [AVal.slice (strv l) 1 (Tag.own 0)])) (AObj.cells [AVal.int IntKind.i64 fr])) (List.length (strv l))) 2 (AObj.cells [AVal.int IntKind.i64 (↑p : Int)])))) (L (St.mk 91 [(1, AVal.ptr (Oid.out 0) 0), (4, AVal.ptr (Oid.out 1) 0), (5, AVal.ptr (Oid.out 2) 0), (6, AVal.bool q), (7, AVal.bool b), (8, AVal.func (Go.Fn.func 30) [] [AVal.ptr (Oid.out 2) 0, AVal.ptr (Oid.out 1) 0, AVal.ptr (Oid.out 0) 0]), (16, AVal.ptr (Oid.loc 16) 0)] [] [(16, AObj.siter s (p + decW s p))] (Sto.pushOwn (Sto.push (Sto.push (Sto.push Sto.empty (AObj.cells [AVal.str s])) (AObj.cells [AVal.slice (strv l) 1 (Tag.own 0)])) (AObj.cells [AVal.int IntKind.i64 fr])) (List.length (strv l))))))))) (brV (hold (signI (decR s p))) true (brV (hold (decide ((0 : Int) ≤ fr))) true (gb (isW (Sto.pushOwn (Sto.push (Sto.push (Sto.push Sto.empty (AObj.cells [AVal.str s])) (AObj.cells [AVal.slice (strv l) 1 (Tag.own 0)])) (AObj.cells [AVal.int IntKind.i64 fr])) (List.length (strv l))) s (strv l) fr && hold (decide (fr ≤ (↑p : Int) ∧ (↑p : Int) ≤ (↑(List.length s) : Int) ∧ List.length (strv l) ≤ 1000000))) (gb (decide ((0 : Int) ≤ (↑p : Int) ∧ (↑p : Int) ≤ IntKind.wrap IntKind.i64 ((↑p : Int) + (1 : Int)) ∧ IntKind.wrap IntKind.i64 ((↑p : Int) + (1 : Int)) ≤ (↑(List.length s) : Int))) (gb (decide (decide (true = true ∧ some (List.length (strv l ++ [AVal.str (cutW s fr (↑p : Int))])) = some (List.length (strv l ++ [AVal.str (cutW s fr (↑p : Int))])) ∧ (List.length (strv l ++ [AVal.str (cutW s fr (↑p : Int))]) + 1) * 16 ≤ 140737488355328 ∧ List.length (strv l ++ [AVal.str (cutW s fr (↑p : Int))]) + 1 ≤ 9223372036854775807) = true ∧ true = true)) (L (St.mk 91 [(1, AVal.ptr (Oid.out 0) 0), (4, AVal.ptr (Oid.out 1) 0), (5, AVal.ptr (Oid.out 2) 0), (6, AVal.bool q), (7, AVal.bool b), (8, AVal.func (Go.Fn.func 30) [] [AVal.ptr (Oid.out 2) 0, AVal.ptr (Oid.out 1) 0, AVal.ptr (Oid.out 0) 0]), (16, AVal.ptr (Oid.loc 16) 0)] [] [(16, AObj.siter s (p + decW s p))] (Sto.set (Sto.setOwn (Sto.pushOwn (Sto.push (Sto.push (Sto.push Sto.empty (AObj.cells [AVal.str s])) (AObj.cells [AVal.slice (strv l ++ [AVal.str (cutW s fr (↑p : Int))]) 1 (Tag.own 0)])) (AObj.cells [AVal.int IntKind.i64 (-1 : Int)])) (List.length (strv l ++ [AVal.str (cutW s fr (↑p : Int))]))) 0 (List.length (strv l ++ [AVal.str (cutW s fr (↑p : Int))]) + 1)) 1 (AObj.cells [AVal.slice (strv l ++ [AVal.str (cutW s fr (↑p : Int))] ++ [AVal.str (List.take (Int.toNat (IntKind.wrap IntKind.i64 ((↑p : Int) + (1 : Int))) - Int.toNat (↑p : Int)) (List.drop (Int.toNat (↑p : Int)) s))]) 1 (Tag.own 0)]))))))) (gb (isW (Sto.pushOwn (Sto.push (Sto.push (Sto.push Sto.empty (AObj.cells [AVal.str s])) (AObj.cells [AVal.slice (strv l) 1 (Tag.own 0)])) (AObj.cells [AVal.int IntKind.i64 fr])) (List.length (strv l))) s (strv l) fr) (gb (decide ((0 : Int) ≤ (↑p : Int) ∧ (↑p : Int) ≤ IntKind.wrap IntKind.i64 ((↑p : Int) + (1 : Int)) ∧ IntKind.wrap IntKind.i64 ((↑p : Int) + (1 : Int)) ≤ (↑(List.length s) : Int))) (gb (decide (decide (true = true ∧ some (List.length (strv l)) = some (List.length (strv l)) ∧ (List.length (strv l) + 1) * 16 ≤ 140737488355328 ∧ List.length (strv l) + 1 ≤ 9223372036854775807) = true ∧ true = true)) (L (St.mk 91 [(1, AVal.ptr (Oid.out 0) 0), (4, AVal.ptr (Oid.out 1) 0), (5, AVal.ptr (Oid.out 2) 0), (6, AVal.bool q), (7, AVal.bool b), (8, AVal.func (Go.Fn.func 30) [] [AVal.ptr (Oid.out 2) 0, AVal.ptr (Oid.out 1) 0, AVal.ptr (Oid.out 0) 0]), (16, AVal.ptr (Oid.loc 16) 0)] [] [(16, AObj.siter s (p + decW s p))] (Sto.set (Sto.setOwn (Sto.pushOwn (Sto.push (Sto.push (Sto.push Sto.empty (AObj.cells [AVal.str s])) (AObj.cells [AVal.slice (strv l) 1 (Tag.own 0)])) (AObj.cells [AVal.int IntKind.i64 fr])) (List.length (strv l))) 0 (List.length (strv l) + 1)) 1 (AObj.cells [AVal.slice (strv l ++ [AVal.str (List.take (Int.toNat (IntKind.wrap IntKind.i64 ((↑p : Int) + (1 : Int))) - Int.toNat (↑p : Int)) (List.drop (Int.toNat (↑p : Int)) s))]) 1 (Tag.own 0)])))))))) (brV (hold (decR s p == (32 : Int))) true (brV (hold (decide ((0 : Int) ≤ fr))) true (gb (isW (Sto.pushOwn (Sto.push (Sto.push (Sto.push Sto.empty (AObj.cells [AVal.str s])) (AObj.cells [AVal.slice (strv l) 1 (Tag.own 0)])) (AObj.cells [AVal.int IntKind.i64 fr])) (List.length (strv l))) s (strv l) fr && hold (decide (fr ≤ (↑p : Int) ∧ (↑p : Int) ≤ (↑(List.length s) : Int) ∧ List.length (strv l) ≤ 1000000))) (L (St.mk 91 [(1, AVal.ptr (Oid.out 0) 0), (4, AVal.ptr (Oid.out 1) 0), (5, AVal.ptr (Oid.out 2) 0), (6, AVal.bool q), (7, AVal.bool b), (8, AVal.func (Go.Fn.func 30) [] [AVal.ptr (Oid.out 2) 0, AVal.ptr (Oid.out 1) 0, AVal.ptr (Oid.out 0) 0]), (16, AVal.ptr (Oid.loc 16) 0)] [] [(16, AObj.siter s (p + decW s p))] (Sto.pushOwn (Sto.push (Sto.push (Sto.push Sto.empty (AObj.cells [AVal.str s])) (AObj.cells [AVal.slice (strv l ++ [AVal.str (cutW s fr (↑p : Int))]) 1 (Tag.own 0)])) (AObj.cells [AVal.int IntKind.i64 (-1 : Int)])) (List.length (strv l ++ [AVal.str (cutW s fr (↑p : Int))])))))) (gb (isW (Sto.pushOwn (Sto.push (Sto.push (Sto.push Sto.empty (AObj.cells [AVal.str s])) (AObj.cells [AVal.slice (strv l) 1 (Tag.own 0)])) (AObj.cells [AVal.int IntKind.i64 fr])) (List.length (strv l))) s (strv l) fr) (L (St.mk 91 [(1, AVal.ptr (Oid.out 0) 0), (4, AVal.ptr (Oid.out 1) 0), (5, AVal.ptr (Oid.out 2) 0), (6, AVal.bool q), (7, AVal.bool b), (8, AVal.func (Go.Fn.func 30) [] [AVal.ptr (Oid.out 2) 0, AVal.ptr (Oid.out 1) 0, AVal.ptr (Oid.out 0) 0]), (16, AVal.ptr (Oid.loc 16) 0)] [] [(16, AObj.siter s (p + decW s p))] (Sto.pushOwn (Sto.push (Sto.push (Sto.push Sto.empty (AObj.cells [AVal.str s])) (AObj.cells [AVal.slice (strv l) 1 (Tag.own 0)])) (AObj.cells [AVal.int IntKind.i64 fr])) (List.length (strv l))))))) (brV (hold (decide (fr < (0 : Int)))) true (L (St.mk 91 [(1, AVal.ptr (Oid.out 0) 0), (4, AVal.ptr (Oid.out 1) 0), (5, AVal.ptr (Oid.out 2) 0), (6, AVal.bool q), (7, AVal.bool b), (8, AVal.func (Go.Fn.func 30) [] [AVal.ptr (Oid.out 2) 0, AVal.ptr (Oid.out 1) 0, AVal.ptr (Oid.out 0) 0]), (16, AVal.ptr (Oid.loc 16) 0)] [] [(16, AObj.siter s (p + decW s p))] (Sto.set (Sto.pushOwn (Sto.push (Sto.push (Sto.push Sto.empty (AObj.cells [AVal.str s])) (AObj.cells [AVal.slice (strv l) 1 (Tag.own 0)])) (AObj.cells [AVal.int IntKind.i64 fr])) (List.length (strv l))) 2 (AObj.cells [AVal.int IntKind.i64 (↑p : Int)])))) (L (St.mk 91 [(1, AVal.ptr (Oid.out 0) 0), (4, AVal.ptr (Oid.out 1) 0), (5, AVal.ptr (Oid.out 2) 0), (6, AVal.bool q), (7, AVal.bool b), (8, AVal.func (Go.Fn.func 30) [] [AVal.ptr (Oid.out 2) 0, AVal.ptr (Oid.out 1) 0, AVal.ptr (Oid.out 0) 0]), (16, AVal.ptr (Oid.loc 16) 0)] [] [(16, AObj.siter s (p + decW s p))] (Sto.pushOwn (Sto.push (Sto.push (Sto.push Sto.empty (AObj.cells [AVal.str s])) (AObj.cells [AVal.slice (strv l) 1 (Tag.own 0)])) (AObj.cells [AVal.int IntKind.i64 fr])) (List.length (strv l))))))))))) (K (Exit.exit 0) (St.mk 91 [(1, AVal.ptr (Oid.out 0) 0), (4, AVal.ptr (Oid.out 1) 0), (5, AVal.ptr (Oid.out 2) 0), (6, AVal.bool q), (7, AVal.bool b), (8, AVal.func (Go.Fn.func 30) [] [AVal.ptr (Oid.out 2) 0, AVal.ptr (Oid.out 1) 0, AVal.ptr (Oid.out 0) 0]), (16, AVal.ptr (Oid.loc 16) 0), (17, AVal.tuple [AVal.bool false]), (18, AVal.bool false)] [] [(16, AObj.siter s p)] (Sto.pushOwn (Sto.push (Sto.push (Sto.push Sto.empty (AObj.cells [AVal.str s])) (AObj.cells [AVal.slice (strv l) 1 (Tag.own 0)])) (AObj.cells [AVal.int IntKind.i64 fr])) (List.length (strv l)))))) := by kernel_rfl
noncomputable def wordsF_S (s : Txt) (l : List Txt) (fr : Int) (q : Bool) : St := St.mk 91 [(1, .ptr (.out 0) 0), (4, .ptr (.out 1) 0), (6, .bool q), (8, .func (.func 30) [] [.ptr (.out 2) 0, .ptr (.out 1) 0, .ptr (.out 0) 0])] [] [] (wst s (strv l) fr)
noncomputable abbrev wordsF_C : Code := code_13_1_1_1_1_1_1
theorem wordsF_r (s : Txt) (l : List Txt) (fr : Int) (q : Bool) (Q : AVal → Sto → Prop) : vc Tryd.prog cWords code_13_1_1_1_1_1_1 (endK Tryd.prog Tryd.f13.results.toList Q) (St.mk 91 [(1, .ptr (.out 0) 0), (4, .ptr (.out 1) 0), (6, .bool q), (8, .func (.func 30) [] [.ptr (.out 2) 0, .ptr (.out 1) 0, .ptr (.out 0) 0])] [] [] (wst s (strv l) fr)) =
  (brV (hold (decide ((0 : Int) ≤ fr))) true (gb (isW (Sto.pushOwn (Sto.push (Sto.push (Sto.push Sto.empty (AObj.cells [AVal.str s])) (AObj.cells [AVal.slice (strv l) 1 (Tag.own 0)])) (AObj.cells [AVal.int IntKind.i64 fr])) (List.length (strv l))) s (strv l) fr && hold (decide (fr ≤ (↑(List.length s) : Int) ∧ (↑(List.length s) : Int) ≤ (↑(List.length s) : Int) ∧ List.length (strv l) ≤ 1000000))) (brV q false (gb (List.all (strv l ++ [AVal.str (cutW s fr (↑(List.length s) : Int))]) strIs && (lenL (List.length (strv l ++ [AVal.str (cutW s fr (↑(List.length s) : Int))])) && List.all (strv l ++ [AVal.str (cutW s fr (↑(List.length s) : Int))]) txtOk)) (brV (hold (List.any (List.map AVal.strOf (strv l ++ [AVal.str (cutW s fr (↑(List.length s) : Int))])) fun (x : List UInt8) ↦ !goodW x)) false (gb (lenL (List.length s)) (brV (hold !validT s == s) true (Q (AVal.tuple [AVal.slice [] 0 Tag.nil, AVal.int IntKind.i64 (10 : Int)]) (Sto.pushOwn (Sto.push (Sto.push (Sto.push Sto.empty (AObj.cells [AVal.str s])) (AObj.cells [AVal.slice (strv l ++ [AVal.str (cutW s fr (↑(List.length s) : Int))]) 1 (Tag.own 0)])) (AObj.cells [AVal.int IntKind.i64 (-1 : Int)])) (List.length (strv l ++ [AVal.str (cutW s fr (↑(List.length s) : Int))])))) (Q (AVal.tuple [AVal.slice (strv l ++ [AVal.str (cutW s fr (↑(List.length s) : Int))]) 1 (Tag.own 0), AVal.int IntKind.i64 (0 : Int)]) (Sto.pushOwn (Sto.push (Sto.push (Sto.push Sto.empty (AObj.cells [AVal.str s])) (AObj.cells [AVal.slice (strv l ++ [AVal.str (cutW s fr (↑(List.length s) : Int))]) 1 (Tag.own 0)])) (AObj.cells [AVal.int IntKind.i64 (-1 : Int)])) (List.length (strv l ++ [AVal.str (cutW s fr (↑(List.length s) : Int))])))))) (Q (AVal.tuple [AVal.slice [] 0 Tag.nil, AVal.int IntKind.i64 (10 : Int)]) (Sto.pushOwn (Sto.push (Sto.push (Sto.push Sto.empty (AObj.cells [AVal.str s])) (AObj.cells [AVal.slice (strv l ++ [AVal.str (cutW s fr (↑(List.length s) : Int))]) 1 (Tag.own 0)])) (AObj.cells [AVal.int IntKind.i64 (-1 : Int)])) (List.length (strv l ++ [AVal.str (cutW s fr (↑(List.length s) : Int))])))))) (Q (AVal.tuple [AVal.slice [] 0 Tag.nil, AVal.int IntKind.i64 (10 : Int)]) (Sto.pushOwn (Sto.push (Sto.push (Sto.push Sto.empty (AObj.cells [AVal.str s])) (AObj.cells [AVal.slice (strv l ++ [AVal.str (cutW s fr (↑(List.length s) : Int))]) 1 (Tag.own 0)])) (AObj.cells [AVal.int IntKind.i64 (-1 : Int)])) (List.length (strv l ++ [AVal.str (cutW s fr (↑(List.length s) : Int))])))))) (gb (isW (Sto.pushOwn (Sto.push (Sto.push (Sto.push Sto.empty (AObj.cells [AVal.str s])) (AObj.cells [AVal.slice (strv l) 1 (Tag.own 0)])) (AObj.cells [AVal.int IntKind.i64 fr])) (List.length (strv l))) s (strv l) fr) (brV q false (gb (List.all (strv l) strIs && (lenL (List.length (strv l)) && List.all (strv l) txtOk)) (brV (hold (List.any (List.map AVal.strOf (strv l)) fun (x : List UInt8) ↦ !goodW x)) false (gb (lenL (List.length s)) (brV (hold !validT s == s) true (Q (AVal.tuple [AVal.slice [] 0 Tag.nil, AVal.int IntKind.i64 (10 : Int)]) (Sto.pushOwn (Sto.push (Sto.push (Sto.push Sto.empty (AObj.cells [AVal.str s])) (AObj.cells [AVal.slice (strv l) 1 (Tag.own 0)])) (AObj.cells [AVal.int IntKind.i64 fr])) (List.length (strv l)))) (Q (AVal.tuple [AVal.slice (strv l) 1 (Tag.own 0), AVal.int IntKind.i64 (0 : Int)]) (Sto.pushOwn (Sto.push (Sto.push (Sto.push Sto.empty (AObj.cells [AVal.str s])) (AObj.cells [AVal.slice (strv l) 1 (Tag.own 0)])) (AObj.cells [AVal.int IntKind.i64 fr])) (List.length (strv l)))))) (Q (AVal.tuple [AVal.slice [] 0 Tag.nil, AVal.int IntKind.i64 (10 : Int)]) (Sto.pushOwn (Sto.push (Sto.push (Sto.push Sto.empty (AObj.cells [AVal.str s])) (AObj.cells [AVal.slice (strv l) 1 (Tag.own 0)])) (AObj.cells [AVal.int IntKind.i64 fr])) (List.length (strv l)))))) (Q (AVal.tuple [AVal.slice [] 0 Tag.nil, AVal.int IntKind.i64 (10 : Int)]) (Sto.pushOwn (Sto.push (Sto.push (Sto.push Sto.empty (AObj.cells [AVal.str s])) (AObj.cells [AVal.slice (strv l) 1 (Tag.own 0)])) (AObj.cells [AVal.int IntKind.i64 fr])) (List.length (strv l))))))) := by kernel_rfl
end Go.Proofs.YtcijjgfadkflmaaDoor
end

section
set_option maxRecDepth 100000
set_option maxHeartbeats 0
set_option linter.unusedVariables false
namespace Go.Proofs.YtcijjgfadkflmaaDoor
open Go.AL Go.Proofs
noncomputable def cSign : Cfg := { keep := [0, 2, 3, 4], cut := [] }
noncomputable def cGood : Cfg := { keep := [0, 2, 3, 4, 18], cut := [], orc := ofList [signE, Lt.rightE, V.readE] }
noncomputable def cWords2 : Cfg := { keep := [0, 2], cut := [], orc := ofList [goodE] }
noncomputable def cSide : Cfg := { keep := [0, 2, 3], cut := [] }
noncomputable def cAnyLabel : Cfg := { keep := [0, 2, 4], cut := [] }
noncomputable def cIndexG : Cfg := { keep := [0, 1, 4, 5, 7, 8, 9, 16], cut := [(5, [0, 1, 7, 8], [])], orc := ofList [words2E] }
noncomputable def cContainsG : Cfg := { keep := [0, 1, 4], cut := [], orc := ofList [indexGE] }
noncomputable def code_20_ : Code := (Tryd.f20.body).getD .skip
noncomputable def code_21_ : Code := (Tryd.f21.body).getD .skip
noncomputable def code_31_ : Code := (Tryd.f31.body).getD .skip
noncomputable def code_32_ : Code := (Tryd.f32.body).getD .skip
noncomputable def code_33_ : Code := (Tryd.f33.body).getD .skip
noncomputable def code_34_ : Code := (Tryd.f34.body).getD .skip
noncomputable def code_47_ : Code := (Tryd.f47.body).getD .skip
noncomputable def code_47_1_1 : Code := codeAt code_47_ [1, 1]
noncomputable def code_47_1_0_1_0_0 : Code := codeAt code_47_ [1, 0, 1, 0, 0]
theorem sign_i (r : Int) (Q : AVal → Sto → Prop) (ho : OrcOk Tryd.prog cSign) (h : brV (hold (r == (123 : Int))) true (brV (hold (r == (123 : Int))) true (Q (AVal.bool true) Sto.empty) (Q (AVal.bool false) Sto.empty)) (brV (hold (r == (125 : Int))) true (brV (hold (r == (125 : Int))) true (Q (AVal.bool true) Sto.empty) (Q (AVal.bool false) Sto.empty)) (brV (hold (r == (40 : Int))) true (brV (hold (r == (40 : Int))) true (Q (AVal.bool true) Sto.empty) (Q (AVal.bool false) Sto.empty)) (brV (hold (r == (41 : Int))) true (brV (hold (r == (41 : Int))) true (Q (AVal.bool true) Sto.empty) (Q (AVal.bool false) Sto.empty)) (brV (hold (r == (61 : Int))) true (brV (hold (r == (61 : Int))) true (Q (AVal.bool true) Sto.empty) (Q (AVal.bool false) Sto.empty)) (brV (hold (r == (62 : Int))) true (Q (AVal.bool true) Sto.empty) (Q (AVal.bool false) Sto.empty))))))) : ACall Tryd.prog 31 [.int .i32 r] (Sto.empty) Q :=
  ACall.intro hmix Tryd.func31 (c := code_31_) (by kernel_rfl) cSign ho (Nat.le_of_ble_eq_true (by kernel_rfl)) (Eq.mpr (by kernel_rfl) h)
theorem good_i (s : Txt) (Q : AVal → Sto → Prop) (ho : OrcOk Tryd.prog cGood) (h : brV (hold ((↑(List.length s) : Int) == (1 : Int))) true (gb (decide ((0 : Int) ≤ (0 : Int) ∧ (0 : Int) < (↑(List.length s) : Int))) (brV (hold (signI (IntKind.wrap IntKind.i32 (↑(UInt8.toNat (List.getD s 0 (0 : UInt8))) : Int)))) false (gb (List.all [AVal.str s] strIs && (Lt.lenOk 1 && List.all [AVal.str s] Lt.strOk)) (brV (hold (List.all [s] nameT)) true (Q (AVal.bool true) Sto.empty) (∀ (y : Option Vl), y = readV s → ∀ (y_1 : Vl), y_1 = Option.getD y (Vl.mk (0 : Int) (0 : Int) []) → gb (V.lenT s) (brV (hold ((if Option.isSome y = true then (0 : Int) else (10 : Int)) == (0 : Int))) true (brV (hold (Vl.k y_1 == (1 : Int))) false (Q (AVal.bool (hold (Vl.k y_1 == (2 : Int)))) Sto.empty) (Q (AVal.bool true) Sto.empty)) (Q (AVal.bool false) Sto.empty))))) (Q (AVal.bool true) Sto.empty))) (gb (List.all [AVal.str s] strIs && (Lt.lenOk 1 && List.all [AVal.str s] Lt.strOk)) (brV (hold (List.all [s] nameT)) true (Q (AVal.bool true) Sto.empty) (∀ (y : Option Vl), y = readV s → ∀ (y_1 : Vl), y_1 = Option.getD y (Vl.mk (0 : Int) (0 : Int) []) → gb (V.lenT s) (brV (hold ((if Option.isSome y = true then (0 : Int) else (10 : Int)) == (0 : Int))) true (brV (hold (Vl.k y_1 == (1 : Int))) false (Q (AVal.bool (hold (Vl.k y_1 == (2 : Int)))) Sto.empty) (Q (AVal.bool true) Sto.empty)) (Q (AVal.bool false) Sto.empty)))))) : ACall Tryd.prog 34 [.str s] (Sto.empty) Q :=
  ACall.intro hmix Tryd.func34 (c := code_34_) (by kernel_rfl) cGood ho (Nat.le_of_ble_eq_true (by kernel_rfl)) (Eq.mpr (by kernel_rfl) h)
theorem words2_i (s : Txt) (Q : AVal → Sto → Prop) (ho : OrcOk Tryd.prog cWords2) (h : gb (lenL (List.length s)) (Q (AVal.bool !hold ((match s with | [c] => signI (↑(UInt8.toNat c) : Int) | x => false) || nameT s || Option.isSome (readV s))) Sto.empty)) : ACall Tryd.prog 33 [.str s] (Sto.empty) Q :=
  ACall.intro hmix Tryd.func33 (c := code_33_) (by kernel_rfl) cWords2 ho (Nat.le_of_ble_eq_true (by kernel_rfl)) (Eq.mpr (by kernel_rfl) h)
theorem side_i (b : Bool) (Q : AVal → Sto → Prop) (ho : OrcOk Tryd.prog cSide) (h : brV b true (Q (AVal.str [(101 : UInt8), (100 : UInt8), (103 : UInt8), (101 : UInt8)]) Sto.empty) (Q (AVal.str [(118 : UInt8), (101 : UInt8), (114 : UInt8), (116 : UInt8), (101 : UInt8), (120 : UInt8)]) Sto.empty)) : ACall Tryd.prog 20 [.bool b] (Sto.empty) Q :=
  ACall.intro hmix Tryd.func20 (c := code_20_) (by kernel_rfl) cSide ho (Nat.le_of_ble_eq_true (by kernel_rfl)) (Eq.mpr (by kernel_rfl) h)
theorem anyLabel_i (s : Txt) (Q : AVal → Sto → Prop) (ho : OrcOk Tryd.prog cAnyLabel) (h : brV (hold (s == [])) true (Q (AVal.str [(62 : UInt8)]) Sto.empty) (Q (AVal.str s) Sto.empty)) : ACall Tryd.prog 21 [.str s] (Sto.empty) Q :=
  ACall.intro hmix Tryd.func21 (c := code_21_) (by kernel_rfl) cAnyLabel ho (Nat.le_of_ble_eq_true (by kernel_rfl)) (Eq.mpr (by kernel_rfl) h)
theorem indexG_i (l : List Txt) (Q : AVal → Sto → Prop) (ho : OrcOk Tryd.prog cIndexG) (h : loopV (fun s => St.norm [] [0, 1, 7, 8] [] s) (vc Tryd.prog cIndexG code_47_1_0_1_0_0) (blockK 0 (thenK (vc Tryd.prog cIndexG code_47_1_1 (endK Tryd.prog (Array.toList (Go.Func.results Tryd.f47)) Q)) (endK Tryd.prog (Array.toList (Go.Func.results Tryd.f47)) Q))) (St.mk 19 [(0, AVal.slice (strv l) 1 Tag.ro), (1, AVal.func (Go.Fn.func 33) [] []), (7, AVal.int IntKind.i64 (↑(List.length (strv l)) : Int)), (8, AVal.int IntKind.i64 (0 : Int))] [] [] Sto.empty)) : ACall Tryd.prog 47 [.slice (strv l) 1 .ro, .func (.func 33) [] []] (Sto.empty) Q :=
  ACall.intro hmix Tryd.func47 (c := code_47_) (by kernel_rfl) cIndexG ho (Nat.le_of_ble_eq_true (by kernel_rfl)) (Eq.mpr (by kernel_rfl) h)
noncomputable def indexGL_S (l : List Txt) (n i : Nat) : St := St.mk 19 [(0, .slice (strv l) 1 .ro), (1, .func (.func 33) [] []), (7, .int .i64 (n : Int)), (8, .int .i64 (i : Int))] [] [] (Sto.empty)
noncomputable abbrev indexGL_C : Code := code_47_1_0_1_0_0
theorem indexGL_r (l : List Txt) (n i : Nat) (L : St → Prop) (K : Exit → St → Prop) : vc Tryd.prog cIndexG code_47_1_0_1_0_0 (thenK (fun s => L (St.norm [] [0, 1, 7, 8] [] s)) K) (St.mk 19 [(0, .slice (strv l) 1 .ro), (1, .func (.func 33) [] []), (7, .int .i64 (n : Int)), (8, .int .i64 (i : Int))] [] [] (Sto.empty)) =
  (brV (hold (decide ((↑i : Int) < (↑n : Int)))) true (gb (decide ((0 : Int) ≤ (↑i : Int) ∧ (↑i : Int) < (↑(List.length (strv l)) : Int))) (gb (decide (1 ≤ List.length (elemAt (strv l) (↑i : Int)) ∧ 0 < 1) && etaOk Sh.str (List.getD (elemAt (strv l) (↑i : Int)) 0 AVal.undef)) (gb (lenL (List.length (AVal.strOf (List.getD (elemAt (strv l) (↑i : Int)) 0 AVal.undef)))) (brV (hold !((match AVal.strOf (List.getD (elemAt (strv l) (↑i : Int)) 0 AVal.undef) with | [c] => signI (↑(UInt8.toNat c) : Int) | x => false) || nameT (AVal.strOf (List.getD (elemAt (strv l) (↑i : Int)) 0 AVal.undef)) || Option.isSome (readV (AVal.strOf (List.getD (elemAt (strv l) (↑i : Int)) 0 AVal.undef))))) true (K Exit.ret (St.mk 19 [(0, AVal.slice (strv l) 1 Tag.ro), (1, AVal.func (Go.Fn.func 33) [] []), (7, AVal.int IntKind.i64 (↑n : Int)), (8, AVal.int IntKind.i64 (↑i : Int)), (9, AVal.bool (hold (decide ((↑i : Int) < (↑n : Int))))), (5, AVal.int IntKind.i64 (↑i : Int)), (16, AVal.bool (hold !((match AVal.strOf (List.getD (elemAt (strv l) (↑i : Int)) 0 AVal.undef) with | [c] => signI (↑(UInt8.toNat c) : Int) | x => false) || nameT (AVal.strOf (List.getD (elemAt (strv l) (↑i : Int)) 0 AVal.undef)) || Option.isSome (readV (AVal.strOf (List.getD (elemAt (strv l) (↑i : Int)) 0 AVal.undef)))))), (4, AVal.int IntKind.i64 (↑i : Int))] [] [] Sto.empty)) (L (St.mk 19 [(0, AVal.slice (strv l) 1 Tag.ro), (1, AVal.func (Go.Fn.func 33) [] []), (7, AVal.int IntKind.i64 (↑n : Int)), (8, AVal.int IntKind.i64 (IntKind.wrap IntKind.i64 ((↑i : Int) + (1 : Int))))] [] [] Sto.empty)))))) (K (Exit.exit 0) (St.mk 19 [(0, AVal.slice (strv l) 1 Tag.ro), (1, AVal.func (Go.Fn.func 33) [] []), (7, AVal.int IntKind.i64 (↑n : Int)), (8, AVal.int IntKind.i64 (↑i : Int)), (9, AVal.bool (hold (decide ((↑i : Int) < (↑n : Int)))))] [] [] Sto.empty))) := by kernel_rfl
theorem containsG_i (l : List Txt) (Q : AVal → Sto → Prop) (ho : OrcOk Tryd.prog cContainsG) (h : ∀ (y : Int), y = idxG (fun (x : Txt) ↦ !goodW x) (List.map AVal.strOf (strv l)) → gb (List.all (strv l) strIs && (lenL (List.length (strv l)) && List.all (strv l) txtOk)) (Q (AVal.bool (hold (decide ((0 : Int) ≤ y)))) Sto.empty)) : ACall Tryd.prog 32 [.slice (strv l) 1 .ro, .func (.func 33) [] []] (Sto.empty) Q :=
  ACall.intro hmix Tryd.func32 (c := code_32_) (by kernel_rfl) cContainsG ho (Nat.le_of_ble_eq_true (by kernel_rfl)) (Eq.mpr (by kernel_rfl) h)
end Go.Proofs.YtcijjgfadkflmaaDoor
end

section
namespace Go.AL
set_option linter.unusedSimpArgs false
theorem w_set1 (a b c d : AObj) (n : Nat) : (Sto.pushOwn (Sto.push (Sto.push (Sto.push Sto.empty a) b) c) n).set 1 d = Sto.pushOwn (Sto.push (Sto.push (Sto.push Sto.empty a) d) c) n := by
  simp only [Sto.set, Sto.pushOwn, Sto.push, Sto.empty, Sto.mk.injEq, true_and, and_true]
  refine ⟨?_, rfl⟩
  funext k
  by_cases h1 : k = 1
  · subst h1; simp
  · by_cases h2 : k = 2
    · subst h2; simp
    · simp [h1, h2]
theorem w_set2 (a b c d : AObj) (n : Nat) : (Sto.pushOwn (Sto.push (Sto.push (Sto.push Sto.empty a) b) c) n).set 2 d = Sto.pushOwn (Sto.push (Sto.push (Sto.push Sto.empty a) b) d) n := by
  simp only [Sto.set, Sto.pushOwn, Sto.push, Sto.empty, Sto.mk.injEq, true_and, and_true]
  refine ⟨?_, rfl⟩
  funext k
  by_cases h2 : k = 2
  · subst h2; simp
  · simp [h2]
theorem w_own (a b c : AObj) (n m : Nat) : (Sto.pushOwn (Sto.push (Sto.push (Sto.push Sto.empty a) b) c) n).setOwn 0 m = Sto.pushOwn (Sto.push (Sto.push (Sto.push Sto.empty a) b) c) m := by
  simp only [Sto.setOwn, Sto.pushOwn, Sto.push, Sto.empty, Sto.mk.injEq, true_and]
  funext q; split <;> simp_all
theorem w_start (a b c d : AObj) (n : Nat) : ((Sto.push (Sto.push (Sto.push Sto.empty a) b) c).set 2 d).pushOwn n = Sto.pushOwn (Sto.push (Sto.push (Sto.push Sto.empty a) b) d) n := w_set2 a b c d n
end Go.AL
namespace Go.Proofs.YtcijjgfadkflmaaDoor
open Go.AL
set_option linter.unusedSimpArgs false
set_option linter.unusedVariables false
set_option maxHeartbeats 2000000
set_option maxRecDepth 20000
theorem bool_wk {b c : Bool} (h : b = true ↔ c = true) : Wk (.bool b) (.bool c) := by rw [Bool.eq_iff_iff.2 h]; exact Wk.refl _
theorem bool_wk' {b : Bool} {p : Prop} [Decidable p] (h : b = true ↔ p) : Wk (.bool b) (.bool (decide p)) := bool_wk (by rw [decide_eq_true_eq]; exact h)
theorem sign_ok : EntOk Tryd.prog signE := by
  intro xs σ; simp only [signE]; split
  · rename_i r
    intro _
    refine pcall_of (.refl _) (sign_i r _ (.of_none rfl) ?_) rfl rfl rfl rfl
    simp only [hold_eq, signI]
    repeat' (first | refine brV_by (fun h => ?_) (fun h => ?_) | refine brV_by' (fun h => ?_) (fun h => ?_))
    all_goals
      refine bool_wk' ?_
      simp only [decide_eq_true_eq, decide_eq_false_iff_not, beq_iff_eq, beq_eq_false_iff_ne, ne_eq, Bool.false_eq_true, false_iff, true_iff] at *
      omega
  · trivial
theorem readV_kind {s : Txt} {v : Vl} (h : readV s = some v) : v.k = 1 ∨ v.k = 2 := by
  unfold readV at h
  repeat' (first | (cases h; done) | (cases h; exact .inl rfl) | (cases h; exact .inr rfl) | split at h)
theorem good_c (s : Txt) (hs : s.length ≤ 1000000) : ACall Tryd.prog 34 [.str s] Sto.empty fun r _ => Wk r (.bool (goodW s)) := by
  refine good_i s _ (.of [signE, Lt.rightE, V.readE] rfl ⟨sign_ok, Lt.right_ok, V.read_ok, trivial⟩) ?_
  have e1 : Lt.strOk (.str s) = true := Lt.lenT_mk hs
  have e2 : strIs (.str s) = true := rfl
  have e3 : Lt.lenOk 1 = true := Lt.lenOk_mk (by omega)
  have rest : ∀ c : Bool, goodW s = (c || nameT s || (readV s).isSome) → c = false → gb (List.all [AVal.str s] strIs && (Lt.lenOk 1 && List.all [AVal.str s] Lt.strOk)) (brV (List.all [s] nameT) true (Wk (.bool true) (.bool (goodW s))) (∀ (y : Option Vl), y = readV s → ∀ (y_1 : Vl), y_1 = Option.getD y (Vl.mk (0 : Int) (0 : Int) []) → gb (V.lenT s) (brV ((if Option.isSome y = true then (0 : Int) else (10 : Int)) == (0 : Int)) true (brV (Vl.k y_1 == (1 : Int)) false (Wk (.bool (Vl.k y_1 == (2 : Int))) (.bool (goodW s))) (Wk (.bool true) (.bool (goodW s)))) (Wk (.bool false) (.bool (goodW s)))))) := by
    intro c hc hf
    have hg : goodW s = (nameT s || (readV s).isSome) := by
      rw [hc, hf, Bool.false_or]
    refine gb_by (by simp [e1, e2, e3]) ?_
    rw [hg]
    have ha : List.all [s] nameT = nameT s := by simp
    rw [ha]
    refine brV_by (fun h => ?_) (fun h => ?_)
    · rw [h]; exact Wk.refl _
    · intro y hy z hz
      refine gb_by (V.lenT_mk hs) ?_
      rw [h, ← hy]
      cases y with
      | none => exact brF rfl (Wk.refl _)
      | some v =>
        refine brT rfl ?_
        have hk := readV_kind hy.symm
        have hz : z = v := hz
        subst hz
        refine brV_by' (fun h => ?_) (fun h => ?_)
        · have h : ¬ z.k = 1 := by simpa using h
          have : (z.k == 2) = true := by simp; omega
          rw [this]; exact Wk.refl _
        · exact Wk.refl _
  simp only [hold_eq]
  cases s with
  | nil =>
    refine brF (by simp) ?_
    exact rest false rfl rfl
  | cons c t =>
    cases t with
    | nil =>
      refine brT (by simp) (gb_by (by simp) ?_)
      have hw : IntKind.i32.wrap (↑(UInt8.toNat (List.getD [c] 0 (0 : UInt8))) : Int) = (c.toNat : Int) := by
        have := c.toNat_lt
        show IntKind.i32.wrap (c.toNat : Int) = _
        rw [IntKind.wrap_i32]
        omega
      rw [hw]
      refine brV_by' (fun h => ?_) (fun h => ?_)
      · exact rest _ rfl h
      · have : goodW [c] = true := by simp [goodW, h]
        rw [this]; exact Wk.refl _
    | cons d r =>
      refine brF (by simp; omega) ?_
      exact rest false rfl rfl
theorem good_ok : EntOk Tryd.prog goodE := by
  intro xs σ; simp only [goodE]; split
  · rename_i s
    intro hc
    exact pcall_of (.refl _) (by rw [hold_eq]; exact good_c s (lenL_of hc)) rfl rfl rfl rfl
  · trivial
theorem words2_ok : EntOk Tryd.prog words2E := by
  intro xs σ; simp only [words2E]; split
  · rename_i s
    intro hc
    refine pcall_of (.refl _) (words2_i s _ (.of [goodE] rfl ⟨good_ok, trivial⟩) (gb_by hc ?_)) rfl rfl rfl rfl
    show Wk (.bool !hold (goodW s)) (.bool (hold (!goodW s)))
    rw [hold_eq, hold_eq]; exact Wk.refl _
  · trivial
theorem side_ok : EntOk Tryd.prog sideE := by
  intro xs σ; simp only [sideE]; split
  · rename_i b
    intro _
    refine pcall_of (.refl _) (side_i b _ (.of_none rfl) ?_) rfl rfl rfl rfl
    cases b
    · exact Wk.refl _
    · exact Wk.refl _
  · trivial
theorem anyLabel_ok : EntOk Tryd.prog anyLabelE := by
  intro xs σ; simp only [anyLabelE]; split
  · rename_i s
    intro _
    refine pcall_of (.refl _) (anyLabel_i s _ (.of_none rfl) ?_) rfl rfl rfl rfl
    simp only [hold_eq, labelW]
    refine brV_by (fun h => ?_) (fun h => ?_)
    · rw [if_pos (eq_of_beq h)]; exact Wk.refl _
    · rw [if_neg (by simpa using h)]; exact Wk.refl _
  · trivial
theorem indexG_c (l : List Txt) (hl : okL l) : ACall Tryd.prog 47 [.slice (strv l) 1 .ro, .func (.func 33) [] []] Sto.empty fun r _ => Wk r (.int .i64 (idxG (fun x => !goodW x) l)) := by
  refine indexG_i l _ (.of [words2E] rfl ⟨words2_ok, trivial⟩) ?_
  have hn : (strv l).length = l.length := strv_length l
  have hl1 := hl.1
  refine loopV_intro (α := Nat) (fun i => indexGL_S l (strv l).length i) (fun i => i ≤ l.length ∧ ∀ j (h : j < l.length), j < i → goodW l[j] = true) (fun i => l.length - i) ?_ 0 ⟨Nat.zero_le _, fun j _ h => by omega⟩
  rintro i ⟨hi, hg⟩ L hL
  refine Eq.mpr (indexGL_r l (strv l).length i L _) ?_
  simp only [hold_eq, hn]
  by_cases h : i < l.length
  · refine brT (dt (by omega)) (gb_by (dt ⟨by omega, by omega⟩) ?_)
    have he : elemAt (strv l) (i : Int) = [.str l[i]] := elemAt_strv l i h
    rw [he]
    refine gb_by rfl (gb_by (lenL_mk (hl.2 _ (List.getElem_mem h))) ?_)
    show brV (!goodW l[i]) true _ _
    refine brV_by (fun hb => ?_) (fun hb => ?_)
    · have hb : goodW l[i] = false := by simpa using hb
      have : idxG (fun x => !goodW x) l = (i : Int) := by
        unfold idxG
        have h1 : l.any (fun x => !goodW x) = true := List.any_eq_true.2 ⟨l[i], List.getElem_mem h, by simp [hb]⟩
        rw [if_pos h1]
        congr 1
        exact (List.findIdx_eq h).2 ⟨by simp [hb], fun j hj => by simp [hg j (by omega) hj]⟩
      rw [this]
      exact Wk.refl _
    · have hb : goodW l[i] = true := by simpa using hb
      rw [i64_succ h (by omega), ← hn]
      exact hL (i + 1) ⟨h, fun j hj hlt => by
        rcases Nat.lt_or_ge j i with h2 | h2
        · exact hg j hj h2
        · obtain rfl : j = i := by omega
          exact hb⟩ (by omega)
  · refine brF (decide_eq_false (by omega)) ?_
    refine leaveK (Lt.thenN ?_)
    have : idxG (fun x => !goodW x) l = -1 := by
      unfold idxG
      rw [if_neg]
      intro hc
      obtain ⟨x, hx, hb⟩ := List.any_eq_true.1 hc
      obtain ⟨j, hj, rfl⟩ := List.getElem_of_mem hx
      rw [hg j hj (by omega)] at hb
      cases hb
    rw [this]
    exact Wk.refl _
theorem indexG_ok : EntOk Tryd.prog indexGE := by
  intro xs σ; simp only [indexGE]; split
  · rename_i es s t g
    intro hc
    simp only [Bool.and_eq_true] at hc
    obtain ⟨h0, h1, h2, h3, h4⟩ := hc
    have h0 := Nat.eq_of_beq_eq_true h0
    subst h0
    obtain ⟨l, rfl, hl⟩ := okR_of (es := es) (by simp only [okR, okW_same, h2, h3, h4]; rfl)
    rw [map_strOf_strv]
    have hw := wk_strv t h1 h2
    rw [map_strOf_strv] at hw
    exact pcall_of (.cons hw (.refl _)) (indexG_c l hl) (by simp only [noOutL, AVal.noOut, strv_noOut, Bool.and_true]) (by simp only [noTokL, AVal.noTok, strv_noTok, Bool.and_true, Tag.below]) rfl rfl
  · trivial
theorem containsG_c (l : List Txt) (hl : okL l) : ACall Tryd.prog 32 [.slice (strv l) 1 .ro, .func (.func 33) [] []] Sto.empty fun r _ => Wk r (.bool (l.any fun x => !goodW x)) := by
  refine containsG_i l _ (.of [indexGE] rfl ⟨indexG_ok, trivial⟩) ?_
  simp only [map_strOf_strv, hold_eq]
  intro y hy
  have h0 := okR_mk hl
  simp only [okR, okW_same, Bool.true_and] at h0
  refine gb_by h0 ?_
  have : decide (0 ≤ y) = (l.any fun x => !goodW x) := by
    rw [hy]; unfold idxG
    split
    · rename_i h; rw [h]; exact dt (by omega)
    · rename_i h
      have h : (l.any fun x => !goodW x) = false := by simpa using h
      rw [h]; rfl
  rw [this]; exact Wk.refl _
theorem containsG_ok : EntOk Tryd.prog containsGE := by
  intro xs σ; simp only [containsGE]; split
  · rename_i es s t g
    intro hc
    simp only [Bool.and_eq_true] at hc
    obtain ⟨h0, h1, h2, h3, h4⟩ := hc
    have h0 := Nat.eq_of_beq_eq_true h0
    subst h0
    obtain ⟨l, rfl, hl⟩ := okR_of (es := es) (by simp only [okR, okW_same, h2, h3, h4]; rfl)
    rw [map_strOf_strv, hold_eq]
    have hw := wk_strv t h1 h2
    rw [map_strOf_strv] at hw
    exact pcall_of (.cons hw (.refl _)) (containsG_c l hl) (by simp only [noOutL, AVal.noOut, strv_noOut, Bool.and_true]) (by simp only [noTokL, AVal.noTok, strv_noTok, Bool.and_true, Tag.below]) rfl rfl
  · trivial
end Go.Proofs.YtcijjgfadkflmaaDoor
end

section
namespace Go.AL
structure Opr.fit (o : Opr) : Prop where
  id : -9223372036854775808 ≤ o.id ∧ o.id ≤ 9223372036854775807
  fr : -9223372036854775808 ≤ o.fr ∧ o.fr ≤ 9223372036854775807
  tw : -9223372036854775808 ≤ o.tw ∧ o.tw ≤ 9223372036854775807
  most : -9223372036854775808 ≤ o.most ∧ o.most ≤ 9223372036854775807
  lo : -9223372036854775808 ≤ o.lo.n ∧ o.lo.n ≤ 9223372036854775807
  hi : -9223372036854775808 ≤ o.hi.n ∧ o.hi.n ≤ 9223372036854775807
  props : ∀ p ∈ o.props, -9223372036854775808 ≤ p.v.n ∧ p.v.n ≤ 9223372036854775807
  nodes : ∀ p ∈ o.nodes, (-9223372036854775808 ≤ p.lo.n ∧ p.lo.n ≤ 9223372036854775807) ∧ -9223372036854775808 ≤ p.hi.n ∧ p.hi.n ≤ 9223372036854775807
  links : ∀ p ∈ o.links, (-9223372036854775808 ≤ p.fr ∧ p.fr ≤ 9223372036854775807) ∧ -9223372036854775808 ≤ p.tw ∧ p.tw ≤ 9223372036854775807
structure Opr.few (o : Opr) : Prop where
  props : o.props.length ≤ 100000
  keys : o.keys.length ≤ 100000
  nodes : o.nodes.length ≤ 100000
  links : o.links.length ≤ 100000
theorem flat3 (f : Pr → List Txt) (h : ∀ p, (f p).length = 3) : ∀ l : List Pr, (l.flatMap f).length = 3 * l.length
  | [] => rfl
  | p :: t => by
    rw [List.flatMap_cons, List.length_append, h p, flat3 f h t, List.length_cons]; omega
theorem propW_len (l : List Pr) : (propW l).length ≤ 3 * l.length + 2 := by
  unfold propW
  split
  · simp
  · simp only [List.length_append, List.length_cons, List.length_nil, flat3 (fun p => [p.key, wE, printV p.v]) (fun _ => rfl) l]; omega
end Go.AL
namespace Go.Proofs.YtcijjgfadkflmaaDoor
open Go.AL
set_option linter.unusedSimpArgs false
set_option linter.unusedVariables false
set_option maxHeartbeats 2000000
set_option maxRecDepth 20000
theorem e_own (n m : Nat) : (Sto.empty.pushOwn n).setOwn 0 m = Sto.empty.pushOwn m := by
  simp only [Sto.setOwn, Sto.pushOwn, Sto.empty, Sto.mk.injEq, true_and]
  funext q; split <;> simp_all
theorem strv_app (a b : List Txt) : strv a ++ strv b = strv (a ++ b) := by simp [strv]
theorem propWords_c (l : List Pr) (hl : l.length ≤ 100000) (hf : ∀ p ∈ l, -9223372036854775808 ≤ p.v.n ∧ p.v.n ≤ 9223372036854775807) : ACall Tryd.prog 19 [.slice (prv l) 4 .ro] Sto.empty fun r _ => Wk r (.slice (strv (propW l)) 1 .ro) := by
  refine propWords_i l _ (.of [V.printE] rfl ⟨V.print_ok, trivial⟩) ?_
  have hn := prv_len l
  simp only [hold_eq]
  refine brV_by (fun h => ?_) (fun h => ?_)
  · have h : ((prv l).length : Int) = 0 := by simpa using h
    have : l = [] := List.length_eq_zero_iff.1 (by omega)
    subst this
    exact Wk.nil 0 1 .nil
  have hne : ¬ l = [] := by
    intro e; subst e
    simp [prv] at h
  have hp : propW l = wL :: (l.flatMap fun p => [p.key, wE, printV p.v]) ++ [wR] := by unfold propW; rw [if_neg hne]
  refine loopV_intro (α := Nat) (fun i => propWordsL_S l (wL :: (l.take i).flatMap fun p => [p.key, wE, printV p.v]) (prv l).length i) (fun i => i ≤ l.length ∧ ((l.take i).flatMap fun p => [p.key, wE, printV p.v]).length = 3 * i) (fun i => l.length - i) ?_ 0 ⟨Nat.zero_le _, by simp⟩
  rintro i ⟨hi, hlen⟩ L hL
  refine Eq.mpr (propWordsL_r l _ (prv l).length i L _) ?_
  simp only [hold_eq, e_own]
  refine brV_by (fun h => ?_) (fun h => ?_)
  · have hlt : i < l.length := by have := of_decide_eq_true h; omega
    rw [i64_succ hlt (by omega), elemAt_prv l i hlt]
    refine gb_by (dt (by omega)) (gb_by rfl ?_)
    intro y hy
    have hy : y = printV l[i].v := hy
    refine gb_by (V.i64r_mk (hf l[i] (List.getElem_mem hlt))) (gb_by ?_ ?_)
    · simp only [decide_eq_true_eq, strv_length, List.length_cons, hlen, true_and, and_true]; omega
    have ht : l.take (i + 1) = l.take i ++ [l[i]] := by rw [List.take_add_one, List.getElem?_eq_getElem hlt]; rfl
    have ft : ((l.take (i + 1)).flatMap fun p => [p.key, wE, printV p.v]) = ((l.take i).flatMap fun p => [p.key, wE, printV p.v]) ++ [l[i].key, wE, printV l[i].v] := by
      rw [ht, List.flatMap_append, List.flatMap_cons, List.flatMap_nil, List.append_nil]
    have e1 : (strv (wL :: (l.take i).flatMap fun p => [p.key, wE, printV p.v]) ++ [.str (AVal.strOf (List.getD [AVal.str l[i].key, AVal.int .i64 l[i].v.k, AVal.int .i64 l[i].v.n, AVal.str l[i].v.s] 0 .undef)), .str [61], .str y]) = strv (wL :: (l.take (i + 1)).flatMap fun p => [p.key, wE, printV p.v]) := by
      rw [ft, hy]
      simp [strv, AVal.strOf, wE]
    rw [e1, show (strv (wL :: (l.take i).flatMap fun p => [p.key, wE, printV p.v])).length + 3 = (strv (wL :: (l.take (i + 1)).flatMap fun p => [p.key, wE, printV p.v])).length by rw [← e1]; simp]
    exact hL (i + 1) ⟨hlt, by rw [ft, List.length_append, hlen]; simp; omega⟩ (by omega)
  · have hge : i = l.length := by have := of_decide_eq_false h; omega
    subst hge
    refine leaveK (Lt.thenN (toCut ?_))
    refine Eq.mpr (propWordsF_r _ _) ?_
    rw [List.take_length] at hlen ⊢
    refine gb_by ?_ ?_
    · simp only [decide_eq_true_eq, strv_length, List.length_cons, hlen, true_and, and_true]; omega
    have : strv (wL :: l.flatMap fun p => [p.key, wE, printV p.v]) ++ [.str [125]] = strv (propW l) := by rw [hp]; simp [strv, wR]
    rw [this]
    exact Wk.ro _ _ _
theorem nodeWords_c (n : Nd) (h1 : -9223372036854775808 ≤ n.lo.n ∧ n.lo.n ≤ 9223372036854775807) (h2 : -9223372036854775808 ≤ n.hi.n ∧ n.hi.n ≤ 9223372036854775807) : ACall Tryd.prog 22 [Nd.a n] Sto.empty fun r _ => Wk r (.slice (strv (nodeW n)) 1 .ro) := by
  refine nodeWords_i n _ (.of [V.printE] rfl ⟨V.print_ok, trivial⟩) ?_
  simp only [hold_eq]
  refine brV_by (fun h => ?_) (fun h => ?_)
  · have : nodeW n = [n.label] := by unfold nodeW; rw [if_pos (eq_of_beq h)]
    rw [this]; exact Wk.ro _ _ _
  · have : nodeW n = [n.label, n.key, printV n.lo, printV n.hi] := by unfold nodeW; rw [if_neg (by simpa using h)]
    rw [this]
    intro y hy
    refine gb_by (V.i64r_mk h1) ?_
    intro z hz
    refine gb_by (V.i64r_mk h2) ?_
    have hy : y = printV n.lo := hy
    have hz : z = printV n.hi := hz
    rw [hy, hz]
    exact Wk.ro _ _ _
theorem all_mk {α : Type} {f : α → AVal} {g : AVal → Bool} {l : List α} (h : ∀ x ∈ l, g (f x) = true) : (l.map f).all g = true := by
  rw [List.all_eq_true]
  intro y hy
  obtain ⟨x, hx, rfl⟩ := List.mem_map.1 hy
  exact h x hx
theorem propWords_ok : EntOk Tryd.prog propWordsE := by
  intro xs σ; simp only [propWordsE]; split
  · rename_i a s t
    intro hc
    simp only [Bool.and_eq_true] at hc
    obtain ⟨h1, h2, h3, h4⟩ := hc
    have h3 : a.length ≤ 100000 := by simpa [len5] using h3
    refine pcall_of (.cons (wk_prv t h1 h2) (.refl _)) (propWords_c _ (by simpa using h3) ?_) (by simp only [noOutL, AVal.noOut, prv_noOut, Bool.and_true]) (by simp only [noTokL, AVal.noTok, prv_noTok, Bool.and_true, Tag.below]) (by simp only [AVal.noOut, strv_noOut]) (by simp only [AVal.noTok, strv_noTok, Bool.and_true, Tag.below])
    intro p hp
    obtain ⟨e, he, rfl⟩ := List.mem_map.1 hp
    exact V.i64r_of (List.all_eq_true.1 h4 e he)
  · trivial
theorem nodeWords_ok : EntOk Tryd.prog nodeWordsE := by
  intro xs σ; simp only [nodeWordsE]; split
  · rename_i l k a b s c d t
    intro hc
    simp only [Bool.and_eq_true] at hc
    exact pcall_of (.refl _) (nodeWords_c ⟨l, k, ⟨a, b, s⟩, ⟨c, d, t⟩⟩ (V.i64r_of hc.1) (V.i64r_of hc.2)) rfl rfl (by simp only [AVal.noOut, strv_noOut]) (by simp only [AVal.noTok, strv_noTok, Bool.and_true, Tag.below])
  · trivial
theorem vlEq (a b : Vl) : (a.k == b.k && (a.n == b.n && (a.s == b.s && true))) = decide (a = b) := by
  obtain ⟨k, n, s⟩ := a
  obtain ⟨k', n', s'⟩ := b
  rw [Bool.eq_iff_iff]
  simp
theorem same_c (x y : Ak) (hx : x.op.few) (hy : y.op.few) : ACall Tryd.prog 11 [Ak.a x, Ak.a y] Sto.empty fun r _ => Wk r (.bool (sameA x y)) := by
  refine same_i x y _ (.of [eqPE, eqSE, eqNE, eqLE] rfl ⟨eqP_ok, eqS_ok, eqN_ok, eqK_ok, trivial⟩) ?_
  have p1 := hx.props; have p2 := hx.keys; have p3 := hx.nodes; have p4 := hx.links
  have q1 := hy.props; have q2 := hy.keys; have q3 := hy.nodes; have q4 := hy.links
  simp only [vlEq, hold_eq, prv_is, strv_is, ndv_is, lkv_is, map_prOf, map_strOf_strv, map_ndOf, map_lkOf, Bool.true_and, prv_len, strv_length, ndv_len, lkv_len, lenL_mk (Nat.le_trans p1 (by omega)), lenL_mk (Nat.le_trans p2 (by omega)), lenL_mk (Nat.le_trans p3 (by omega)), lenL_mk (Nat.le_trans p4 (by omega)), lenL_mk (Nat.le_trans q1 (by omega)), lenL_mk (Nat.le_trans q2 (by omega)), lenL_mk (Nat.le_trans q3 (by omega)), lenL_mk (Nat.le_trans q4 (by omega))]
  repeat' (first | with_reducible refine brV_by (fun h => ?_) (fun h => ?_) | with_reducible refine gb_by rfl ?_)
  all_goals refine bool_wk ?_
  all_goals clear hx hy p1 p2 p3 p4 q1 q2 q3 q4
  all_goals simp_all [sameA, sameO]
end Go.Proofs.YtcijjgfadkflmaaDoor
end

section
namespace Go.Proofs.YtcijjgfadkflmaaDoor
open Go.AL
set_option linter.unusedSimpArgs false
set_option linter.unusedVariables false
set_option maxHeartbeats 2000000
set_option maxRecDepth 20000
theorem wk_eq {es es' : List AVal} (t : Tag) (h : es = es') : Wk (.slice es 1 t) (.slice es' 1 .ro) := by rw [h]; exact Wk.ro _ _ _
theorem nodeW_len (n : Nd) : (nodeW n).length ≤ 4 := by unfold nodeW; split <;> simp
def accN (o : Opr) (i : Nat) : List Txt := [wMatch, Lib.itoa o.most] ++ (o.nodes.take i).flatMap fun n => wO :: nodeW n ++ [wC]
def accK (o : Opr) (i : Nat) : List Txt := accN o o.nodes.length ++ (o.links.take i).flatMap fun x => [wL, Lib.itoa x.fr, labelW x.label, Lib.itoa x.tw, wR]
theorem accN_step (o : Opr) (i : Nat) (h : i < o.nodes.length) : accN o (i + 1) = accN o i ++ (wO :: nodeW o.nodes[i] ++ [wC]) := by
  unfold accN
  rw [List.take_add_one, List.getElem?_eq_getElem h]
  show _ ++ List.flatMap _ (_ ++ [o.nodes[i]]) = _
  rw [List.flatMap_append, List.flatMap_cons, List.flatMap_nil, List.append_nil, List.append_assoc]
theorem accK_step (o : Opr) (i : Nat) (h : i < o.links.length) : accK o (i + 1) = accK o i ++ [wL, Lib.itoa o.links[i].fr, labelW o.links[i].label, Lib.itoa o.links[i].tw, wR] := by
  unfold accK
  rw [List.take_add_one, List.getElem?_eq_getElem h]
  show _ ++ List.flatMap _ (_ ++ [o.links[i]]) = _
  rw [List.flatMap_append, List.flatMap_cons, List.flatMap_nil, List.append_nil, List.append_assoc]
theorem accN_len (o : Opr) : ∀ i, i ≤ o.nodes.length → (accN o i).length ≤ 2 + 6 * i
  | 0, _ => by simp [accN]
  | i + 1, h => by
    have ih := accN_len o i (by omega)
    have := nodeW_len o.nodes[i]
    rw [accN_step o i (by omega), List.length_append, List.length_append, List.length_cons, List.length_singleton]; omega
theorem accK_len (o : Opr) : ∀ i, i ≤ o.links.length → (accK o i).length ≤ 2 + 6 * o.nodes.length + 5 * i
  | 0, _ => by have := accN_len o o.nodes.length (Nat.le_refl _); simpa [accK] using this
  | i + 1, h => by
    have ih := accK_len o i (by omega)
    rw [accK_step o i (by omega), List.length_append]; simp; omega
theorem askWords_c (o : Opr) (hf : o.fit) (hw : o.few) : ACall Tryd.prog 9 [Opr.a o] Sto.empty fun r _ => Wk r (.slice (strv (wordsO o)) 1 .ro) := by
  have ho : OrcOk Tryd.prog cAskWords := .of [V.itoaE, propWordsE, nodeWordsE, sideE, anyLabelE] rfl ⟨V.itoa_ok, propWords_ok, nodeWords_ok, side_ok, anyLabel_ok, trivial⟩
  refine askWords_i o _ ho ?_
  have hp1 := propW_len o.props
  have hp2 := hw.props
  have hp3 := hw.keys
  have hno := hw.nodes
  have hli := hw.links
  intro y0 e0; refine gb_by (V.i64r_mk hf.id) ?_
  intro y1 e1; refine gb_by (V.i64r_mk hf.fr) ?_
  intro y2 e2; refine gb_by (V.i64r_mk hf.tw) ?_
  intro y3 e3; refine gb_by (V.i64r_mk hf.most) ?_
  have hpk : (List.all (prv o.props) prIs && (len5 (List.length (prv o.props)) && List.all (prv o.props) prOk)) = true := by
    rw [prv_is, prv_len]
    simp only [Bool.true_and, Bool.and_eq_true]
    exact ⟨by simpa [len5] using hp2, all_mk fun p hp => V.i64r_mk (hf.props p hp)⟩
  simp only [hold_eq, map_prOf, hpk]
  refine brV_by (fun h => ?_) (fun n1 => ?_)
  · have hW : wordsO o = wVertex :: Lib.itoa o.id :: o.label :: propW o.props := by unfold wordsO; rw [if_pos (eq_of_beq h)]
    refine gb_by rfl (gb_by ?_ ?_)
    · simp only [decide_eq_true_eq, strv_length, true_and, and_true]; omega
    · rw [hW, ← e0]; exact wk_eq _ rfl
  have n1 : ¬ o.k = 1 := by simpa using n1
  refine brV_by (fun h => ?_) (fun n2 => ?_)
  · have hW : wordsO o = wEdge :: Lib.itoa o.id :: o.label :: Lib.itoa o.fr :: Lib.itoa o.tw :: propW o.props := by unfold wordsO; rw [if_neg n1, if_pos (eq_of_beq h)]
    refine gb_by rfl (gb_by ?_ ?_)
    · simp only [decide_eq_true_eq, strv_length, true_and, and_true]; omega
    · rw [hW, ← e0, ← e1, ← e2]; exact wk_eq _ rfl
  have n2 : ¬ o.k = 2 := by simpa using n2
  refine brV_by (fun h => ?_) (fun n3 => ?_)
  · have hW : wordsO o = wSet :: sideW o.edge :: Lib.itoa o.id :: propW o.props := by unfold wordsO; rw [if_neg n1, if_neg n2, if_pos (eq_of_beq h)]
    refine gb_by rfl (gb_by ?_ ?_)
    · simp only [decide_eq_true_eq, strv_length, true_and, and_true]; omega
    · rw [hW, ← e0]; exact wk_eq _ rfl
  have n3 : ¬ o.k = 3 := by simpa using n3
  refine brV_by (fun h => ?_) (fun n4 => ?_)
  · have hW : wordsO o = wUnset :: sideW o.edge :: Lib.itoa o.id :: o.keys := by unfold wordsO; rw [if_neg n1, if_neg n2, if_neg n3, if_pos (eq_of_beq h)]
    refine gb_by ?_ ?_
    · simp only [decide_eq_true_eq, strv_length, true_and, and_true]; omega
    · rw [hW, ← e0]; exact wk_eq _ rfl
  have n4 : ¬ o.k = 4 := by simpa using n4
  refine brV_by (fun h => ?_) (fun n5 => ?_)
  · have hW : wordsO o = [wDrop, sideW o.edge, Lib.itoa o.id] := by unfold wordsO; rw [if_neg n1, if_neg n2, if_neg n3, if_neg n4, if_pos (eq_of_beq h)]
    rw [hW, ← e0]; exact wk_eq _ rfl
  have n5 : ¬ o.k = 5 := by simpa using n5
  refine brV_by (fun h => ?_) (fun n6 => ?_)
  · have hW : wordsO o = [wGet, sideW o.edge, Lib.itoa o.id] := by unfold wordsO; rw [if_neg n1, if_neg n2, if_neg n3, if_neg n4, if_neg n5, if_pos (eq_of_beq h)]
    rw [hW, ← e0]; exact wk_eq _ rfl
  have n6 : ¬ o.k = 6 := by simpa using n6
  refine brV_by (fun h => ?_) (fun n7 => ?_)
  · have hW : wordsO o = [if o.out then wNext else wBack, Lib.itoa o.id, labelW o.label] := by unfold wordsO; rw [if_neg n1, if_neg n2, if_neg n3, if_neg n4, if_neg n5, if_neg n6, if_pos (eq_of_beq h)]
    rw [hW, ← e0]
    refine brV_by (fun h => ?_) (fun h => ?_)
    · rw [h]; exact wk_eq _ rfl
    · rw [h]; exact wk_eq _ rfl
  have n7 : ¬ o.k = 7 := by simpa using n7
  refine brV_by (fun h => ?_) (fun n8 => ?_)
  · have hW : wordsO o = wFind :: nodeW ⟨o.label, o.key, o.lo, o.hi⟩ := by unfold wordsO; rw [if_neg n1, if_neg n2, if_neg n3, if_neg n4, if_neg n5, if_neg n6, if_neg n7, if_pos (eq_of_beq h)]
    have := nodeW_len ⟨o.label, o.key, o.lo, o.hi⟩
    refine gb_by ?_ (gb_by ?_ ?_)
    · rw [V.i64r_mk hf.lo, V.i64r_mk hf.hi]; rfl
    · have := nodeW_len ⟨o.label, o.key, ⟨o.lo.k, o.lo.n, o.lo.s⟩, ⟨o.hi.k, o.hi.n, o.hi.s⟩⟩
      simp only [decide_eq_true_eq, strv_length, true_and, and_true]; omega
    · rw [hW]; exact wk_eq _ rfl
  have n8 : ¬ o.k = 8 := by simpa using n8
  refine brV_by (fun h => ?_) (fun n10 => ?_)
  · have hW : wordsO o = [wPath, Lib.itoa o.fr, Lib.itoa o.tw, labelW o.label, Lib.itoa o.most] := by unfold wordsO; rw [if_neg n1, if_neg n2, if_neg n3, if_neg n4, if_neg n5, if_neg n6, if_neg n7, if_neg n8, if_pos (eq_of_beq h)]
    rw [hW, ← e1, ← e2, ← e3]; exact wk_eq _ rfl
  have n10 : ¬ o.k = 10 := by simpa using n10
  refine brV_by (fun h => ?_) (fun n9 => ?_)
  rotate_left
  · have n9 : ¬ o.k = 9 := by simpa using n9
    have hW : wordsO o = [] := by unfold wordsO; rw [if_neg n1, if_neg n2, if_neg n3, if_neg n4, if_neg n5, if_neg n6, if_neg n7, if_neg n8, if_neg n10, if_neg n9]
    rw [hW]; exact Wk.nil 0 1 .nil
  have hW : wordsO o = accK o o.links.length := by
    unfold wordsO accK accN
    rw [if_neg n1, if_neg n2, if_neg n3, if_neg n4, if_neg n5, if_neg n6, if_neg n7, if_neg n8, if_neg n10, if_pos (eq_of_beq h), List.take_length, List.take_length]
    simp
  rw [hW]
  have hn := ndv_len o.nodes
  have hk := lkv_len o.links
  subst e3
  refine loopV_intro (α := Nat) (fun i => askN_S o (accN o i) (ndv o.nodes).length i) (fun i => i ≤ o.nodes.length) (fun i => o.nodes.length - i) ?_ 0 (Nat.zero_le _)
  intro i hi L hL
  have hlen := accN_len o i hi
  refine Eq.mpr (askN_r o (accN o i) (ndv o.nodes).length i L _) ?_
  simp only [hold_eq, e_own]
  refine brV_by (fun h => ?_) (fun h => ?_)
  · have hlt : i < o.nodes.length := by have := of_decide_eq_true h; omega
    have hnl := nodeW_len o.nodes[i]
    have hnl2 := nodeW_len ⟨o.nodes[i].label, o.nodes[i].key, ⟨o.nodes[i].lo.k, o.nodes[i].lo.n, o.nodes[i].lo.s⟩, ⟨o.nodes[i].hi.k, o.nodes[i].hi.n, o.nodes[i].hi.s⟩⟩
    have hst := accN_step o i hlt
    have hsl := congrArg List.length hst
    rw [i64_succ hlt (by omega), elemAt_ndv o.nodes i hlt]
    simp only [List.getD_cons_zero, List.getD_cons_succ, AVal.strOf, AVal.intOf, strv_snoc, strv_app, strv_length, List.length_append, List.length_singleton]
    refine gb_by (dt (by omega)) (gb_by rfl (gb_by ?_ (gb_by ?_ (gb_by ?_ (gb_by ?_ ?_)))))
    · simp only [decide_eq_true_eq, true_and, and_true]; omega
    · have := hf.nodes _ (List.getElem_mem hlt)
      rw [V.i64r_mk this.1, V.i64r_mk this.2]; rfl
    · simp only [decide_eq_true_eq, true_and, and_true]; omega
    · simp only [decide_eq_true_eq, true_and, and_true]; omega
    · have e : accN o i ++ [[40]] ++ nodeW o.nodes[i] ++ [[41]] = accN o (i + 1) := by rw [hst]; simp [wO, wC]
      have := hL (i + 1) hlt (by omega)
      unfold askN_S at this
      rw [← e, strv_length] at this
      simp only [List.length_append, List.length_singleton] at this
      exact this
  · have hge : i = o.nodes.length := by have := of_decide_eq_false h; omega
    subst hge
    refine leaveK (Lt.thenN (toCut ?_))
    refine Eq.mpr (askM_r o (accN o o.nodes.length) _) ?_
    rw [show accN o o.nodes.length = accK o 0 by simp [accK]]
    refine loopV_intro (α := Nat) (fun j => askK_S o.links (accK o j) (lkv o.links).length j) (fun j => j ≤ o.links.length) (fun j => o.links.length - j) ?_ 0 (Nat.zero_le _)
    intro j hj L2 hL2
    have hlen2 := accK_len o j hj
    refine Eq.mpr (askK_r o.links (accK o j) (lkv o.links).length j L2 _) ?_
    simp only [hold_eq, e_own]
    refine brV_by (fun h => ?_) (fun h => ?_)
    · have hlt : j < o.links.length := by have := of_decide_eq_true h; omega
      have hst := accK_step o j hlt
      rw [i64_succ hlt (by omega), elemAt_lkv o.links j hlt]
      simp only [List.getD_cons_zero, List.getD_cons_succ, AVal.strOf, AVal.intOf, strv_length]
      refine gb_by (dt (by omega)) (gb_by rfl ?_)
      have hff := hf.links _ (List.getElem_mem hlt)
      intro z hz; refine gb_by (V.i64r_mk hff.1) ?_
      intro z2 hz2; refine gb_by (V.i64r_mk hff.2) (gb_by ?_ ?_)
      · simp only [decide_eq_true_eq, true_and, and_true]; omega
      · have e : strv (accK o j) ++ [.str [123], .str z, .str (labelW o.links[j].label), .str z2, .str [125]] = strv (accK o (j + 1)) := by
          rw [hst, ← strv_app, hz, hz2]; rfl
        have := hL2 (j + 1) hlt (by omega)
        unfold askK_S at this
        rw [← e, List.length_append, strv_length] at this
        exact this
    · have hge : j = o.links.length := by have := of_decide_eq_false h; omega
      subst hge
      refine leaveK (Lt.thenN (toCut ?_))
      refine Eq.mpr (askF_r _ _) ?_
      exact Wk.ro _ _ _
end Go.Proofs.YtcijjgfadkflmaaDoor
end

section
set_option linter.unusedVariables false
namespace Go.Proofs.YtcijjgfadkflmaaDoor
open Go.AL
noncomputable section
def oprE (cs : List AVal) (F : Opr → Bool → Option Ans) : Option Ans := match cs with
  | [.int .i64 k, .bool e, .bool o, .int .i64 id, .int .i64 fr, .int .i64 tw, .int .i64 mo, .int .i64 st, .str la, .str ke, .slice ps 4 .ro, .slice ks 1 .ro, .int .i64 lk, .int .i64 ln, .str ls, .int .i64 hk, .int .i64 hn, .str hs, .slice ns 8 .ro, .slice xs 3 .ro] =>
    F ⟨k, e, o, id, fr, tw, mo, st, la, ke, ps.map prOf, ks.map AVal.strOf, ⟨lk, ln, ls⟩, ⟨hk, hn, hs⟩, ns.map ndOf, xs.map lkOf⟩ (ps.all prIs && (ks.all strIs && (ns.all ndIs && xs.all lkIs)))
  | _ => none
def fitB (o : Opr) : Bool := hold (@decide o.fit (Classical.propDecidable _))
def fewB (o : Opr) : Bool := hold (@decide o.few (Classical.propDecidable _))
def askWordsE : Ent := (9, fun xs _ => match xs with
  | [.agg cs] => oprE cs fun o b => some (.nm (wordsO o) fun y => .pure (b && (fitB o && fewB o)) (.slice (strv y) 1 .ro))
  | _ => none)
def sameE : Ent := (11, fun xs _ => match xs with
  | [.agg (.int .i64 v :: cs), .agg (.int .i64 v' :: cs')] => oprE cs fun x b => oprE cs' fun y b' => some (.pure (b && (b' && (fewB x && fewB y))) (.bool (hold (sameA ⟨v, x⟩ ⟨v', y⟩))))
  | _ => none)
def printE : Ent := (6, fun xs _ => match xs with
  | [.agg (.int .i64 v :: cs)] => oprE cs fun x b => some (.nm (printA ⟨v, x⟩) fun y => .pure (b && (fitB x && (fewB x && hold (decide ((joinT (wordsA ⟨v, x⟩)).length ≤ 100000000000000))))) (.tuple [.str y.1, .int .i64 y.2]))
  | _ => none)
end
theorem oprE_eq {P : Program} {g : FuncId} {xs : List AVal} {σ : Sto} {cs : List AVal} {F : Opr → Bool → Option Ans} (h : ∀ o : Opr, cs = o.cs → AnsOk P g xs σ (F o true)) (hf : ∀ o : Opr, AnsOk P g xs σ (F o false)) : AnsOk P g xs σ (oprE cs F) := by
  unfold oprE
  split
  · rename_i k e o id fr tw mo st la ke ps ks lk ln ls hk hn hs ns ys
    cases hb : (ps.all prIs && (ks.all strIs && (ns.all ndIs && ys.all lkIs))) with
    | false => exact hf _
    | true =>
      simp only [Bool.and_eq_true] at hb
      obtain ⟨h1, h2, h3, h4⟩ := hb
      refine h _ ?_
      unfold Opr.cs
      simp only []
      rw [← prv_of h1, ← strv_of h2, ← ndv_of h3, ← lkv_of h4]
  · trivial
theorem fit_of {o : Opr} (h : fitB o = true) : o.fit := by simpa [fitB, hold_eq] using h
theorem fit_mk {o : Opr} (h : o.fit) : fitB o = true := by simpa [fitB, hold_eq] using h
theorem few_of {o : Opr} (h : fewB o = true) : o.few := by simpa [fewB, hold_eq] using h
theorem few_mk {o : Opr} (h : o.few) : fewB o = true := by simpa [fewB, hold_eq] using h
theorem noOut_opr (o : Opr) : noOutL 0 [Opr.a o] = true := by simp only [Opr.a, Opr.cs, noOutL, AVal.noOut, prv_noOut, strv_noOut, ndv_noOut, lkv_noOut, Bool.and_self]
theorem noTok_opr (o : Opr) : noTokL 0 [Opr.a o] = true := by simp only [Opr.a, Opr.cs, noTokL, AVal.noTok, prv_noTok, strv_noTok, ndv_noTok, lkv_noTok, Tag.below, Bool.and_self]
theorem noOut_ak (x : Ak) : (Ak.a x).noOut 0 = true := by simp only [Ak.a, Opr.cs, noOutL, AVal.noOut, prv_noOut, strv_noOut, ndv_noOut, lkv_noOut, Bool.and_self]
theorem noTok_ak (x : Ak) : (Ak.a x).noTok 0 = true := by simp only [Ak.a, Opr.cs, noTokL, AVal.noTok, prv_noTok, strv_noTok, ndv_noTok, lkv_noTok, Tag.below, Bool.and_self]
theorem askWords_ok : EntOk Tryd.prog askWordsE := by
  intro xs σ; simp only [askWordsE]; split
  · rename_i cs
    refine oprE_eq (fun o ho => ?_) (fun o hc => by cases hc)
    subst ho
    intro hc
    simp only [Bool.true_and, Bool.and_eq_true] at hc
    exact pcall_of (.refl _) (askWords_c o (fit_of hc.1) (few_of hc.2)) (noOut_opr o) (noTok_opr o) (by simp only [AVal.noOut, strv_noOut]) (by simp only [AVal.noTok, strv_noTok, Bool.and_true, Tag.below])
  · trivial
theorem same_ok : EntOk Tryd.prog sameE := by
  intro xs σ; simp only [sameE]; split
  · rename_i v cs v' cs'
    refine oprE_eq (fun x hx => ?_) (fun x => ?_)
    · subst hx
      refine oprE_eq (fun y hy => ?_) (fun y hc => by cases hc)
      subst hy
      intro hc
      simp only [Bool.true_and, Bool.and_eq_true] at hc
      have h1 := noOut_ak ⟨v, x⟩
      have h2 := noOut_ak ⟨v', y⟩
      have h3 := noTok_ak ⟨v, x⟩
      have h4 := noTok_ak ⟨v', y⟩
      refine pcall_of (.refl _) (by rw [hold_eq]; exact same_c ⟨v, x⟩ ⟨v', y⟩ (few_of hc.1) (few_of hc.2)) ?_ ?_ rfl rfl
      · simp only [noOutL, Bool.and_true, Bool.and_eq_true]; exact ⟨h1, h2⟩
      · simp only [noTokL, Bool.and_true, Bool.and_eq_true]; exact ⟨h3, h4⟩
    · refine oprE_eq (fun y hy hc => by cases hc) (fun y hc => by cases hc)
  · trivial
end Go.Proofs.YtcijjgfadkflmaaDoor
end

section
set_option linter.unusedVariables false
namespace Go.Proofs.YtcijjgfadkflmaaDoor
open Go.AL
def smallP (p : Pr) : Bool := decide (p.key.length ≤ 100 ∧ p.v.s.length ≤ 300)
def smallN (n : Nd) : Bool := decide (n.label.length ≤ 100 ∧ n.key.length ≤ 100 ∧ n.lo.s.length ≤ 300 ∧ n.hi.s.length ≤ 300)
def smallL (l : Lk) : Bool := decide (l.label.length ≤ 100)
def small0 (o : Opr) : Bool := decide (o.label.length ≤ 100 ∧ o.key.length ≤ 100 ∧ o.lo.s.length ≤ 300 ∧ o.hi.s.length ≤ 300 ∧ o.props.length ≤ 20 ∧ o.keys.length ≤ 20)
def small1 (o : Opr) : Bool := decide (o.nodes.length ≤ 4 ∧ o.links.length ≤ 20)
def smallT (o : Opr) : Bool := small0 o && (small1 o && (o.props.all smallP && (o.nodes.all smallN && o.links.all smallL)))
noncomputable section
def smallE : Ent := (5, fun xs _ => match xs with
  | [.agg cs] => oprE cs fun o b => some (.nm (smallT o) fun y => .pure b (.bool y))
  | _ => none)
def psameE : Ent := (12, fun xs _ => match xs with
  | [.slice a s t, .slice b s' t'] => some (.nm (hold (decide (a.map prOf = b.map prOf))) fun y => .pure (okW 4 s a && (a.all prIs && (lenL a.length && (okW 4 s' b && (b.all prIs && lenL b.length))))) (.bool y))
  | _ => none)
def rsameE : Ent := (7, fun xs _ => match xs with
  | [.agg (.int .i64 v :: cs), .agg (.int .i64 v' :: cs')] => oprE cs fun x b => oprE cs' fun y b' => some (.nm (hold (sameA ⟨v, x⟩ ⟨v', y⟩)) fun z => .pure (b && (b' && (fewB x && fewB y))) (.bool z))
  | _ => none)
def awakeE : Ent := (4, fun xs _ => match xs with
  | [] => some (.pure true (.bool true))
  | _ => none)
end
end Go.Proofs.YtcijjgfadkflmaaDoor
end

section
set_option linter.unusedVariables false
namespace Go.Proofs.YtcijjgfadkflmaaDoor
open Go.AL
noncomputable section
def printSE : Ent := (6, fun xs _ => match xs with
  | [.agg (.int .i64 v :: cs)] => oprE cs fun x b => some (.nm (printA ⟨v, x⟩) fun y => .pure (b && (fitB x && (fewB x && (hold (decide ((wordsO x).length ≤ 1000000)) && hold (decide ((joinT (wordsA ⟨v, x⟩)).length ≤ 100000000000000)))))) (.tuple [.str y.1, .int .i64 y.2]))
  | _ => none)
end
end Go.Proofs.YtcijjgfadkflmaaDoor
end

section
set_option maxRecDepth 100000
set_option maxHeartbeats 0
set_option linter.unusedVariables false
namespace Go.Proofs.YtcijjgfadkflmaaDoor
open Go.AL Go.Proofs
noncomputable def cAsk : Cfg := { keep := [0, 1, 2, 3, 4, 5, 6, 7, 8, 22], cut := [], orc := ofList [awakeE, smallE, printSE, rsameE] }
noncomputable def code_3_ : Code := (Tryd.f3.body).getD .skip
theorem askApart_r (x y : Ak) (Q : AVal → Sto → Prop) : vc Tryd.prog cAsk code_3_ (endK Tryd.prog Tryd.f3.results.toList Q) (St.start Tryd.f3.ntmps [Ak.a x, Ak.a y] (Sto.empty)) =
  (∀ (y_1 : Bool), y_1 = smallT (Opr.mk (Opr.k (Ak.op x)) (Opr.edge (Ak.op x)) (Opr.out (Ak.op x)) (Opr.id (Ak.op x)) (Opr.fr (Ak.op x)) (Opr.tw (Ak.op x)) (Opr.most (Ak.op x)) (Opr.steps (Ak.op x)) (Opr.label (Ak.op x)) (Opr.key (Ak.op x)) (List.map prOf (prv (Opr.props (Ak.op x)))) (List.map AVal.strOf (strv (Opr.keys (Ak.op x)))) (Vl.mk (Vl.k (Opr.lo (Ak.op x))) (Vl.n (Opr.lo (Ak.op x))) (Vl.s (Opr.lo (Ak.op x)))) (Vl.mk (Vl.k (Opr.hi (Ak.op x))) (Vl.n (Opr.hi (Ak.op x))) (Vl.s (Opr.hi (Ak.op x)))) (List.map ndOf (ndv (Opr.nodes (Ak.op x)))) (List.map lkOf (lkv (Opr.links (Ak.op x))))) → gb (List.all (prv (Opr.props (Ak.op x))) prIs && (List.all (strv (Opr.keys (Ak.op x))) strIs && (List.all (ndv (Opr.nodes (Ak.op x))) ndIs && List.all (lkv (Opr.links (Ak.op x))) lkIs))) (brV (!y_1) false (∀ (y_2 : Bool), y_2 = smallT (Opr.mk (Opr.k (Ak.op y)) (Opr.edge (Ak.op y)) (Opr.out (Ak.op y)) (Opr.id (Ak.op y)) (Opr.fr (Ak.op y)) (Opr.tw (Ak.op y)) (Opr.most (Ak.op y)) (Opr.steps (Ak.op y)) (Opr.label (Ak.op y)) (Opr.key (Ak.op y)) (List.map prOf (prv (Opr.props (Ak.op y)))) (List.map AVal.strOf (strv (Opr.keys (Ak.op y)))) (Vl.mk (Vl.k (Opr.lo (Ak.op y))) (Vl.n (Opr.lo (Ak.op y))) (Vl.s (Opr.lo (Ak.op y)))) (Vl.mk (Vl.k (Opr.hi (Ak.op y))) (Vl.n (Opr.hi (Ak.op y))) (Vl.s (Opr.hi (Ak.op y)))) (List.map ndOf (ndv (Opr.nodes (Ak.op y)))) (List.map lkOf (lkv (Opr.links (Ak.op y))))) → gb (List.all (prv (Opr.props (Ak.op y))) prIs && (List.all (strv (Opr.keys (Ak.op y))) strIs && (List.all (ndv (Opr.nodes (Ak.op y))) ndIs && List.all (lkv (Opr.links (Ak.op y))) lkIs))) (brV (!y_2) true (Q (AVal.bool true) Sto.empty) (∀ (y_3 : Txt × Int), y_3 = printA (Ak.mk (Ak.verb x) (Opr.mk (Opr.k (Ak.op x)) (Opr.edge (Ak.op x)) (Opr.out (Ak.op x)) (Opr.id (Ak.op x)) (Opr.fr (Ak.op x)) (Opr.tw (Ak.op x)) (Opr.most (Ak.op x)) (0 : Int) (Opr.label (Ak.op x)) (Opr.key (Ak.op x)) (List.map prOf (prv (Opr.props (Ak.op x)))) (List.map AVal.strOf (strv (Opr.keys (Ak.op x)))) (Vl.mk (Vl.k (Opr.lo (Ak.op x))) (Vl.n (Opr.lo (Ak.op x))) (Vl.s (Opr.lo (Ak.op x)))) (Vl.mk (Vl.k (Opr.hi (Ak.op x))) (Vl.n (Opr.hi (Ak.op x))) (Vl.s (Opr.hi (Ak.op x)))) (List.map ndOf (ndv (Opr.nodes (Ak.op x)))) (List.map lkOf (lkv (Opr.links (Ak.op x)))))) → gb (List.all (prv (Opr.props (Ak.op x))) prIs && (List.all (strv (Opr.keys (Ak.op x))) strIs && (List.all (ndv (Opr.nodes (Ak.op x))) ndIs && List.all (lkv (Opr.links (Ak.op x))) lkIs)) && (fitB (Opr.mk (Opr.k (Ak.op x)) (Opr.edge (Ak.op x)) (Opr.out (Ak.op x)) (Opr.id (Ak.op x)) (Opr.fr (Ak.op x)) (Opr.tw (Ak.op x)) (Opr.most (Ak.op x)) (0 : Int) (Opr.label (Ak.op x)) (Opr.key (Ak.op x)) (List.map prOf (prv (Opr.props (Ak.op x)))) (List.map AVal.strOf (strv (Opr.keys (Ak.op x)))) (Vl.mk (Vl.k (Opr.lo (Ak.op x))) (Vl.n (Opr.lo (Ak.op x))) (Vl.s (Opr.lo (Ak.op x)))) (Vl.mk (Vl.k (Opr.hi (Ak.op x))) (Vl.n (Opr.hi (Ak.op x))) (Vl.s (Opr.hi (Ak.op x)))) (List.map ndOf (ndv (Opr.nodes (Ak.op x)))) (List.map lkOf (lkv (Opr.links (Ak.op x))))) && (fewB (Opr.mk (Opr.k (Ak.op x)) (Opr.edge (Ak.op x)) (Opr.out (Ak.op x)) (Opr.id (Ak.op x)) (Opr.fr (Ak.op x)) (Opr.tw (Ak.op x)) (Opr.most (Ak.op x)) (0 : Int) (Opr.label (Ak.op x)) (Opr.key (Ak.op x)) (List.map prOf (prv (Opr.props (Ak.op x)))) (List.map AVal.strOf (strv (Opr.keys (Ak.op x)))) (Vl.mk (Vl.k (Opr.lo (Ak.op x))) (Vl.n (Opr.lo (Ak.op x))) (Vl.s (Opr.lo (Ak.op x)))) (Vl.mk (Vl.k (Opr.hi (Ak.op x))) (Vl.n (Opr.hi (Ak.op x))) (Vl.s (Opr.hi (Ak.op x)))) (List.map ndOf (ndv (Opr.nodes (Ak.op x)))) (List.map lkOf (lkv (Opr.links (Ak.op x))))) && (hold (decide (List.length (wordsO (Opr.mk (Opr.k (Ak.op x)) (Opr.edge (Ak.op x)) (Opr.out (Ak.op x)) (Opr.id (Ak.op x)) (Opr.fr (Ak.op x)) (Opr.tw (Ak.op x)) (Opr.most (Ak.op x)) (0 : Int) (Opr.label (Ak.op x)) (Opr.key (Ak.op x)) (List.map prOf (prv (Opr.props (Ak.op x)))) (List.map AVal.strOf (strv (Opr.keys (Ak.op x)))) (Vl.mk (Vl.k (Opr.lo (Ak.op x))) (Vl.n (Opr.lo (Ak.op x))) (Vl.s (Opr.lo (Ak.op x)))) (Vl.mk (Vl.k (Opr.hi (Ak.op x))) (Vl.n (Opr.hi (Ak.op x))) (Vl.s (Opr.hi (Ak.op x)))) (List.map ndOf (ndv (Opr.nodes (Ak.op x)))) (List.map lkOf (lkv (Opr.links (Ak.op x)))))) ≤ 1000000)) && hold (decide (List.length (joinT (wordsA (Ak.mk (Ak.verb x) (Opr.mk (Opr.k (Ak.op x)) (Opr.edge (Ak.op x)) (Opr.out (Ak.op x)) (Opr.id (Ak.op x)) (Opr.fr (Ak.op x)) (Opr.tw (Ak.op x)) (Opr.most (Ak.op x)) (0 : Int) (Opr.label (Ak.op x)) (Opr.key (Ak.op x)) (List.map prOf (prv (Opr.props (Ak.op x)))) (List.map AVal.strOf (strv (Opr.keys (Ak.op x)))) (Vl.mk (Vl.k (Opr.lo (Ak.op x))) (Vl.n (Opr.lo (Ak.op x))) (Vl.s (Opr.lo (Ak.op x)))) (Vl.mk (Vl.k (Opr.hi (Ak.op x))) (Vl.n (Opr.hi (Ak.op x))) (Vl.s (Opr.hi (Ak.op x)))) (List.map ndOf (ndv (Opr.nodes (Ak.op x)))) (List.map lkOf (lkv (Opr.links (Ak.op x)))))))) ≤ 100000000000000)))))) (∀ (y_4 : Txt × Int), y_4 = printA (Ak.mk (Ak.verb y) (Opr.mk (Opr.k (Ak.op y)) (Opr.edge (Ak.op y)) (Opr.out (Ak.op y)) (Opr.id (Ak.op y)) (Opr.fr (Ak.op y)) (Opr.tw (Ak.op y)) (Opr.most (Ak.op y)) (0 : Int) (Opr.label (Ak.op y)) (Opr.key (Ak.op y)) (List.map prOf (prv (Opr.props (Ak.op y)))) (List.map AVal.strOf (strv (Opr.keys (Ak.op y)))) (Vl.mk (Vl.k (Opr.lo (Ak.op y))) (Vl.n (Opr.lo (Ak.op y))) (Vl.s (Opr.lo (Ak.op y)))) (Vl.mk (Vl.k (Opr.hi (Ak.op y))) (Vl.n (Opr.hi (Ak.op y))) (Vl.s (Opr.hi (Ak.op y)))) (List.map ndOf (ndv (Opr.nodes (Ak.op y)))) (List.map lkOf (lkv (Opr.links (Ak.op y)))))) → gb (List.all (prv (Opr.props (Ak.op y))) prIs && (List.all (strv (Opr.keys (Ak.op y))) strIs && (List.all (ndv (Opr.nodes (Ak.op y))) ndIs && List.all (lkv (Opr.links (Ak.op y))) lkIs)) && (fitB (Opr.mk (Opr.k (Ak.op y)) (Opr.edge (Ak.op y)) (Opr.out (Ak.op y)) (Opr.id (Ak.op y)) (Opr.fr (Ak.op y)) (Opr.tw (Ak.op y)) (Opr.most (Ak.op y)) (0 : Int) (Opr.label (Ak.op y)) (Opr.key (Ak.op y)) (List.map prOf (prv (Opr.props (Ak.op y)))) (List.map AVal.strOf (strv (Opr.keys (Ak.op y)))) (Vl.mk (Vl.k (Opr.lo (Ak.op y))) (Vl.n (Opr.lo (Ak.op y))) (Vl.s (Opr.lo (Ak.op y)))) (Vl.mk (Vl.k (Opr.hi (Ak.op y))) (Vl.n (Opr.hi (Ak.op y))) (Vl.s (Opr.hi (Ak.op y)))) (List.map ndOf (ndv (Opr.nodes (Ak.op y)))) (List.map lkOf (lkv (Opr.links (Ak.op y))))) && (fewB (Opr.mk (Opr.k (Ak.op y)) (Opr.edge (Ak.op y)) (Opr.out (Ak.op y)) (Opr.id (Ak.op y)) (Opr.fr (Ak.op y)) (Opr.tw (Ak.op y)) (Opr.most (Ak.op y)) (0 : Int) (Opr.label (Ak.op y)) (Opr.key (Ak.op y)) (List.map prOf (prv (Opr.props (Ak.op y)))) (List.map AVal.strOf (strv (Opr.keys (Ak.op y)))) (Vl.mk (Vl.k (Opr.lo (Ak.op y))) (Vl.n (Opr.lo (Ak.op y))) (Vl.s (Opr.lo (Ak.op y)))) (Vl.mk (Vl.k (Opr.hi (Ak.op y))) (Vl.n (Opr.hi (Ak.op y))) (Vl.s (Opr.hi (Ak.op y)))) (List.map ndOf (ndv (Opr.nodes (Ak.op y)))) (List.map lkOf (lkv (Opr.links (Ak.op y))))) && (hold (decide (List.length (wordsO (Opr.mk (Opr.k (Ak.op y)) (Opr.edge (Ak.op y)) (Opr.out (Ak.op y)) (Opr.id (Ak.op y)) (Opr.fr (Ak.op y)) (Opr.tw (Ak.op y)) (Opr.most (Ak.op y)) (0 : Int) (Opr.label (Ak.op y)) (Opr.key (Ak.op y)) (List.map prOf (prv (Opr.props (Ak.op y)))) (List.map AVal.strOf (strv (Opr.keys (Ak.op y)))) (Vl.mk (Vl.k (Opr.lo (Ak.op y))) (Vl.n (Opr.lo (Ak.op y))) (Vl.s (Opr.lo (Ak.op y)))) (Vl.mk (Vl.k (Opr.hi (Ak.op y))) (Vl.n (Opr.hi (Ak.op y))) (Vl.s (Opr.hi (Ak.op y)))) (List.map ndOf (ndv (Opr.nodes (Ak.op y)))) (List.map lkOf (lkv (Opr.links (Ak.op y)))))) ≤ 1000000)) && hold (decide (List.length (joinT (wordsA (Ak.mk (Ak.verb y) (Opr.mk (Opr.k (Ak.op y)) (Opr.edge (Ak.op y)) (Opr.out (Ak.op y)) (Opr.id (Ak.op y)) (Opr.fr (Ak.op y)) (Opr.tw (Ak.op y)) (Opr.most (Ak.op y)) (0 : Int) (Opr.label (Ak.op y)) (Opr.key (Ak.op y)) (List.map prOf (prv (Opr.props (Ak.op y)))) (List.map AVal.strOf (strv (Opr.keys (Ak.op y)))) (Vl.mk (Vl.k (Opr.lo (Ak.op y))) (Vl.n (Opr.lo (Ak.op y))) (Vl.s (Opr.lo (Ak.op y)))) (Vl.mk (Vl.k (Opr.hi (Ak.op y))) (Vl.n (Opr.hi (Ak.op y))) (Vl.s (Opr.hi (Ak.op y)))) (List.map ndOf (ndv (Opr.nodes (Ak.op y)))) (List.map lkOf (lkv (Opr.links (Ak.op y)))))))) ≤ 100000000000000)))))) (brV (hold (Prod.snd y_3 != (0 : Int))) false (brV (hold (Prod.snd y_4 != (0 : Int))) false (∀ (y_5 : Bool), y_5 = hold (decide (Ak.verb (Ak.mk (Ak.verb x) (Opr.mk (Opr.k (Ak.op x)) (Opr.edge (Ak.op x)) (Opr.out (Ak.op x)) (Opr.id (Ak.op x)) (Opr.fr (Ak.op x)) (Opr.tw (Ak.op x)) (Opr.most (Ak.op x)) (0 : Int) (Opr.label (Ak.op x)) (Opr.key (Ak.op x)) (List.map prOf (prv (Opr.props (Ak.op x)))) (List.map AVal.strOf (strv (Opr.keys (Ak.op x)))) (Vl.mk (Vl.k (Opr.lo (Ak.op x))) (Vl.n (Opr.lo (Ak.op x))) (Vl.s (Opr.lo (Ak.op x)))) (Vl.mk (Vl.k (Opr.hi (Ak.op x))) (Vl.n (Opr.hi (Ak.op x))) (Vl.s (Opr.hi (Ak.op x)))) (List.map ndOf (ndv (Opr.nodes (Ak.op x)))) (List.map lkOf (lkv (Opr.links (Ak.op x)))))) = Ak.verb (Ak.mk (Ak.verb y) (Opr.mk (Opr.k (Ak.op y)) (Opr.edge (Ak.op y)) (Opr.out (Ak.op y)) (Opr.id (Ak.op y)) (Opr.fr (Ak.op y)) (Opr.tw (Ak.op y)) (Opr.most (Ak.op y)) (0 : Int) (Opr.label (Ak.op y)) (Opr.key (Ak.op y)) (List.map prOf (prv (Opr.props (Ak.op y)))) (List.map AVal.strOf (strv (Opr.keys (Ak.op y)))) (Vl.mk (Vl.k (Opr.lo (Ak.op y))) (Vl.n (Opr.lo (Ak.op y))) (Vl.s (Opr.lo (Ak.op y)))) (Vl.mk (Vl.k (Opr.hi (Ak.op y))) (Vl.n (Opr.hi (Ak.op y))) (Vl.s (Opr.hi (Ak.op y)))) (List.map ndOf (ndv (Opr.nodes (Ak.op y)))) (List.map lkOf (lkv (Opr.links (Ak.op y))))))) && sameO (Opr.mk (Opr.k (Ak.op x)) (Opr.edge (Ak.op x)) (Opr.out (Ak.op x)) (Opr.id (Ak.op x)) (Opr.fr (Ak.op x)) (Opr.tw (Ak.op x)) (Opr.most (Ak.op x)) (0 : Int) (Opr.label (Ak.op x)) (Opr.key (Ak.op x)) (List.map prOf (prv (Opr.props (Ak.op x)))) (List.map AVal.strOf (strv (Opr.keys (Ak.op x)))) (Vl.mk (Vl.k (Opr.lo (Ak.op x))) (Vl.n (Opr.lo (Ak.op x))) (Vl.s (Opr.lo (Ak.op x)))) (Vl.mk (Vl.k (Opr.hi (Ak.op x))) (Vl.n (Opr.hi (Ak.op x))) (Vl.s (Opr.hi (Ak.op x)))) (List.map ndOf (ndv (Opr.nodes (Ak.op x)))) (List.map lkOf (lkv (Opr.links (Ak.op x))))) (Opr.mk (Opr.k (Ak.op y)) (Opr.edge (Ak.op y)) (Opr.out (Ak.op y)) (Opr.id (Ak.op y)) (Opr.fr (Ak.op y)) (Opr.tw (Ak.op y)) (Opr.most (Ak.op y)) (0 : Int) (Opr.label (Ak.op y)) (Opr.key (Ak.op y)) (List.map prOf (prv (Opr.props (Ak.op y)))) (List.map AVal.strOf (strv (Opr.keys (Ak.op y)))) (Vl.mk (Vl.k (Opr.lo (Ak.op y))) (Vl.n (Opr.lo (Ak.op y))) (Vl.s (Opr.lo (Ak.op y)))) (Vl.mk (Vl.k (Opr.hi (Ak.op y))) (Vl.n (Opr.hi (Ak.op y))) (Vl.s (Opr.hi (Ak.op y)))) (List.map ndOf (ndv (Opr.nodes (Ak.op y)))) (List.map lkOf (lkv (Opr.links (Ak.op y)))))) → gb (List.all (prv (Opr.props (Ak.op x))) prIs && (List.all (strv (Opr.keys (Ak.op x))) strIs && (List.all (ndv (Opr.nodes (Ak.op x))) ndIs && List.all (lkv (Opr.links (Ak.op x))) lkIs)) && (List.all (prv (Opr.props (Ak.op y))) prIs && (List.all (strv (Opr.keys (Ak.op y))) strIs && (List.all (ndv (Opr.nodes (Ak.op y))) ndIs && List.all (lkv (Opr.links (Ak.op y))) lkIs)) && (fewB (Opr.mk (Opr.k (Ak.op x)) (Opr.edge (Ak.op x)) (Opr.out (Ak.op x)) (Opr.id (Ak.op x)) (Opr.fr (Ak.op x)) (Opr.tw (Ak.op x)) (Opr.most (Ak.op x)) (0 : Int) (Opr.label (Ak.op x)) (Opr.key (Ak.op x)) (List.map prOf (prv (Opr.props (Ak.op x)))) (List.map AVal.strOf (strv (Opr.keys (Ak.op x)))) (Vl.mk (Vl.k (Opr.lo (Ak.op x))) (Vl.n (Opr.lo (Ak.op x))) (Vl.s (Opr.lo (Ak.op x)))) (Vl.mk (Vl.k (Opr.hi (Ak.op x))) (Vl.n (Opr.hi (Ak.op x))) (Vl.s (Opr.hi (Ak.op x)))) (List.map ndOf (ndv (Opr.nodes (Ak.op x)))) (List.map lkOf (lkv (Opr.links (Ak.op x))))) && fewB (Opr.mk (Opr.k (Ak.op y)) (Opr.edge (Ak.op y)) (Opr.out (Ak.op y)) (Opr.id (Ak.op y)) (Opr.fr (Ak.op y)) (Opr.tw (Ak.op y)) (Opr.most (Ak.op y)) (0 : Int) (Opr.label (Ak.op y)) (Opr.key (Ak.op y)) (List.map prOf (prv (Opr.props (Ak.op y)))) (List.map AVal.strOf (strv (Opr.keys (Ak.op y)))) (Vl.mk (Vl.k (Opr.lo (Ak.op y))) (Vl.n (Opr.lo (Ak.op y))) (Vl.s (Opr.lo (Ak.op y)))) (Vl.mk (Vl.k (Opr.hi (Ak.op y))) (Vl.n (Opr.hi (Ak.op y))) (Vl.s (Opr.hi (Ak.op y)))) (List.map ndOf (ndv (Opr.nodes (Ak.op y)))) (List.map lkOf (lkv (Opr.links (Ak.op y)))))))) (Q (AVal.bool (hold (hold (Prod.fst y_3 == Prod.fst y_4) == y_5))) Sto.empty)) (Q (AVal.bool true) Sto.empty)) (Q (AVal.bool true) Sto.empty)))))) (Q (AVal.bool true) Sto.empty))) := by kernel_rfl
theorem askApart_i (x y : Ak) (Q : AVal → Sto → Prop) (ho : OrcOk Tryd.prog cAsk) (h : ∀ (y_1 : Bool), y_1 = smallT (Opr.mk (Opr.k (Ak.op x)) (Opr.edge (Ak.op x)) (Opr.out (Ak.op x)) (Opr.id (Ak.op x)) (Opr.fr (Ak.op x)) (Opr.tw (Ak.op x)) (Opr.most (Ak.op x)) (Opr.steps (Ak.op x)) (Opr.label (Ak.op x)) (Opr.key (Ak.op x)) (List.map prOf (prv (Opr.props (Ak.op x)))) (List.map AVal.strOf (strv (Opr.keys (Ak.op x)))) (Vl.mk (Vl.k (Opr.lo (Ak.op x))) (Vl.n (Opr.lo (Ak.op x))) (Vl.s (Opr.lo (Ak.op x)))) (Vl.mk (Vl.k (Opr.hi (Ak.op x))) (Vl.n (Opr.hi (Ak.op x))) (Vl.s (Opr.hi (Ak.op x)))) (List.map ndOf (ndv (Opr.nodes (Ak.op x)))) (List.map lkOf (lkv (Opr.links (Ak.op x))))) → gb (List.all (prv (Opr.props (Ak.op x))) prIs && (List.all (strv (Opr.keys (Ak.op x))) strIs && (List.all (ndv (Opr.nodes (Ak.op x))) ndIs && List.all (lkv (Opr.links (Ak.op x))) lkIs))) (brV (!y_1) false (∀ (y_2 : Bool), y_2 = smallT (Opr.mk (Opr.k (Ak.op y)) (Opr.edge (Ak.op y)) (Opr.out (Ak.op y)) (Opr.id (Ak.op y)) (Opr.fr (Ak.op y)) (Opr.tw (Ak.op y)) (Opr.most (Ak.op y)) (Opr.steps (Ak.op y)) (Opr.label (Ak.op y)) (Opr.key (Ak.op y)) (List.map prOf (prv (Opr.props (Ak.op y)))) (List.map AVal.strOf (strv (Opr.keys (Ak.op y)))) (Vl.mk (Vl.k (Opr.lo (Ak.op y))) (Vl.n (Opr.lo (Ak.op y))) (Vl.s (Opr.lo (Ak.op y)))) (Vl.mk (Vl.k (Opr.hi (Ak.op y))) (Vl.n (Opr.hi (Ak.op y))) (Vl.s (Opr.hi (Ak.op y)))) (List.map ndOf (ndv (Opr.nodes (Ak.op y)))) (List.map lkOf (lkv (Opr.links (Ak.op y))))) → gb (List.all (prv (Opr.props (Ak.op y))) prIs && (List.all (strv (Opr.keys (Ak.op y))) strIs && (List.all (ndv (Opr.nodes (Ak.op y))) ndIs && List.all (lkv (Opr.links (Ak.op y))) lkIs))) (brV (!y_2) true (Q (AVal.bool true) Sto.empty) (∀ (y_3 : Txt × Int), y_3 = printA (Ak.mk (Ak.verb x) (Opr.mk (Opr.k (Ak.op x)) (Opr.edge (Ak.op x)) (Opr.out (Ak.op x)) (Opr.id (Ak.op x)) (Opr.fr (Ak.op x)) (Opr.tw (Ak.op x)) (Opr.most (Ak.op x)) (0 : Int) (Opr.label (Ak.op x)) (Opr.key (Ak.op x)) (List.map prOf (prv (Opr.props (Ak.op x)))) (List.map AVal.strOf (strv (Opr.keys (Ak.op x)))) (Vl.mk (Vl.k (Opr.lo (Ak.op x))) (Vl.n (Opr.lo (Ak.op x))) (Vl.s (Opr.lo (Ak.op x)))) (Vl.mk (Vl.k (Opr.hi (Ak.op x))) (Vl.n (Opr.hi (Ak.op x))) (Vl.s (Opr.hi (Ak.op x)))) (List.map ndOf (ndv (Opr.nodes (Ak.op x)))) (List.map lkOf (lkv (Opr.links (Ak.op x)))))) → gb (List.all (prv (Opr.props (Ak.op x))) prIs && (List.all (strv (Opr.keys (Ak.op x))) strIs && (List.all (ndv (Opr.nodes (Ak.op x))) ndIs && List.all (lkv (Opr.links (Ak.op x))) lkIs)) && (fitB (Opr.mk (Opr.k (Ak.op x)) (Opr.edge (Ak.op x)) (Opr.out (Ak.op x)) (Opr.id (Ak.op x)) (Opr.fr (Ak.op x)) (Opr.tw (Ak.op x)) (Opr.most (Ak.op x)) (0 : Int) (Opr.label (Ak.op x)) (Opr.key (Ak.op x)) (List.map prOf (prv (Opr.props (Ak.op x)))) (List.map AVal.strOf (strv (Opr.keys (Ak.op x)))) (Vl.mk (Vl.k (Opr.lo (Ak.op x))) (Vl.n (Opr.lo (Ak.op x))) (Vl.s (Opr.lo (Ak.op x)))) (Vl.mk (Vl.k (Opr.hi (Ak.op x))) (Vl.n (Opr.hi (Ak.op x))) (Vl.s (Opr.hi (Ak.op x)))) (List.map ndOf (ndv (Opr.nodes (Ak.op x)))) (List.map lkOf (lkv (Opr.links (Ak.op x))))) && (fewB (Opr.mk (Opr.k (Ak.op x)) (Opr.edge (Ak.op x)) (Opr.out (Ak.op x)) (Opr.id (Ak.op x)) (Opr.fr (Ak.op x)) (Opr.tw (Ak.op x)) (Opr.most (Ak.op x)) (0 : Int) (Opr.label (Ak.op x)) (Opr.key (Ak.op x)) (List.map prOf (prv (Opr.props (Ak.op x)))) (List.map AVal.strOf (strv (Opr.keys (Ak.op x)))) (Vl.mk (Vl.k (Opr.lo (Ak.op x))) (Vl.n (Opr.lo (Ak.op x))) (Vl.s (Opr.lo (Ak.op x)))) (Vl.mk (Vl.k (Opr.hi (Ak.op x))) (Vl.n (Opr.hi (Ak.op x))) (Vl.s (Opr.hi (Ak.op x)))) (List.map ndOf (ndv (Opr.nodes (Ak.op x)))) (List.map lkOf (lkv (Opr.links (Ak.op x))))) && (hold (decide (List.length (wordsO (Opr.mk (Opr.k (Ak.op x)) (Opr.edge (Ak.op x)) (Opr.out (Ak.op x)) (Opr.id (Ak.op x)) (Opr.fr (Ak.op x)) (Opr.tw (Ak.op x)) (Opr.most (Ak.op x)) (0 : Int) (Opr.label (Ak.op x)) (Opr.key (Ak.op x)) (List.map prOf (prv (Opr.props (Ak.op x)))) (List.map AVal.strOf (strv (Opr.keys (Ak.op x)))) (Vl.mk (Vl.k (Opr.lo (Ak.op x))) (Vl.n (Opr.lo (Ak.op x))) (Vl.s (Opr.lo (Ak.op x)))) (Vl.mk (Vl.k (Opr.hi (Ak.op x))) (Vl.n (Opr.hi (Ak.op x))) (Vl.s (Opr.hi (Ak.op x)))) (List.map ndOf (ndv (Opr.nodes (Ak.op x)))) (List.map lkOf (lkv (Opr.links (Ak.op x)))))) ≤ 1000000)) && hold (decide (List.length (joinT (wordsA (Ak.mk (Ak.verb x) (Opr.mk (Opr.k (Ak.op x)) (Opr.edge (Ak.op x)) (Opr.out (Ak.op x)) (Opr.id (Ak.op x)) (Opr.fr (Ak.op x)) (Opr.tw (Ak.op x)) (Opr.most (Ak.op x)) (0 : Int) (Opr.label (Ak.op x)) (Opr.key (Ak.op x)) (List.map prOf (prv (Opr.props (Ak.op x)))) (List.map AVal.strOf (strv (Opr.keys (Ak.op x)))) (Vl.mk (Vl.k (Opr.lo (Ak.op x))) (Vl.n (Opr.lo (Ak.op x))) (Vl.s (Opr.lo (Ak.op x)))) (Vl.mk (Vl.k (Opr.hi (Ak.op x))) (Vl.n (Opr.hi (Ak.op x))) (Vl.s (Opr.hi (Ak.op x)))) (List.map ndOf (ndv (Opr.nodes (Ak.op x)))) (List.map lkOf (lkv (Opr.links (Ak.op x)))))))) ≤ 100000000000000)))))) (∀ (y_4 : Txt × Int), y_4 = printA (Ak.mk (Ak.verb y) (Opr.mk (Opr.k (Ak.op y)) (Opr.edge (Ak.op y)) (Opr.out (Ak.op y)) (Opr.id (Ak.op y)) (Opr.fr (Ak.op y)) (Opr.tw (Ak.op y)) (Opr.most (Ak.op y)) (0 : Int) (Opr.label (Ak.op y)) (Opr.key (Ak.op y)) (List.map prOf (prv (Opr.props (Ak.op y)))) (List.map AVal.strOf (strv (Opr.keys (Ak.op y)))) (Vl.mk (Vl.k (Opr.lo (Ak.op y))) (Vl.n (Opr.lo (Ak.op y))) (Vl.s (Opr.lo (Ak.op y)))) (Vl.mk (Vl.k (Opr.hi (Ak.op y))) (Vl.n (Opr.hi (Ak.op y))) (Vl.s (Opr.hi (Ak.op y)))) (List.map ndOf (ndv (Opr.nodes (Ak.op y)))) (List.map lkOf (lkv (Opr.links (Ak.op y)))))) → gb (List.all (prv (Opr.props (Ak.op y))) prIs && (List.all (strv (Opr.keys (Ak.op y))) strIs && (List.all (ndv (Opr.nodes (Ak.op y))) ndIs && List.all (lkv (Opr.links (Ak.op y))) lkIs)) && (fitB (Opr.mk (Opr.k (Ak.op y)) (Opr.edge (Ak.op y)) (Opr.out (Ak.op y)) (Opr.id (Ak.op y)) (Opr.fr (Ak.op y)) (Opr.tw (Ak.op y)) (Opr.most (Ak.op y)) (0 : Int) (Opr.label (Ak.op y)) (Opr.key (Ak.op y)) (List.map prOf (prv (Opr.props (Ak.op y)))) (List.map AVal.strOf (strv (Opr.keys (Ak.op y)))) (Vl.mk (Vl.k (Opr.lo (Ak.op y))) (Vl.n (Opr.lo (Ak.op y))) (Vl.s (Opr.lo (Ak.op y)))) (Vl.mk (Vl.k (Opr.hi (Ak.op y))) (Vl.n (Opr.hi (Ak.op y))) (Vl.s (Opr.hi (Ak.op y)))) (List.map ndOf (ndv (Opr.nodes (Ak.op y)))) (List.map lkOf (lkv (Opr.links (Ak.op y))))) && (fewB (Opr.mk (Opr.k (Ak.op y)) (Opr.edge (Ak.op y)) (Opr.out (Ak.op y)) (Opr.id (Ak.op y)) (Opr.fr (Ak.op y)) (Opr.tw (Ak.op y)) (Opr.most (Ak.op y)) (0 : Int) (Opr.label (Ak.op y)) (Opr.key (Ak.op y)) (List.map prOf (prv (Opr.props (Ak.op y)))) (List.map AVal.strOf (strv (Opr.keys (Ak.op y)))) (Vl.mk (Vl.k (Opr.lo (Ak.op y))) (Vl.n (Opr.lo (Ak.op y))) (Vl.s (Opr.lo (Ak.op y)))) (Vl.mk (Vl.k (Opr.hi (Ak.op y))) (Vl.n (Opr.hi (Ak.op y))) (Vl.s (Opr.hi (Ak.op y)))) (List.map ndOf (ndv (Opr.nodes (Ak.op y)))) (List.map lkOf (lkv (Opr.links (Ak.op y))))) && (hold (decide (List.length (wordsO (Opr.mk (Opr.k (Ak.op y)) (Opr.edge (Ak.op y)) (Opr.out (Ak.op y)) (Opr.id (Ak.op y)) (Opr.fr (Ak.op y)) (Opr.tw (Ak.op y)) (Opr.most (Ak.op y)) (0 : Int) (Opr.label (Ak.op y)) (Opr.key (Ak.op y)) (List.map prOf (prv (Opr.props (Ak.op y)))) (List.map AVal.strOf (strv (Opr.keys (Ak.op y)))) (Vl.mk (Vl.k (Opr.lo (Ak.op y))) (Vl.n (Opr.lo (Ak.op y))) (Vl.s (Opr.lo (Ak.op y)))) (Vl.mk (Vl.k (Opr.hi (Ak.op y))) (Vl.n (Opr.hi (Ak.op y))) (Vl.s (Opr.hi (Ak.op y)))) (List.map ndOf (ndv (Opr.nodes (Ak.op y)))) (List.map lkOf (lkv (Opr.links (Ak.op y)))))) ≤ 1000000)) && hold (decide (List.length (joinT (wordsA (Ak.mk (Ak.verb y) (Opr.mk (Opr.k (Ak.op y)) (Opr.edge (Ak.op y)) (Opr.out (Ak.op y)) (Opr.id (Ak.op y)) (Opr.fr (Ak.op y)) (Opr.tw (Ak.op y)) (Opr.most (Ak.op y)) (0 : Int) (Opr.label (Ak.op y)) (Opr.key (Ak.op y)) (List.map prOf (prv (Opr.props (Ak.op y)))) (List.map AVal.strOf (strv (Opr.keys (Ak.op y)))) (Vl.mk (Vl.k (Opr.lo (Ak.op y))) (Vl.n (Opr.lo (Ak.op y))) (Vl.s (Opr.lo (Ak.op y)))) (Vl.mk (Vl.k (Opr.hi (Ak.op y))) (Vl.n (Opr.hi (Ak.op y))) (Vl.s (Opr.hi (Ak.op y)))) (List.map ndOf (ndv (Opr.nodes (Ak.op y)))) (List.map lkOf (lkv (Opr.links (Ak.op y)))))))) ≤ 100000000000000)))))) (brV (hold (Prod.snd y_3 != (0 : Int))) false (brV (hold (Prod.snd y_4 != (0 : Int))) false (∀ (y_5 : Bool), y_5 = hold (decide (Ak.verb (Ak.mk (Ak.verb x) (Opr.mk (Opr.k (Ak.op x)) (Opr.edge (Ak.op x)) (Opr.out (Ak.op x)) (Opr.id (Ak.op x)) (Opr.fr (Ak.op x)) (Opr.tw (Ak.op x)) (Opr.most (Ak.op x)) (0 : Int) (Opr.label (Ak.op x)) (Opr.key (Ak.op x)) (List.map prOf (prv (Opr.props (Ak.op x)))) (List.map AVal.strOf (strv (Opr.keys (Ak.op x)))) (Vl.mk (Vl.k (Opr.lo (Ak.op x))) (Vl.n (Opr.lo (Ak.op x))) (Vl.s (Opr.lo (Ak.op x)))) (Vl.mk (Vl.k (Opr.hi (Ak.op x))) (Vl.n (Opr.hi (Ak.op x))) (Vl.s (Opr.hi (Ak.op x)))) (List.map ndOf (ndv (Opr.nodes (Ak.op x)))) (List.map lkOf (lkv (Opr.links (Ak.op x)))))) = Ak.verb (Ak.mk (Ak.verb y) (Opr.mk (Opr.k (Ak.op y)) (Opr.edge (Ak.op y)) (Opr.out (Ak.op y)) (Opr.id (Ak.op y)) (Opr.fr (Ak.op y)) (Opr.tw (Ak.op y)) (Opr.most (Ak.op y)) (0 : Int) (Opr.label (Ak.op y)) (Opr.key (Ak.op y)) (List.map prOf (prv (Opr.props (Ak.op y)))) (List.map AVal.strOf (strv (Opr.keys (Ak.op y)))) (Vl.mk (Vl.k (Opr.lo (Ak.op y))) (Vl.n (Opr.lo (Ak.op y))) (Vl.s (Opr.lo (Ak.op y)))) (Vl.mk (Vl.k (Opr.hi (Ak.op y))) (Vl.n (Opr.hi (Ak.op y))) (Vl.s (Opr.hi (Ak.op y)))) (List.map ndOf (ndv (Opr.nodes (Ak.op y)))) (List.map lkOf (lkv (Opr.links (Ak.op y))))))) && sameO (Opr.mk (Opr.k (Ak.op x)) (Opr.edge (Ak.op x)) (Opr.out (Ak.op x)) (Opr.id (Ak.op x)) (Opr.fr (Ak.op x)) (Opr.tw (Ak.op x)) (Opr.most (Ak.op x)) (0 : Int) (Opr.label (Ak.op x)) (Opr.key (Ak.op x)) (List.map prOf (prv (Opr.props (Ak.op x)))) (List.map AVal.strOf (strv (Opr.keys (Ak.op x)))) (Vl.mk (Vl.k (Opr.lo (Ak.op x))) (Vl.n (Opr.lo (Ak.op x))) (Vl.s (Opr.lo (Ak.op x)))) (Vl.mk (Vl.k (Opr.hi (Ak.op x))) (Vl.n (Opr.hi (Ak.op x))) (Vl.s (Opr.hi (Ak.op x)))) (List.map ndOf (ndv (Opr.nodes (Ak.op x)))) (List.map lkOf (lkv (Opr.links (Ak.op x))))) (Opr.mk (Opr.k (Ak.op y)) (Opr.edge (Ak.op y)) (Opr.out (Ak.op y)) (Opr.id (Ak.op y)) (Opr.fr (Ak.op y)) (Opr.tw (Ak.op y)) (Opr.most (Ak.op y)) (0 : Int) (Opr.label (Ak.op y)) (Opr.key (Ak.op y)) (List.map prOf (prv (Opr.props (Ak.op y)))) (List.map AVal.strOf (strv (Opr.keys (Ak.op y)))) (Vl.mk (Vl.k (Opr.lo (Ak.op y))) (Vl.n (Opr.lo (Ak.op y))) (Vl.s (Opr.lo (Ak.op y)))) (Vl.mk (Vl.k (Opr.hi (Ak.op y))) (Vl.n (Opr.hi (Ak.op y))) (Vl.s (Opr.hi (Ak.op y)))) (List.map ndOf (ndv (Opr.nodes (Ak.op y)))) (List.map lkOf (lkv (Opr.links (Ak.op y)))))) → gb (List.all (prv (Opr.props (Ak.op x))) prIs && (List.all (strv (Opr.keys (Ak.op x))) strIs && (List.all (ndv (Opr.nodes (Ak.op x))) ndIs && List.all (lkv (Opr.links (Ak.op x))) lkIs)) && (List.all (prv (Opr.props (Ak.op y))) prIs && (List.all (strv (Opr.keys (Ak.op y))) strIs && (List.all (ndv (Opr.nodes (Ak.op y))) ndIs && List.all (lkv (Opr.links (Ak.op y))) lkIs)) && (fewB (Opr.mk (Opr.k (Ak.op x)) (Opr.edge (Ak.op x)) (Opr.out (Ak.op x)) (Opr.id (Ak.op x)) (Opr.fr (Ak.op x)) (Opr.tw (Ak.op x)) (Opr.most (Ak.op x)) (0 : Int) (Opr.label (Ak.op x)) (Opr.key (Ak.op x)) (List.map prOf (prv (Opr.props (Ak.op x)))) (List.map AVal.strOf (strv (Opr.keys (Ak.op x)))) (Vl.mk (Vl.k (Opr.lo (Ak.op x))) (Vl.n (Opr.lo (Ak.op x))) (Vl.s (Opr.lo (Ak.op x)))) (Vl.mk (Vl.k (Opr.hi (Ak.op x))) (Vl.n (Opr.hi (Ak.op x))) (Vl.s (Opr.hi (Ak.op x)))) (List.map ndOf (ndv (Opr.nodes (Ak.op x)))) (List.map lkOf (lkv (Opr.links (Ak.op x))))) && fewB (Opr.mk (Opr.k (Ak.op y)) (Opr.edge (Ak.op y)) (Opr.out (Ak.op y)) (Opr.id (Ak.op y)) (Opr.fr (Ak.op y)) (Opr.tw (Ak.op y)) (Opr.most (Ak.op y)) (0 : Int) (Opr.label (Ak.op y)) (Opr.key (Ak.op y)) (List.map prOf (prv (Opr.props (Ak.op y)))) (List.map AVal.strOf (strv (Opr.keys (Ak.op y)))) (Vl.mk (Vl.k (Opr.lo (Ak.op y))) (Vl.n (Opr.lo (Ak.op y))) (Vl.s (Opr.lo (Ak.op y)))) (Vl.mk (Vl.k (Opr.hi (Ak.op y))) (Vl.n (Opr.hi (Ak.op y))) (Vl.s (Opr.hi (Ak.op y)))) (List.map ndOf (ndv (Opr.nodes (Ak.op y)))) (List.map lkOf (lkv (Opr.links (Ak.op y)))))))) (Q (AVal.bool (hold (hold (Prod.fst y_3 == Prod.fst y_4) == y_5))) Sto.empty)) (Q (AVal.bool true) Sto.empty)) (Q (AVal.bool true) Sto.empty)))))) (Q (AVal.bool true) Sto.empty))) : ACall Tryd.prog 3 [Ak.a x, Ak.a y] (Sto.empty) Q :=
  ACall.intro hmix Tryd.func3 (c := code_3_) (by kernel_rfl) cAsk ho (Nat.le_of_ble_eq_true (by kernel_rfl)) (by rw [askApart_r]; exact h)
end Go.Proofs.YtcijjgfadkflmaaDoor
end
