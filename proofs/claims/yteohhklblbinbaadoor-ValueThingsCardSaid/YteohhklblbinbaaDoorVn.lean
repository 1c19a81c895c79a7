/-
  Seat 02 (value): contracts: numbers and texts as texts, and back.
-/
import Derived.Test.YteohhklblbinbaaDoorVs
import Derived.Lib.AppendIntMem
import Derived.Lib.AtoiErrMem
import Derived.Lib.ItoaLen
namespace Go.Proofs.YteohhklblbinbaaDoor
open Go.AL Go.RowKit
set_option linter.unusedSimpArgs false
set_option linter.unusedVariables false
set_option maxHeartbeats 2000000
set_option maxRecDepth 20000
theorem PCall.ofBelowA {P : Program} {g : FuncId} {xs : List AVal} {v : AVal}
    (h : ∀ γ w vs, Amb γ w → RepL γ w false xs vs → Calls P g vs.toArray w fun e w' => ∃ u, e = .returned u ∧ Rep γ w' false v u ∧ Below w.heap.size w w') : PCall P g xs v :=
  fun σ γ w vs hi hr => (h γ w vs hi.amb hr).mono fun e w' ⟨u, h1, h2, h3⟩ =>
    ⟨u, v, γ, σ, h1, h2, hi.below h3, Evo.below (fun b o hm => hi.imm_lt hm) h3, rfl, rfl⟩
theorem tab_of {w : World} (h : Known w) : Lib.TabIs Tryd.prog w "internal/strconv.uint64pow10" .u64 Lib.pow10Tab := by
  have hc : ∀ i, i < 20 → w.cell? ⟨3, i, none⟩ = some (Value.int .u64 ((10 ^ i : Nat) : Int)) := fun i hi =>
    h.1 (3, i, Value.int .u64 ((10 ^ i : Nat) : Int)) (by unfold tabs; exact List.mem_map.2 ⟨i, List.mem_range.2 hi, rfl⟩)
  have hn : w.cell? ⟨3, 20, none⟩ = none := (h.2.2 (3, 20) (by unfold tabsB; exact List.mem_singleton.2 rfl)).2 20 (Nat.le_refl _)
  have hg : Tryd.prog.globalNamed "internal/strconv.uint64pow10" = some 3 := by kernel_rfl
  unfold Lib.TabIs World.var?
  rw [hg]
  simp only [Option.bind_some]
  have h0 := hc 0 (by decide)
  have hcs : ∃ cs T fz, w.heap[3]? = some (.cells cs T fz) := by
    cases hh : w.heap[3]? with
    | none => simp [World.cell?, hh] at h0
    | some o =>
      cases o with
      | cells cs T fz => exact ⟨_, _, _, rfl⟩
      | _ => simp [World.cell?, hh] at h0
  obtain ⟨cs, T, fz, hh⟩ := hcs
  rw [hh]
  simp only
  refine congrArg some ?_
  have get : ∀ i, w.cell? ⟨3, i, none⟩ = cs[i]? := fun i => by simp [World.cell?, hh]
  have hsz : cs.size = 20 := by
    have h19 := hc 19 (by decide)
    rw [get] at h19 hn
    have := (Array.getElem?_eq_some_iff.1 h19).1
    have := Array.getElem?_eq_none_iff.1 hn
    omega
  refine Array.ext (by rw [hsz]; simp [Lib.pow10Tab_length]) fun i h1 h2 => ?_
  have hi : i < 20 := by omega
  have := hc i hi
  rw [get, Array.getElem?_eq_getElem h1] at this
  rw [Option.some.inj this]
  have h3 := Lib.pow10Tab_at i hi
  have hl := Lib.pow10Tab_length
  simp only [List.getElem_toArray, List.getElem_map]
  rw [List.getD_eq_getElem?_getD, List.getElem?_eq_getElem (by omega)] at h3
  rw [← h3]; rfl
theorem itoa_ok : EntOk Tryd.prog itoaE := by
  intro xs σ; simp only [itoaE]; split
  · rename_i n
    intro hc
    have hn := i64r_of hc
    refine PCall.ofBelowA fun γ w vs ha hr => ?_
    obtain ⟨u, rfl, hu⟩ := repL1 hr
    cases hu
    exact (Tryd.strconv_Itoa n hn.1 hn.2 w (tab_of ha.1)).mono fun e w' ⟨he, k, os, hw⟩ => ⟨_, he, .str false _, by rw [hw]; exact Lib.below_grow _ _ (Nat.le_refl _) _ _⟩
  · trivial
theorem err_of {w : World} (h : Known w) (g : Nat) (hg : (g, 0, isErrV) ∈ tabsP) : ∃ ev, w.cell? ⟨g, 0, none⟩ = some ev ∧ (ev = .nilIface ∨ ∃ te pe, ev = .iface te pe) := by
  obtain ⟨v, h1, t, p, h2⟩ := h.2.1 _ hg
  exact ⟨v, h1, .inr ⟨t, p, h2⟩⟩
theorem atoi_ok : EntOk Tryd.prog atoiE := by
  intro xs σ; simp only [atoiE]; split
  · rename_i s
    have ho : ∀ v, Lib.atoiAll s = .ok v → numT s = some v := fun v h => by unfold numT; rw [h]
    have hx : ∀ e, Lib.atoiAll s = e → (∀ v, e ≠ .ok v) → numT s = none := fun e h hv => by
      unfold numT; rw [h]
      cases e with
      | ok v => exact (hv v rfl).elim
      | _ => rfl
    refine ⟨fun h1 hc => ?_, fun h1 hc => ?_⟩
    · rw [hold_eq] at h1
      have hs := lenT_of hc
      refine PCall.ofBelowA fun γ w vs ha hr => ?_
      obtain ⟨u, rfl, hu⟩ := repL1 hr
      have hu := repStr hu
      subst hu
      cases hq : Lib.atoiAll s with
      | ok v =>
        rw [ho v hq]
        exact (Tryd.strconv_Atoi_ok ⟨s.toArray⟩ (by rw [sizeT]; omega) v hq w).mono fun e w' ⟨he, hw⟩ => ⟨_, he, .tuple (.cons (.int _ _ _) (.cons (.nilIface _) (.nil _))), by
          rcases hw with rfl | ⟨t, rfl⟩
          · exact Below.refl _ _
          · exact Lib.bytesWorld_below _ _ _⟩
      | _ => rw [hx _ hq (fun v h => by cases h)] at h1; cases h1
    · rw [hold_eq] at h1
      have hs := lenT_of hc
      refine PCall.ofBelowA fun γ w vs ha hr => ?_
      obtain ⟨u, rfl, hu⟩ := repL1 hr
      have hu := repStr hu
      subst hu
      cases hq : Lib.atoiAll s with
      | ok v => rw [ho v hq] at h1; cases h1
      | range =>
        obtain ⟨ev, g1, g2⟩ := err_of ha.1 2 (by unfold tabsP; exact List.mem_cons_of_mem _ (List.mem_cons_self ..))
        exact (Tryd.strconv_Atoi_range ⟨s.toArray⟩ (by rw [sizeT]; omega) hq ev w g1 g2).mono fun e w' ⟨N, he, _, _, hb⟩ => ⟨_, he, .tuple (.cons (.int _ _ _) (.cons (.iface (.undef _ _)) (.nil _))), hb⟩
      | _ =>
        obtain ⟨ev, g1, g2⟩ := err_of ha.1 1 (by unfold tabsP; exact List.mem_cons_self ..)
        exact (Tryd.strconv_Atoi_syntax ⟨s.toArray⟩ (by rw [sizeT]; omega) hq ev w g1 g2).mono fun e w' ⟨N, he, _, _, hb⟩ => ⟨_, he, .tuple (.cons (.int _ _ _) (.cons (.iface (.undef _ _)) (.nil _))), hb⟩
  · trivial
theorem quote_ok : EntOk Tryd.prog quoteE := by
  intro xs σ; simp only [quoteE]; split
  · rename_i s
    intro hc
    refine PCall.ofBelow fun γ w vs hr => ?_
    obtain ⟨u, rfl, hu⟩ := repL1 hr
    have hu := repStr hu
    subst hu
    exact (quote_walk s w (by have := lenT_of hc; omega)).mono fun e w' ⟨he, hb⟩ => ⟨_, he, .str false _, hb⟩
  · trivial
theorem unquote_ok : EntOk Tryd.prog unquoteE := by
  intro xs σ; simp only [unquoteE]; split
  · rename_i s
    intro hc
    refine PCall.ofBelow fun γ w vs hr => ?_
    obtain ⟨u, rfl, hu⟩ := repL1 hr
    have hu := repStr hu
    subst hu
    refine (unquote_walk s w (lenT_of hc)).mono fun e w' ⟨he, hb⟩ => ⟨_, he, ?_, hb⟩
    rw [unqL_T]
    by_cases h : (unqT s).2 = true
    · rw [if_pos h, if_pos h, if_pos h]
      exact .tuple (.cons (.str false _) (.cons (.int false _ _) (.nil _)))
    · rw [if_neg h, if_neg h, if_neg h]
      exact .tuple (.cons (.str false []) (.cons (.int false _ _) (.nil _)))
  · trivial
theorem print_c (k n : Int) (s : Txt) (h0 : -9223372036854775808 ≤ n ∧ n ≤ 9223372036854775807) : ACall Tryd.prog 13 [.agg [.int .i64 k, .int .i64 n, .str s]] Sto.empty fun r _ => Wk r (.str (printV ⟨k, n, s⟩)) := by
  refine print_i k n s _ (.of [thingE, itoaE, quoteE] rfl ⟨thing_ok, itoa_ok, quote_ok, trivial⟩) ?_
  simp only [hold_eq]
  unfold printV
  simp only
  refine brV_by (fun h => ?_) (fun h => ?_)
  · rw [if_pos (of_decide_eq_true h)]
    intro y hy
    rw [hy]
    exact gb_by (i64r_mk h0) (Wk.refl _)
  · rw [if_neg (of_decide_eq_false h)]
    refine brV_by (fun h2 => ?_) (fun h2 => ?_)
    · have h3 := of_decide_eq_true h2
      rw [if_pos h3]
      intro y hy
      rw [hy]
      exact gb_by (lenT_mk (by omega)) (Wk.refl _)
    · rw [if_neg (of_decide_eq_false h2)]
      exact Wk.refl _
theorem print_ok : EntOk Tryd.prog printE := by
  intro xs σ; simp only [printE]; split
  · rename_i k n s
    intro hc
    exact pcall_of (v := .str _) (.refl _) (print_c k n s (i64r_of hc)) rfl rfl rfl rfl
  · trivial
theorem numT_bound {s : Txt} {n : Int} (h : numT s = some n) : -9223372036854775808 ≤ n ∧ n ≤ 9223372036854775807 := by
  unfold numT at h
  split at h
  · rename_i v hv
    cases h
    exact Lib.atoiAll_bounds hv
  · cases h
def resR (y : Option Vl) : AVal := .tuple [.agg [.int .i64 (y.getD .zero).k, .int .i64 (y.getD .zero).n, .str (y.getD .zero).s], .int .i64 (if y.isSome then 0 else 10)]
theorem read_c (s : Txt) (hs : s.length ≤ 1000000) : ACall Tryd.prog 12 [.str s] Sto.empty fun r _ => Wk r (resR (readV s)) := by
  refine read_i s _ (.of [atoiE, unquoteE, printE] rfl ⟨atoi_ok, unquote_ok, print_ok, trivial⟩) ?_
  simp only [hold_eq]
  intro y hy
  cases hy' : numT s with
  | some n =>
    rw [hy'] at hy
    subst hy
    have hb := numT_bound hy'
    refine brT rfl (gb_by (lenT_mk hs) ?_)
    intro p hp
    have hp : p = printV ⟨1, n, []⟩ := hp
    refine gb_by (i64r_mk hb) ?_
    have hr : readV s = if p = s then some ⟨1, n, []⟩ else none := by unfold readV; rw [hy', hp]
    rw [hr]
    refine brV_by (fun h => ?_) (fun h => ?_)
    · have h : ¬ p = s := by simpa using h
      rw [if_neg h]; exact Wk.refl _
    · have h : p = s := by simpa using h
      rw [if_pos h]; exact Wk.refl _
  | none =>
    rw [hy'] at hy
    subst hy
    refine brF rfl ?_
    intro z hz
    refine gb_by (lenT_mk hs) ?_
    intro b hb t ht
    refine gb_by (lenT_mk hs) ?_
    cases b with
    | false =>
      have hr : readV s = none := by unfold readV; rw [hy']; simp only [← hb]; rfl
      rw [hr]
      exact brF rfl (Wk.refl _)
    | true =>
      refine brT rfl ?_
      intro p hp
      have ht : t = (unqT s).1 := ht
      have hr : readV s = if p = s then some ⟨2, 0, t⟩ else none := by unfold readV; rw [hy', hp, ht]; simp only [← hb, if_true]
      rw [hr]
      refine gb_by (i64r_mk (by omega)) ?_
      refine brV_by (fun h => ?_) (fun h => ?_)
      · have h : ¬ p = s := by simpa using h
        rw [if_neg h]; exact Wk.refl _
      · have h : p = s := by simpa using h
        rw [if_pos h]; exact Wk.refl _
theorem read_ok : EntOk Tryd.prog readE := by
  intro xs σ; simp only [readE]; split
  · rename_i s
    intro hc
    exact pcall_of (v := resR _) (.refl _) (read_c s (lenT_of hc)) rfl rfl rfl rfl
  · trivial
theorem thingP_ok : EntOk Tryd.prog thingPE := by
  intro xs σ; simp only [thingPE]; split
  · rename_i k n s
    have h := fun Q => thingP_i k n s Q (.of [thingE] rfl ⟨thing_ok, trivial⟩)
    refine ⟨fun h1 _ => ?_, fun h1 => ⟨fun h2 _ => ?_, fun h2 _ => ?_⟩⟩
    · exact pcall_of (.refl _) (h _ (brT h1 (Wk.refl _))) rfl rfl rfl rfl
    · exact pcall_of (.refl _) (h _ (brF h1 (brT h2 (Wk.refl _)))) rfl rfl rfl rfl
    · exact pcall_of (.refl _) (h _ (brF h1 (brF h2 (Wk.refl _)))) rfl rfl rfl rfl
  · trivial
theorem number_ok : EntOk Tryd.prog numberE := by
  intro xs σ; simp only [numberE]; split
  · rename_i k n s
    intro hc
    exact pcall_of (.refl _) (number_i k n s _ (.of [thingE] rfl ⟨thing_ok, trivial⟩) (brT hc (Wk.refl _))) rfl rfl rfl rfl
  · trivial
theorem num_ok : EntOk Tryd.prog numE := by
  intro xs σ; simp only [numE]; split
  · intro _
    exact pcall_of (.refl _) (num_i _ _ (.of_none rfl) (Wk.refl _)) rfl rfl rfl rfl
  · trivial
theorem textL_ok : EntOk Tryd.prog textLE := by
  intro xs σ; simp only [textLE]; split
  · intro _
    exact pcall_of (.refl _) (textL_i _ _ (.of_none rfl) (Wk.refl _)) rfl rfl rfl rfl
  · trivial
theorem awake_ok : EntOk Tryd.prog awakeE := by
  intro xs σ; simp only [awakeE]; split
  · intro _
    refine pcall_of (.refl []) (awake_i _ (.of [bytesE, numE, textLE, readE, printE, numberE] rfl ⟨bytes_ok, num_ok, textL_ok, read_ok, print_ok, number_ok, trivial⟩) ?_) rfl rfl rfl rfl
    intro a ha b hb
    subst ha; subst hb
    refine gb_by (i64r_mk (by omega)) ?_
    intro a ha b hb
    subst ha; subst hb
    refine gb_by (i64r_mk (by omega)) ?_
    intro a ha b hb
    subst ha; subst hb
    simp only [hold_eq]
    refine gb_by (lenT_mk (by simp)) (brT rfl (gb_by (dt (bw_isU8 _)) (brT (by rw [map_byteOf_bw]; rfl) (brT rfl (gb_by (dt (bw_isU8 _)) (brT (by rw [map_byteOf_bw]; rfl) ?_))))))
    intro y hy
    subst hy
    refine gb_by (i64r_mk (by omega)) (brT rfl ?_)
    intro y hy
    subst hy
    exact gb_by (i64r_mk (by omega)) (brT rfl (brT rfl (gb_by rfl (Wk.refl _))))
  · trivial
end Go.Proofs.YteohhklblbinbaaDoor
