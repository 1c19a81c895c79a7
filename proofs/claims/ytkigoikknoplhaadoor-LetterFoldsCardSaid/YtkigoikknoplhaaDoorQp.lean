/-
  Seat 01 (letter): contracts out of the kit's walks: quoted texts, folded texts; the document's examples.
-/
import Derived.Test.YtkigoikknoplhaaDoorQo
import Derived.Test.YtkigoikknoplhaaDoorQv
namespace Go.Proofs.YtkigoikknoplhaaDoor
open Go.AL Go.RowKit
set_option linter.unusedSimpArgs false
set_option linter.unusedVariables false
set_option maxHeartbeats 2000000
set_option maxRecDepth 20000

theorem PCall.ofBelowA {P : Program} {g : FuncId} {xs : List AVal} {v : AVal}
    (h : ∀ γ w vs, Amb γ w → RepL γ w false xs vs → Calls P g vs.toArray w fun e w' => ∃ u, e = .returned u ∧ Rep γ w' false v u ∧ Below w.heap.size w w') : PCall P g xs v :=
  fun σ γ w vs hi hr => (h γ w vs hi.amb hr).mono fun e w' ⟨u, h1, h2, h3⟩ =>
    ⟨u, v, γ, σ, h1, h2, hi.below h3, Evo.below (fun b o hm => hi.imm_lt hm) h3, rfl, rfl⟩
theorem quote_ok : EntOk Tryd.prog quoteE := by
  intro xs σ; simp only [quoteE]; split
  · rename_i s
    intro hc
    refine PCall.ofBelow fun γ w vs hr => ?_
    obtain ⟨u, rfl, hu⟩ := repL1 hr
    have hu := repStr hu
    subst hu
    exact (quote_walk s w (by have := lenT_of hc; omega)).mono fun e w' ⟨he, hb⟩ => ⟨_, he, .str false _, hb⟩
  · trivial
theorem unquote_ok : EntOk Tryd.prog unquoteE := by
  intro xs σ; simp only [unquoteE]; split
  · rename_i s
    intro hc
    refine PCall.ofBelow fun γ w vs hr => ?_
    obtain ⟨u, rfl, hu⟩ := repL1 hr
    have hu := repStr hu
    subst hu
    refine (unquote_walk s w (lenT_of hc)).mono fun e w' ⟨he, hb⟩ => ⟨_, he, ?_, hb⟩
    rw [unqL_T]
    by_cases h : (unqT s).2 = true
    · rw [if_pos h, if_pos h, if_pos h]
      exact .tuple (.cons (.str false _) (.cons (.int false _ _) (.nil _)))
    · rw [if_neg h, if_neg h, if_neg h]
      exact .tuple (.cons (.str false []) (.cons (.int false _ _) (.nil _)))
  · trivial
theorem fold_c (r : Int) (h0 : 0 ≤ r) (h1 : r ≤ 1114111) : ACall Tryd.prog 34 [.int .i32 r] Sto.empty fun v _ => Wk v (.int .i32 (fdR r)) := by
  refine fold_i r _ (.of_none rfl) ?_
  have hw : IntKind.i32.wrap (r + 32) = r + 32 := by
    unfold IntKind.wrap
    simp [IntKind.bits, IntKind.signed]
    omega
  rw [hw]
  simp only [hold_eq]
  have fin : ∀ x : Int, x = fdR r → Wk (.int .i32 x) (.int .i32 (fdR r)) := fun x hx => by rw [hx]; exact Wk.refl _
  repeat' (first | refine brV_by (fun h => ?_) (fun h => ?_) | refine brV_by' (fun h => ?_) (fun h => ?_))
  all_goals
    refine fin _ ?_
    simp only [decide_eq_true_eq, decide_eq_false_iff_not, bne_iff_ne, bne_eq_false_iff_eq, ne_eq] at *
    unfold fdR
    split <;> omega
theorem mapD_R (f : Int → Int) (hf : ∀ r, 0 ≤ r → 0 ≤ f r) : ∀ (n : Nat) (l : List UInt8), l.length ≤ n → Lib.mapD f l = txtR ((runeL l).map f)
  | n, l, hn => by
    by_cases h : l = []
    · subst h; rfl
    · have h0 : 0 < l.length := List.length_pos_iff.2 h
      have hw : 1 ≤ (Lib.decodeL l).2 := by have := decW_pos h0; rwa [decW_L, List.drop_zero] at this
      rw [Lib.mapD_step f l h, runeL_cons h, if_pos (hf _ (by omega)), List.map_cons]
      cases n with
      | zero => omega
      | succ n =>
        rw [mapD_R f hf n _ (by rw [List.length_drop]; omega), encodeRune_A]; rfl
termination_by n => n
theorem fdR_nn (r : Int) (h : 0 ≤ r) : 0 ≤ fdR r := by unfold fdR; split <;> omega
theorem tabs_of {γ : Gh} {w : World} (h : Amb γ w) : Lib.Utf8Tabs 0 1 w := by
  refine ⟨fun c hc => ?_, fun i hi => ⟨?_, ?_⟩⟩
  · exact (h (0, c, .int .u8 (Lib.firstT c)) (by unfold tabs; exact List.mem_append_left _ (List.mem_map.2 ⟨c, List.mem_range.2 hc, rfl⟩))).2
  · exact (h (1, 2 * i, .int .u8 (Lib.accLo i)) (by unfold tabs; exact List.mem_append_right _ (List.mem_flatMap.2 ⟨i, List.mem_range.2 hi, by simp⟩))).2
  · exact (h (1, 2 * i + 1, .int .u8 (Lib.accHi i)) (by unfold tabs; exact List.mem_append_right _ (List.mem_flatMap.2 ⟨i, List.mem_range.2 hi, by simp⟩))).2
theorem map_ok : EntOk Tryd.prog mapE := by
  intro xs σ; simp only [mapE]; split
  · rename_i g s
    intro hc
    rw [Bool.and_eq_true] at hc
    have hg := Nat.eq_of_beq_eq_true hc.1
    subst hg
    refine PCall.ofBelowA fun γ w vs ha hr => ?_
    obtain ⟨u, v, rfl, hu, hv⟩ := repL2 hr
    have hv := repStr hv
    subst hv
    cases hu with
    | func hf hc2 =>
      cases hf; cases hc2
      have hs := lenT_of hc.2
      have hsz : (ByteArray.mk s.toArray).size = s.length := sizeT s
      refine (Tryd.strings_Map_grows 34 #[] (fun args w => ?_) fdR ⟨s.toArray⟩ w (by omega) ?_ (fun x hx => ?_) (tabs_of ha)).mono fun e w' ⟨he, hb⟩ => ⟨_, he, ?_, hb⟩
      · exact enters_of Tryd.func34 (by kernel_rfl) rfl args w
      · intro W x hx hb
        have hA : ∀ y ∈ tabs, W.cell? ⟨y.1, y.2.1, none⟩ = some y.2.2 := fun y hy => by
          have h1 := (ha y hy).2
          have hlt : y.1 < w.heap.size := by
            rcases Nat.lt_or_ge y.1 w.heap.size with h' | h'
            · exact h'
            · simp [World.cell?, Array.getElem?_eq_none h'] at h1
          rw [hb.cell (p := ⟨y.1, y.2.1, none⟩) hlt]; exact h1
        refine (ACall.top (fold_c (x : Int) (by omega) (by omega)) hA (vs := [.int .i32 (x : Int)]) (.cons (.int false _ _) (.nil _))).mono ?_
        rintro e W' ⟨v, r, γ', σ', he, hrep, hwk, hbl⟩
        refine ⟨?_, hbl⟩
        have := hwk _ _ _ _ hrep
        cases this
        exact he
      · have := fdR_nn x (by omega)
        have : fdR x ≤ (x : Int) + 32 := by unfold fdR; split <;> omega
        omega
      · have : (Lib.mapD fdR s) = txtR ((runeL s).map fdR) := mapD_R fdR fdR_nn _ s (Nat.le_refl _)
        rw [← this]
        exact .str false _
  · trivial
theorem fold_ok : EntOk Tryd.prog foldE := by
  intro xs σ; simp only [foldE]; split
  · rename_i s
    intro hc
    refine pcall_of (v := .str _) (.refl _) (foldT_i s _ (.of [mapE] rfl ⟨map_ok, trivial⟩) ?_) rfl rfl rfl rfl
    intro y hy
    refine gb_by (by first | exact hc | exact and_tt rfl hc) ?_
    rw [hy]; exact Wk.refl _
  · trivial
theorem brT {b : Bool} {A B : Prop} (hb : b = true) (h : A) : brV b true A B := by subst hb; exact brV_by (fun _ => h) (fun h => by cases h)
theorem awake_ok : EntOk Tryd.prog awakeE := by
  intro xs σ; simp only [awakeE]; split
  · intro _
    refine pcall_of (.refl []) (awake_i _ (.of [likeE, rightE, foldE, quoteE] rfl ⟨like_ok, right_ok, fold_ok, quote_ok, trivial⟩) ?_) rfl rfl rfl rfl
    intro a ha b hb
    subst ha; subst hb
    refine gb_by (and_tt (lenT_mk (by simp)) (lenT_mk (by simp))) ?_
    intro a ha b hb
    subst ha; subst hb
    simp only [hold_eq]
    have so : ∀ s : Txt, s.length ≤ 1000000 → (lenOk 1 && [AVal.str s].all strOk) = true := fun s hs => and_tt (lenOk_mk (by omega)) (by
      simp only [List.all_cons, List.all_nil, Bool.and_true]
      exact lenT_mk hs)
    refine gb_by (and_tt (lenT_mk (by simp)) (lenT_mk (by simp))) ?_
    refine gb_by (so _ (by simp)) (brT rfl (gb_by (so _ (by simp)) (brT rfl (gb_by (so _ (by simp)) (brT rfl (gb_by (so _ (by simp)) (brT rfl ?_)))))))
    intro y hy
    subst hy
    refine gb_by (lenT_mk (by simp)) (brT (by decide) (brT rfl (brT rfl (brT rfl (brT rfl ?_)))))
    intro y hy
    subst hy
    exact gb_by (lenT_mk (by simp)) (Wk.refl _)
  · trivial
end Go.Proofs.YtkigoikknoplhaaDoor
