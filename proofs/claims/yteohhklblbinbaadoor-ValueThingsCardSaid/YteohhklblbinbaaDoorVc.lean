/-
  Seat 02 (value): contracts: things, which values are right, the order.
-/
import Derived.Test.YteohhklblbinbaaDoorVr
namespace Go.AL
set_option linter.unusedSimpArgs false
set_option linter.unusedVariables false
@[simp] theorem vlv_length (l : List Vl) : (vlv l).length = l.length := by simp [vlv]
theorem elemAt_vlv (l : List Vl) (i : Nat) (h : i < l.length) : elemAt (vlv l) (i : Int) = [.int .i64 l[i].k, .int .i64 l[i].n, .str l[i].s] := elemAt_map Vl.a l i h
@[simp] theorem vlv_is (l : List Vl) : (vlv l).all isVl = true := by simp [vlv, isVl, Vl.a]
@[simp] theorem map_vlOf_vlv (l : List Vl) : (vlv l).map vlOf = l := by
  simp only [vlv, List.map_map]
  conv => rhs; rw [← List.map_id l]
  exact List.map_congr_left fun b _ => rfl
theorem vl_of1 {e : AVal} (h : isVl e = true) : (vlOf e).a = e := by
  unfold isVl at h
  split at h
  · rfl
  · cases h
theorem vl_of {es : List AVal} (h : es.all isVl = true) : es = vlv (es.map vlOf) := by
  unfold vlv
  rw [List.map_map]
  conv => lhs; rw [← List.map_id es]
  exact List.map_congr_left fun e he => (vl_of1 (List.all_eq_true.1 h e he)).symm
theorem wk_vlv {s : Nat} {es : List AVal} (t : Tag) (hn : okW 3 s es = true) (h : es.all isVl = true) : Wk (.slice es s t) (.slice (vlv (es.map vlOf)) 3 .ro) := by
  rw [← vl_of h]
  exact wkW t hn
theorem vlv_noOut (n : Nat) (l : List Vl) : noOutL n (vlv l) = true := noOutL_map n (fun _ => rfl) l
theorem vlv_noTok (n : Nat) (l : List Vl) : noTokL n (vlv l) = true := noTokL_map n (fun _ => rfl) l
theorem vlv_noLoc (l : List Vl) : noLocL (vlv l) = true := noLocL_map (fun _ => rfl) l
theorem getD_at (l : Txt) (i : Nat) (h : i < l.length) : l.getD i 0 = l[i] := by simp [List.getD, List.getElem?_eq_getElem h]
theorem cmpV_k {k n k' n' : Int} {s s' : Txt} (h : k ≠ k') : cmpV ⟨k, n, s⟩ ⟨k', n', s'⟩ = sgI k k' := by
  have a1 := sgI_cases k k'
  unfold cmpV
  simp only
  rw [if_pos (by omega)]
theorem cmpV_n {k n n' : Int} {s s' : Txt} (h : n ≠ n') : cmpV ⟨k, n, s⟩ ⟨k, n', s'⟩ = sgI n n' := by
  have a1 := sgI_cases k k
  have a2 := sgI_cases n n'
  unfold cmpV
  simp only
  rw [if_neg (by omega), if_pos (by omega)]
theorem cmpV_s {k n : Int} {s s' : Txt} : cmpV ⟨k, n, s⟩ ⟨k, n, s'⟩ = cmpB s s' := by
  have a1 := sgI_cases k k
  have a2 := sgI_cases n n
  unfold cmpV
  simp only
  rw [if_neg (by omega), if_neg (by omega)]
theorem sgn_if {a b : Int} (h : a ≠ b) : (if decide (a < b) = true then (-1 : Int) else 1) = sgI a b := by
  unfold sgI
  by_cases hlt : a < b
  · rw [if_pos (decide_eq_true hlt), if_pos hlt]
  · rw [if_neg (by rw [decide_eq_true_eq]; exact hlt), if_neg hlt, if_pos (by omega)]
theorem wk_eq {x y : AVal} (h : x = y) : Wk x y := by rw [h]; exact Wk.refl _
theorem okV_iff (k n : Int) (s : Txt) : okV ⟨k, n, s⟩ = true ↔ k = 1 ∧ s = [] ∨ k = 2 ∧ n = 0 ∧ s.length ≤ 200 := by
  unfold okV; rw [decide_eq_true_eq]; rfl
end Go.AL
namespace Go.Proofs.YteohhklblbinbaaDoor
open Go.AL
set_option linter.unusedSimpArgs false
set_option linter.unusedVariables false
set_option maxHeartbeats 2000000
set_option maxRecDepth 20000
theorem and_tt {a b : Bool} (h1 : a = true) (h2 : b = true) : (a && b) = true := by rw [h1, h2]; rfl
theorem thenN {f : St → Prop} {K : Exit → St → Prop} {st : St} (h : f st) : thenK f K .normal st := h
theorem lenOk_of {n : Nat} (h : lenOk n = true) : n ≤ 140737488351232 := by simpa [lenOk] using h
theorem lenOk_mk {n : Nat} (h : n ≤ 140737488351232) : lenOk n = true := by simpa [lenOk] using h
theorem lenT_of {s : Txt} (h : lenT s = true) : s.length ≤ 1000000 := by simpa [lenT] using h
theorem lenT_mk {s : Txt} (h : s.length ≤ 1000000) : lenT s = true := by simpa [lenT] using h
theorem i64r_of {n : Int} (h : i64r n = true) : -9223372036854775808 ≤ n ∧ n ≤ 9223372036854775807 := by
  unfold i64r at h; rw [hold_eq] at h; exact @of_decide_eq_true _ (_) h
theorem i64r_mk {n : Int} (h : -9223372036854775808 ≤ n ∧ n ≤ 9223372036854775807) : i64r n = true := by
  unfold i64r; rw [hold_eq]; exact @decide_eq_true _ (_) h
theorem brT {b : Bool} {A B : Prop} (hb : b = true) (h : A) : brV b true A B := by subst hb; exact brV_by (fun _ => h) (fun h => by cases h)
theorem brF {b : Bool} {A B : Prop} (hb : b = false) (h : B) : brV b true A B := by subst hb; exact brV_by (fun h => by cases h) (fun _ => h)

/-! ### Things -/
noncomputable def thingA (k n : Int) (s : Txt) : AVal := if k = 1 ∧ s.length = 0 then .iface 3 (.int .i64 n) else if k = 2 ∧ n = 0 ∧ s.length ≤ 200 then .iface 9 (.str s) else .nilIface
theorem thing_c (k n : Int) (s : Txt) : ACall Tryd.prog 26 [.agg [.int .i64 k, .int .i64 n, .str s]] Sto.empty fun r _ => Wk r (thingA k n s) := by
  refine thing_i k n s _ (.of_none rfl) ?_
  have e : (s == []) = (s.length == 0) := by cases s <;> rfl
  simp only [hold_eq, e]
  repeat' (refine brV_by (fun h => ?_) (fun h => ?_))
  all_goals
    refine wk_eq ?_
    simp only [beq_iff_eq, beq_eq_false_iff_ne, decide_eq_true_eq, decide_eq_false_iff_not, ne_eq] at *
    unfold thingA
    by_cases c1 : k = 1 ∧ s.length = 0
    · rw [if_pos c1]
      all_goals first
        | rfl
        | (exfalso; omega)
    · rw [if_neg c1]
      by_cases c2 : k = 2 ∧ n = 0 ∧ s.length ≤ 200
      · rw [if_pos c2]
        all_goals first
          | rfl
          | (exfalso; omega)
      · rw [if_neg c2]
        all_goals first
          | rfl
          | (exfalso; omega)
theorem thing_ok : EntOk Tryd.prog thingE := by
  intro xs σ; simp only [thingE]; split
  · rename_i k n s
    have h := thing_c k n s
    refine ⟨fun h1 _ => ?_, fun h1 => ⟨fun h2 _ => ?_, fun h2 _ => ?_⟩⟩
    · rw [hold_eq] at h1
      rw [thingA, if_pos (of_decide_eq_true h1)] at h
      exact pcall_of (.refl _) h rfl rfl rfl rfl
    · rw [hold_eq] at h1 h2
      rw [thingA, if_neg (of_decide_eq_false h1), if_pos (of_decide_eq_true h2)] at h
      exact pcall_of (.refl _) h rfl rfl rfl rfl
    · rw [hold_eq] at h1 h2
      rw [thingA, if_neg (of_decide_eq_false h1), if_neg (of_decide_eq_false h2)] at h
      exact pcall_of (.refl _) h rfl rfl rfl rfl
  · trivial
theorem okV_b (k n : Int) (s : Txt) : okV ⟨k, n, s⟩ = (decide (k = 1 ∧ s.length = 0) || decide (k = 2 ∧ n = 0 ∧ s.length ≤ 200)) := by
  rw [Bool.eq_iff_iff, okV_iff, Bool.or_eq_true, decide_eq_true_eq, decide_eq_true_eq, List.length_eq_zero_iff]
theorem right1_c (k n : Int) (s : Txt) : ACall Tryd.prog 32 [.agg [.int .i64 k, .int .i64 n, .str s]] Sto.empty fun r _ => Wk r (.bool (!okV ⟨k, n, s⟩)) := by
  refine right1_i k n s _ (.of [thingE] rfl ⟨thing_ok, trivial⟩) ?_
  simp only [hold_eq]
  refine brV_by (fun h => ?_) (fun h => brV_by (fun h2 => ?_) (fun h2 => ?_))
  · rw [okV_b, h]; exact Wk.refl _
  · rw [okV_b, h, h2]; exact Wk.refl _
  · rw [okV_b, h, h2]; exact Wk.refl _
theorem right1_ok : EntOk Tryd.prog right1E := by
  intro xs σ; simp only [right1E]; split
  · intro _
    exact pcall_of (.refl _) (by rw [hold_eq]; exact right1_c _ _ _) rfl rfl rfl rfl
  · trivial
theorem vlsOk_of {es : List AVal} {s : Nat} (h : vlsOk es s = true) : okW 3 s es = true ∧ es.all isVl = true ∧ es.length ≤ 140737488351232 := by
  unfold vlsOk at h
  simp only [Bool.and_eq_true] at h
  exact ⟨h.1, h.2.1, lenOk_of h.2.2⟩
theorem vlsOk_mk {l : List Vl} (h : l.length ≤ 140737488351232) : vlsOk (vlv l) 3 = true := and_tt (okW_same _ _) (and_tt (vlv_is _) (lenOk_mk (by simpa using h)))
theorem indexF_c (l : List Vl) (hl : l.length ≤ 140737488351232) : ACall Tryd.prog 47 [.slice (vlv l) 3 .ro, .func (.func 32) [] []] Sto.empty fun r _ => Wk r (.int .i64 (if l.all okV then -1 else (l.findIdx (fun x => !okV x) : Int))) := by
  refine indexF_i l _ (.of [right1E] rfl ⟨right1_ok, trivial⟩) ?_
  have hn : (vlv l).length = l.length := vlv_length l
  refine loopV_intro (α := Nat) (fun i => indexFL_S l (vlv l).length i) (fun i => i ≤ l.length ∧ ∀ j (h : j < l.length), j < i → okV l[j] = true) (fun i => l.length - i) ?_ 0 ⟨Nat.zero_le _, fun j _ h => by omega⟩
  rintro i ⟨hi, hpre⟩ L hL
  refine Eq.mpr (indexFL_r l (vlv l).length i L _) ?_
  simp only [hold_eq]
  refine brV_by (fun h => ?_) (fun h => ?_)
  · have hlt : i < l.length := by have := of_decide_eq_true h; omega
    rw [i64_succ hlt hl, elemAt_vlv l i hlt]
    have e : (⟨AVal.intOf (List.getD [AVal.int .i64 l[i].k, .int .i64 l[i].n, .str l[i].s] 0 .undef), AVal.intOf (List.getD [AVal.int .i64 l[i].k, .int .i64 l[i].n, .str l[i].s] 1 .undef), AVal.strOf (List.getD [AVal.int .i64 l[i].k, .int .i64 l[i].n, .str l[i].s] 2 .undef)⟩ : Vl) = l[i] := rfl
    rw [e]
    refine gb_by (dt (by omega)) (gb_by rfl (brV_by (fun h => ?_) (fun h => ?_)))
    · have hb : okV l[i] = false := by simpa using h
      have h1 : ¬ l.all okV = true := fun ha => by have := List.all_eq_true.1 ha _ (List.getElem_mem hlt); rw [hb] at this; cases this
      have h2 : l.findIdx (fun x => !okV x) = i := by
        rw [List.findIdx_eq hlt]
        exact ⟨by rw [hb]; rfl, fun j hj => by have := hpre j (by omega) hj; simp [this]⟩
      rw [if_neg h1, h2]; exact Wk.refl _
    · have hb : okV l[i] = true := by simpa using h
      refine hL (i + 1) ⟨hlt, fun j hj hji => ?_⟩ (by omega)
      rcases Nat.lt_or_ge j i with h9 | h9
      · exact hpre j hj h9
      · obtain rfl : j = i := by omega
        exact hb
  · have hge : i = l.length := by have := of_decide_eq_false h; omega
    have ha : l.all okV = true := List.all_eq_true.2 fun x hx => by
      obtain ⟨j, hj, rfl⟩ := List.getElem_of_mem hx
      exact hpre j hj (by omega)
    rw [if_pos ha]; exact Wk.refl _
theorem indexF_ok : EntOk Tryd.prog indexFE := by
  intro xs σ; simp only [indexFE]; split
  · rename_i es s t g
    intro hc
    rw [Bool.and_eq_true] at hc
    obtain ⟨h0, hc⟩ := hc
    have h0 := Nat.eq_of_beq_eq_true h0
    subst h0
    obtain ⟨h1, h2, h3⟩ := vlsOk_of hc
    exact pcall_of (.cons (wk_vlv t h1 h2) (.refl _)) (indexF_c _ (by simpa using h3)) (by simp only [noOutL, AVal.noOut, vlv_noOut, Bool.and_true]) (by simp only [noTokL, AVal.noTok, vlv_noTok, Bool.and_true, Tag.below]) rfl rfl
  · trivial
theorem containsF_c (l : List Vl) (hl : l.length ≤ 140737488351232) : ACall Tryd.prog 31 [.slice (vlv l) 3 .ro, .func (.func 32) [] []] Sto.empty fun r _ => Wk r (.bool (!l.all okV)) := by
  refine containsF_i l _ (.of [indexFE] rfl ⟨indexF_ok, trivial⟩) ?_
  simp only [map_vlOf_vlv, hold_eq]
  intro y hy i hi
  refine gb_by (vlsOk_mk hl) ?_
  rw [← hy]
  have : decide (0 ≤ i) = !y := by
    cases y with
    | true => rw [hi]; rfl
    | false =>
      rw [hi]
      simp
  rw [this]; exact Wk.refl _
theorem containsF_ok : EntOk Tryd.prog containsFE := by
  intro xs σ; simp only [containsFE]; split
  · rename_i es s t g
    intro hc
    rw [Bool.and_eq_true] at hc
    obtain ⟨h0, hc⟩ := hc
    have h0 := Nat.eq_of_beq_eq_true h0
    subst h0
    obtain ⟨h1, h2, h3⟩ := vlsOk_of hc
    exact pcall_of (.cons (wk_vlv t h1 h2) (.refl _)) (by rw [hold_eq]; exact containsF_c _ (by simpa using h3)) (by simp only [noOutL, AVal.noOut, vlv_noOut, Bool.and_true]) (by simp only [noTokL, AVal.noTok, vlv_noTok, Bool.and_true, Tag.below]) rfl rfl
  · trivial
theorem right_c (l : List Vl) (hl : l.length ≤ 140737488351232) : ACall Tryd.prog 15 [.slice (vlv l) 3 .ro] Sto.empty fun r _ => Wk r (.bool (l.all okV)) := by
  refine right_i l _ (.of [containsFE] rfl ⟨containsF_ok, trivial⟩) ?_
  simp only [map_vlOf_vlv, hold_eq, Bool.not_not]
  exact gb_by (vlsOk_mk hl) (Wk.refl _)
theorem right_ok : EntOk Tryd.prog rightE := by
  intro xs σ; simp only [rightE]; split
  · rename_i es s t
    intro hc
    obtain ⟨h1, h2, h3⟩ := vlsOk_of hc
    exact pcall_of (.cons (wk_vlv t h1 h2) (.refl _)) (by rw [hold_eq]; exact right_c _ (by simpa using h3)) (by simp only [noOutL, AVal.noOut, vlv_noOut, Bool.and_true]) (by simp only [noTokL, AVal.noTok, vlv_noTok, Bool.and_true, Tag.below]) rfl rfl
  · trivial

/-! ### The order -/
theorem nan_ok : EntOk Tryd.prog nanE := by
  intro xs σ; simp only [nanE]; split
  · rename_i r
    intro _
    refine pcall_of (.refl _) (nan_i r _ (.of_none rfl) ?_) rfl rfl rfl rfl
    simp only [hold_eq]
    refine wk_eq ?_
    simp
  · trivial
theorem cmp_c (a b : Int) : ACall Tryd.prog 36 [.int .i64 a, .int .i64 b] Sto.empty fun r _ => Wk r (.int .i64 (sgI a b)) := by
  refine cmp_i a b _ (.of [nanE] rfl ⟨nan_ok, trivial⟩) ?_
  simp only [hold_eq]
  refine brV_by (fun h => ?_) (fun h => brV_by (fun h2 => ?_) (fun h2 => ?_))
  · rw [sgI, if_pos (of_decide_eq_true h)]; exact Wk.refl _
  · rw [sgI, if_neg (of_decide_eq_false h), if_pos (of_decide_eq_true h2)]; exact Wk.refl _
  · rw [sgI, if_neg (of_decide_eq_false h), if_neg (of_decide_eq_false h2)]; exact Wk.refl _
theorem cmp_ok : EntOk Tryd.prog cmpE := by
  intro xs σ; simp only [cmpE]; split
  · intro _
    exact pcall_of (v := .int .i64 _) (.refl _) (cmp_c _ _) rfl rfl rfl rfl
  · trivial
theorem or_c (l : List Int) (hl : l.length ≤ 140737488351232) : ACall Tryd.prog 35 [.slice (iv l) 1 .ro] Sto.empty fun r _ => Wk r (.int .i64 (firstNZ l)) := by
  refine or_i l _ (.of_none rfl) ?_
  have hn : (iv l).length = l.length := by simp [iv]
  refine loopV_intro (α := Nat) (fun i => orL_S l (iv l).length i) (fun i => i ≤ l.length ∧ firstNZ l = firstNZ (l.drop i)) (fun i => l.length - i) ?_ 0 ⟨Nat.zero_le _, rfl⟩
  rintro i ⟨hi, hpre⟩ L hL
  refine Eq.mpr (orL_r l (iv l).length i L _) ?_
  simp only [hold_eq]
  refine brV_by (fun h => ?_) (fun h => ?_)
  · have hlt : i < l.length := by have := of_decide_eq_true h; omega
    rw [i64_succ hlt hl, elemAt_iv l i hlt]
    rw [List.drop_eq_getElem_cons hlt] at hpre
    refine gb_by (dt (by omega)) (gb_by rfl (brV_by (fun h => ?_) (fun h => ?_)))
    · have hb : ¬ l[i] = 0 := by have h' : (l[i] != 0) = true := h; simpa using h'
      rw [firstNZ, if_neg hb] at hpre
      rw [hpre]; exact Wk.refl _
    · have hb : l[i] = 0 := by have h' : (l[i] != 0) = false := h; simpa using h'
      rw [firstNZ, if_pos hb] at hpre
      exact hL (i + 1) ⟨hlt, hpre⟩ (by omega)
  · have hge : i = l.length := by have := of_decide_eq_false h; omega
    subst hge
    rw [List.drop_length] at hpre
    refine leaveTo (toCut (Eq.mpr (orF_r _) ?_))
    rw [hpre]; exact Wk.refl _
theorem or_ok : EntOk Tryd.prog orE := by
  intro xs σ; simp only [orE]; split
  · rename_i es s t
    intro hc
    simp only [Bool.and_eq_true] at hc
    obtain ⟨h1, h2, h3⟩ := hc
    exact pcall_of (v := .int .i64 _) (.cons (wk_iv t h1 h2) (.refl _)) (or_c _ (by simpa using lenOk_of h3)) (by simp only [noOutL, AVal.noOut, iv_noOut, Bool.and_true]) (by simp only [noTokL, AVal.noTok, iv_noTok, Bool.and_true, Tag.below]) rfl rfl
  · trivial
theorem rightR_c (k n : Int) (s : Txt) : ACall Tryd.prog 10 [.agg [.int .i64 k, .int .i64 n, .str s]] Sto.empty fun r _ => Wk r (.bool (okV ⟨k, n, s⟩)) := by
  refine rightR_i k n s _ (.of_none rfl) ?_
  have e : (s == []) = (s.length == 0) := by cases s <;> rfl
  simp only [hold_eq, e]
  have hok : okV ⟨k, n, s⟩ = true ↔ k = 1 ∧ s.length = 0 ∨ k = 2 ∧ n = 0 ∧ s.length ≤ 200 := by rw [okV_iff, List.length_eq_zero_iff]
  repeat' (first | refine brV_by (fun h => ?_) (fun h => ?_) | refine brV_by' (fun h => ?_) (fun h => ?_))
  all_goals
    refine wk_eq (congrArg AVal.bool ?_)
    rw [Bool.eq_iff_iff, hok]
    simp only [beq_iff_eq, beq_eq_false_iff_ne, decide_eq_true_eq, decide_eq_false_iff_not, ne_eq, Bool.false_eq_true, false_iff, true_iff, iff_true, iff_false] at *
    omega
theorem rightR_ok : EntOk Tryd.prog rightRE := by
  intro xs σ; simp only [rightRE]; split
  · intro _
    exact pcall_of (.refl _) (by rw [hold_eq]; exact rightR_c _ _ _) rfl rfl rfl rfl
  · trivial
theorem signR_ok : EntOk Tryd.prog signRE := by
  intro xs σ; simp only [signRE]; split
  · rename_i b
    intro _
    refine pcall_of (v := .int .i64 _) (.refl _) (signR_i b _ (.of_none rfl) ?_) rfl rfl rfl rfl
    cases b
    · exact Wk.refl _
    · exact Wk.refl _
  · trivial
theorem orderR_c (a b : Txt) (ha : a.length ≤ 1000000) (hb : b.length ≤ 1000000) : ACall Tryd.prog 19 [.str a, .str b] Sto.empty fun r _ => Wk r (.int .i64 (cmpB a b)) := by
  refine orderR_i a b _ (.of [signRE] rfl ⟨signR_ok, trivial⟩) ?_
  refine loopV_intro (α := Nat) (fun i => orderRL_S a b i) (fun i => i ≤ a.length ∧ i ≤ b.length ∧ cmpB a b = cmpB (a.drop i) (b.drop i)) (fun i => a.length - i) ?_ 0 ⟨Nat.zero_le _, Nat.zero_le _, rfl⟩
  rintro i ⟨hi, hj, hpre⟩ L hL
  refine Eq.mpr (orderRL_r a b i L _) ?_
  simp only [hold_eq]
  have fin : ¬ (i < a.length ∧ i < b.length) → cmpB a b = if a.length = b.length then 0 else if a.length < b.length then -1 else 1 := fun h => by
    rw [hpre]
    cases ha' : a.drop i with
    | nil =>
      have h1 : a.length - i = 0 := by rw [← List.length_drop, ha']; rfl
      cases hb' : b.drop i with
      | nil =>
        have h2 : b.length - i = 0 := by rw [← List.length_drop, hb']; rfl
        rw [if_pos (by omega)]; rfl
      | cons y b' =>
        have h2 : b.length - i = b'.length + 1 := by rw [← List.length_drop, hb']; rfl
        rw [if_neg (by omega), if_pos (by omega)]; rfl
    | cons x a' =>
      have h1 : a.length - i = a'.length + 1 := by rw [← List.length_drop, ha']; rfl
      cases hb' : b.drop i with
      | nil =>
        have h2 : b.length - i = 0 := by rw [← List.length_drop, hb']; rfl
        rw [if_neg (by omega), if_neg (by omega)]; rfl
      | cons y b' =>
        have h2 : b.length - i = b'.length + 1 := by rw [← List.length_drop, hb']; rfl
        omega
  have leave : ¬ (i < a.length ∧ i < b.length) → ∀ Q : AVal → Sto → Prop, (cmpB a b = (if a.length = b.length then 0 else if a.length < b.length then -1 else 1) → Q (AVal.int .i64 (cmpB a b)) Sto.empty) →
      brV (hold ((a.length : Int) == (b.length : Int))) true (Q (AVal.int .i64 0) Sto.empty) (∀ y : Int, (y = if hold (decide ((a.length : Int) < (b.length : Int))) = true then -1 else 1) → Q (AVal.int .i64 y) Sto.empty) := fun h Q hQ => by
    have h1 := fin h
    have hQ := hQ h1
    rw [h1] at hQ
    simp only [hold_eq]
    refine brV_by (fun h => ?_) (fun h => ?_)
    · rw [if_pos (by have : (a.length : Int) = b.length := by simpa using h
                     omega)] at hQ
      exact hQ
    · have h0 : ¬ (a.length : Int) = b.length := by simpa using h
      rw [if_neg (by omega)] at hQ
      intro y hy
      rw [hy]
      by_cases hlt : a.length < b.length
      · rw [if_pos hlt] at hQ
        rw [if_pos (decide_eq_true (by omega))]
        exact hQ
      · rw [if_neg hlt] at hQ
        rw [if_neg (by rw [decide_eq_true_eq]; omega)]
        exact hQ
  have lv : ¬ (i < a.length ∧ i < b.length) → brV (hold ((a.length : Int) == (b.length : Int))) true (Wk (AVal.int .i64 0) (AVal.int .i64 (cmpB a b))) (∀ y : Int, (y = if hold (decide ((a.length : Int) < (b.length : Int))) = true then -1 else 1) → Wk (AVal.int .i64 y) (AVal.int .i64 (cmpB a b))) :=
    fun h => leave h (fun v _ => Wk v (AVal.int .i64 (cmpB a b))) fun _ => Wk.refl _
  refine brV_by (fun h => ?_) (fun h => ?_)
  · have hlt : i < a.length := by have := of_decide_eq_true h; omega
    refine brV_by (fun h => ?_) (fun h => ?_)
    · have hlb : i < b.length := by have := of_decide_eq_true h; omega
      have t0 : Int.toNat (i : Int) = i := rfl
      rw [t0, getD_at _ _ hlt, getD_at _ _ hlb]
      rw [List.drop_eq_getElem_cons hlt, List.drop_eq_getElem_cons hlb, cmpB] at hpre
      have c1 := decide_eq_true (show (0 : Int) ≤ (i : Int) ∧ (i : Int) < (a.length : Int) by omega)
      have c2 := decide_eq_true (show (0 : Int) ≤ (i : Int) ∧ (i : Int) < (b.length : Int) by omega)
      refine gb_by c1 (gb_by c2 (brV_by (fun h => ?_) (fun h => ?_)))
      · have hne : ¬ (a[i].toNat : Int) = b[i].toNat := by simpa using h
        refine gb_by c1 (gb_by c2 ?_)
        intro y hy
        refine wk_eq (congrArg (AVal.int .i64) ?_)
        rw [hy, hpre, sgn_if hne]
        unfold sgI
        repeat' split
        all_goals first
          | rfl
          | (exfalso; omega)
      · have he : (a[i].toNat : Int) = b[i].toNat := by simpa using h
        rw [if_neg (by omega), if_neg (by omega)] at hpre
        rw [i64_succ hlt (by omega)]
        exact hL (i + 1) ⟨hlt, hlb, hpre⟩ (by omega)
    · have hnl : ¬ i < b.length := by have := of_decide_eq_false h; omega
      exact leaveTo (toCut (Eq.mpr (orderRF_r a b _) (lv (by omega))))
  · have hnl : ¬ i < a.length := by have := of_decide_eq_false h; omega
    exact leaveTo (toCut (Eq.mpr (orderRF_r a b _) (lv (by omega))))
theorem orderR_ok : EntOk Tryd.prog orderRE := by
  intro xs σ; simp only [orderRE]; split
  · intro hc
    rw [Bool.and_eq_true] at hc
    exact pcall_of (v := .int .i64 _) (.refl _) (orderR_c _ _ (lenT_of hc.1) (lenT_of hc.2)) rfl rfl rfl rfl
  · trivial
theorem compareR_c (k n k' n' : Int) (s s' : Txt) (h1 : s.length ≤ 1000000) (h2 : s'.length ≤ 1000000) : ACall Tryd.prog 18 [.agg [.int .i64 k, .int .i64 n, .str s], .agg [.int .i64 k', .int .i64 n', .str s']] Sto.empty fun r _ => Wk r (.int .i64 (cmpV ⟨k, n, s⟩ ⟨k', n', s'⟩)) := by
  refine compareR_i k n k' n' s s' _ (.of [signRE, orderRE] rfl ⟨signR_ok, orderR_ok, trivial⟩) ?_
  simp only [hold_eq]
  refine brV_by (fun h => ?_) (fun h => ?_)
  · have h : k ≠ k' := by simpa using h
    intro y hy
    rw [cmpV_k h, ← sgn_if h, hy]; exact Wk.refl _
  · have h : k = k' := by simpa using h
    subst h
    refine brV_by (fun h => ?_) (fun h => ?_)
    · have h : n ≠ n' := by simpa using h
      intro y hy
      rw [cmpV_n h, ← sgn_if h, hy]; exact Wk.refl _
    · have h : n = n' := by simpa using h
      subst h
      intro y hy
      refine gb_by (and_tt (lenT_mk h1) (lenT_mk h2)) ?_
      rw [hy, cmpV_s]; exact Wk.refl _
theorem compareR_ok : EntOk Tryd.prog compareRE := by
  intro xs σ; simp only [compareRE]; split
  · intro hc
    rw [Bool.and_eq_true] at hc
    exact pcall_of (v := .int .i64 _) (.refl _) (compareR_c _ _ _ _ _ _ (lenT_of hc.1) (lenT_of hc.2)) rfl rfl rfl rfl
  · trivial
end Go.Proofs.YteohhklblbinbaaDoor
