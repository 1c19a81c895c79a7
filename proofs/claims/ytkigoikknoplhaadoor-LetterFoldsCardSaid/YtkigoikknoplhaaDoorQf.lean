/-
  Seat 01 (letter): contracts of the references: names, the order, cuts, quotes.
-/
import Derived.Test.YtkigoikknoplhaaDoorQd
import Derived.Test.YtkigoikknoplhaaDoorQs
import Derived.Test.YtkigoikknoplhaaDoorQt
namespace Go.Proofs.YtkigoikknoplhaaDoor
open Go.AL
set_option linter.unusedSimpArgs false
set_option linter.unusedVariables false
set_option maxHeartbeats 2000000
set_option maxRecDepth 20000

theorem rv_at {l : List Int} {i : Nat} (h : i < l.length) : AVal.intOf (List.getD (elemAt (rv l) (i : Int)) 0 .undef) = l[i] := by
  rw [elemAt_rv l i h]; rfl
theorem rv_at1 {l : List Int} {i : Nat} (h : i < l.length) : (decide (1 ≤ (elemAt (rv l) (i : Int)).length ∧ 0 < 1) && etaOk (.int .i32) (List.getD (elemAt (rv l) (i : Int)) 0 .undef)) = true := by
  rw [elemAt_rv l i h]; rfl
theorem rightR_c (s : Txt) (hs : s.length ≤ 1000000) : ACall Tryd.prog 13 [.str s] Sto.empty fun v _ => Wk v (.bool (nameT s)) := by
  refine rightR_i s _ (.of [runesE, letRE] rfl ⟨runes_ok, letterR_ok, trivial⟩) ?_
  intro l hl
  refine gb_by (lenT_mk hs) ?_
  have hrl : (rv l).length = l.length := rv_length l
  have hll : l.length ≤ s.length := by rw [hl]; exact runeL_len s
  have hn : nameT s = (preB l && decide (l ≠ [] ∧ l.length ≤ 32)) := by unfold nameT; rw [← hl, nameR_pre]
  simp only [hold_eq]
  have no : nameT s = false → Wk (.bool false) (.bool (nameT s)) := fun h => by rw [h]; exact Wk.refl _
  refine brV_by' (fun h => ?_) (fun h => no ?_)
  rotate_left
  · have h := of_decide_eq_true h
    rw [hn]
    have : l = [] := List.eq_nil_of_length_eq_zero (by omega)
    subst this; rfl
  have h := of_decide_eq_false h
  refine brV_by' (fun h2 => ?_) (fun h2 => no ?_)
  rotate_left
  · have h2 := of_decide_eq_true h2
    rw [hn]
    have : ¬ (l ≠ [] ∧ l.length ≤ 32) := by omega
    simp [this]
  have h2 := of_decide_eq_false h2
  have h0 : 0 < l.length := by omega
  have e0 : AVal.intOf (List.getD (elemAt (rv l) 0) 0 .undef) = l[0] := rv_at h0
  refine gb_by (dt (by omega)) (gb_by (rv_at1 h0) ?_)
  rw [e0]
  obtain ⟨r, t, hrt⟩ : ∃ r t, l = r :: t := by
    cases l with
    | nil => simp at h0
    | cons r t => exact ⟨r, t, rfl⟩
  refine brV_by (fun h3 => no ?_) (fun h3 => ?_)
  · have h3 : letB l[0] = false := by simpa using h3
    subst hrt
    have h3 : letB r = false := h3
    rw [hn, preB, h3]; rfl
  have h3 : letB l[0] = true := by simpa using h3
  refine loopV_intro (α := Nat) (fun i => rightRL_S l i) (fun i => 1 ≤ i ∧ i ≤ l.length ∧ preB (l.take i) = true) (fun i => l.length - i) ?_ 1 ⟨Nat.le_refl _, h0, by subst hrt; simpa [preB] using h3⟩
  rintro i ⟨g0, g1, g2⟩ L hL
  refine Eq.mpr (rightRL_r l i L _) ?_
  simp only [hold_eq]
  refine brV_by (fun h4 => ?_) (fun h4 => ?_)
  · have hlt : i < l.length := by have := of_decide_eq_true h4; omega
    have htk : l.take (i + 1) = l.take i ++ [l[i]] := by rw [List.take_add_one, List.getElem?_eq_getElem hlt]; rfl
    have hne : (l.take i).isEmpty = false := by subst hrt; cases i with
      | zero => omega
      | succ i => rfl
    have hp : preB (l.take (i + 1)) = (letB l[i] || digB l[i]) := by
      rw [htk, preB_snoc, g2, hne]; simp
    rw [rv_at hlt]
    have bad : (letB l[i] || digB l[i]) = false → nameT s = false := fun hb => by
      rw [← hp] at hb
      have := preB_app (m := l.drop (i + 1)) hb
      rw [List.take_append_drop] at this
      unfold nameT; rw [← hl]; exact this
    have nxt : (letB l[i] || digB l[i]) = true → L (rightRL_S l (i + 1)) := fun hb => hL (i + 1) ⟨by omega, hlt, by rw [hp]; exact hb⟩ (by omega)
    refine gb_by (dt (by omega)) (gb_by (rv_at1 hlt) (brV_by (fun h5 => ?_) (fun h5 => toCut (Eq.mpr (rightRI_r l i _) (by rw [i64_succ hlt (by omega)]; exact nxt (by
      have h5 : letB l[i] = true := by simpa using h5
      rw [h5]; rfl))))))
    · have h5 : letB l[i] = false := by simpa using h5
      rw [h5, Bool.false_or] at bad nxt
      refine gb_by (dt (by omega)) (gb_by (rv_at1 hlt) (brV_by' (fun h6 => ?_) (fun h6 => no (bad ?_))))
      · refine gb_by (dt (by omega)) (gb_by (rv_at1 hlt) (brV_by (fun h7 => no (bad ?_)) (fun h7 => toCut (Eq.mpr (rightRI_r l i _) (by rw [i64_succ hlt (by omega)]; exact nxt (by
          have h7 := of_decide_eq_false h7
          have h6 := of_decide_eq_false h6
          simp [digB]; omega))))))
        · have h7 := of_decide_eq_true h7
          simp [digB]; omega
      · have h6 := of_decide_eq_true h6
        simp [digB]; omega
  · have hi : i = l.length := by have := of_decide_eq_false h4; omega
    subst hi
    rw [List.take_length] at g2
    refine leaveTo (toCut (Eq.mpr (rightRF_r _) ?_))
    have : nameT s = true := by
      rw [hn, g2]
      have : l ≠ [] ∧ l.length ≤ 32 := ⟨by subst hrt; simp, by omega⟩
      simp [this]
    rw [this]; exact Wk.refl _
theorem rightR_ok : EntOk Tryd.prog rightRE := by
  intro xs σ; simp only [rightRE]; split
  · rename_i s
    intro hc
    exact pcall_of (.refl _) (by rw [hold_eq]; exact rightR_c s (lenT_of hc)) rfl rfl rfl rfl
  · trivial
theorem compareR_c (a b : Txt) (ha : a.length ≤ 1000000) (hb : b.length ≤ 1000000) : ACall Tryd.prog 29 [.str a, .str b] Sto.empty fun v _ => Wk v (.int .i64 (cmpR (runeL a) (runeL b))) := by
  refine compareR_i a b _ (.of [runesE] rfl ⟨runes_ok, trivial⟩) ?_
  intro x hx
  refine gb_by (lenT_mk ha) ?_
  intro y hy
  refine gb_by (lenT_mk hb) ?_
  have hlx : x.length ≤ a.length := by rw [hx]; exact runeL_len a
  have hly : y.length ≤ b.length := by rw [hy]; exact runeL_len b
  rw [← hx, ← hy]
  have hn : (rv x).length = x.length := rv_length x
  have hm : (rv y).length = y.length := rv_length y
  refine loopV_intro (α := Nat) (fun i => compareRL_S x y i) (fun i => cmpR x y = cmpR (x.drop i) (y.drop i) ∧ i ≤ x.length ∧ i ≤ y.length) (fun i => x.length - i) ?_ 0 ⟨rfl, Nat.zero_le _, Nat.zero_le _⟩
  rintro i ⟨hc, hi, hj⟩ L hL
  refine Eq.mpr (compareRL_r x y i L _) ?_
  simp only [hold_eq]
  have fin : (x.length ≤ i ∨ y.length ≤ i) → brV (decide (((rv x).length : Int) < ((rv y).length : Int))) true (Wk (.int .i64 (-1)) (.int .i64 (cmpR x y))) (brV (decide (((rv y).length : Int) < ((rv x).length : Int))) true (Wk (.int .i64 1) (.int .i64 (cmpR x y))) (Wk (.int .i64 0) (.int .i64 (cmpR x y)))) := fun h => by
    refine brV_by (fun h1 => ?_) (fun h1 => brV_by (fun h2 => ?_) (fun h2 => ?_))
    · have h1 := of_decide_eq_true h1
      have e : x.drop i = [] := List.drop_eq_nil_of_le (by omega)
      rw [e, List.drop_eq_getElem_cons (show i < y.length by omega)] at hc
      rw [hc]; exact Wk.refl _
    · have h2 := of_decide_eq_true h2
      have e : y.drop i = [] := List.drop_eq_nil_of_le (by omega)
      rw [e, List.drop_eq_getElem_cons (show i < x.length by omega)] at hc
      rw [hc]; exact Wk.refl _
    · have h1 := of_decide_eq_false h1
      have h2 := of_decide_eq_false h2
      have e1 : y.drop i = [] := List.drop_eq_nil_of_le (by omega)
      have e : x.drop i = [] := List.drop_eq_nil_of_le (by omega)
      rw [e, e1] at hc
      rw [hc]; exact Wk.refl _
  refine brV_by (fun h => ?_) (fun h => ?_)
  · have hlt : i < x.length := by have := of_decide_eq_true h; omega
    refine brV_by (fun h1 => ?_) (fun h1 => ?_)
    · have hl2 : i < y.length := by have := of_decide_eq_true h1; omega
      rw [rv_at hlt, rv_at hl2]
      rw [List.drop_eq_getElem_cons hlt, List.drop_eq_getElem_cons hl2, cmpR] at hc
      refine gb_by (dt (by omega)) (gb_by (rv_at1 hlt) (gb_by (dt (by omega)) (gb_by (rv_at1 hl2) (brV_by (fun h2 => ?_) (fun h2 => ?_)))))
      · rw [if_pos (of_decide_eq_true h2)] at hc
        rw [hc]; exact Wk.refl _
      · rw [if_neg (of_decide_eq_false h2)] at hc
        refine toCut (Eq.mpr (compareRA_r x y i _) ?_)
        simp only [hold_eq]
        rw [rv_at hlt, rv_at hl2]
        refine gb_by (dt (by omega)) (gb_by (rv_at1 hlt) (gb_by (dt (by omega)) (gb_by (rv_at1 hl2) (brV_by (fun h3 => ?_) (fun h3 => ?_)))))
        · rw [if_pos (of_decide_eq_true h3)] at hc
          rw [hc]; exact Wk.refl _
        · rw [if_neg (of_decide_eq_false h3)] at hc
          refine inBlock (toCut (Eq.mpr (compareRI_r x y i _) ?_))
          rw [i64_succ hlt (by omega)]
          exact hL (i + 1) ⟨hc, hlt, hl2⟩ (by omega)
    · have h1 := of_decide_eq_false h1
      refine leaveTo (toCut (Eq.mpr (compareRF_r x y _) ?_))
      simp only [hold_eq]
      exact fin (by omega)
  · have h := of_decide_eq_false h
    refine leaveTo (toCut (Eq.mpr (compareRF_r x y _) ?_))
    simp only [hold_eq]
    exact fin (by omega)
theorem compareR_ok : EntOk Tryd.prog compareRE := by
  intro xs σ; simp only [compareRE]; split
  · rename_i a b
    intro hc
    rw [Bool.and_eq_true] at hc
    exact pcall_of (v := .int .i64 _) (.refl _) (compareR_c a b (lenT_of hc.1) (lenT_of hc.2)) rfl rfl rfl rfl
  · trivial
theorem cutR_c (s : Txt) (n : Int) (hs : s.length ≤ 1000000) (hn : -9223372036854775808 ≤ n ∧ n ≤ 9223372036854775807) : ACall Tryd.prog 22 [.str s, .int .i64 n] Sto.empty fun v _ => Wk v (.str (cutT s n)) := by
  refine cutR_i s n _ (.of_none rfl) ?_
  refine loopV_intro (α := Nat × Nat) (fun x => cutRL_S s n x.1 x.2) (fun x => x.2 = posT s x.1 0 ∧ (x.1 = 0 ∨ (x.1 : Int) ≤ n) ∧ x.1 ≤ x.2) (fun x => s.length - x.2) ?_ (0, 0) ⟨rfl, .inl rfl, Nat.le_refl _⟩
  rintro ⟨k, p⟩ ⟨g1, g2, g3⟩ L hL
  simp only at g1 g2 g3
  refine Eq.mpr (cutRL_r s n k p L _) ?_
  simp only [hold_eq]
  refine brV_by (fun h => ?_) (fun h => ?_)
  · have hp : p < s.length := of_decide_eq_true h
    refine brV_by (fun h1 => ?_) (fun h1 => ?_)
    · have h1 : n ≤ (k : Int) := of_decide_eq_true h1
      refine gb_by (dt (by omega)) ?_
      have e : n.toNat = k := by omega
      have : cutT s n = s.take p := by unfold cutT; rw [e, ← g1]
      rw [this]
      have e2 : Int.toNat (p : Int) - 0 = p := by omega
      rw [e2]
      exact Wk.refl _
    · have h1 : ¬ n ≤ (k : Int) := of_decide_eq_false h1
      have hw : IntKind.i64.wrap ((k : Int) + 1) = ((k + 1 : Nat) : Int) := by rw [wrap_i64 (by omega) (by omega)]; rfl
      refine toCut (Eq.mpr (cutRI_r s n k (p + decW s p) _) ?_)
      rw [hw]
      refine hL (k + 1, p + decW s p) ⟨?_, .inr (by simp only; omega), by have := decW_pos hp; simp only; omega⟩ (by have := decW_pos hp; simp only; omega)
      simp only
      rw [posT_add, ← g1, if_pos hp]
  · have hp : s.length ≤ p := by have := of_decide_eq_false h; omega
    refine leaveTo (toCut (Eq.mpr (cutRF_r s _) ?_))
    have mono : ∀ j, s.length ≤ posT s (k + j) 0 := by
      intro j
      induction j with
      | zero => rw [Nat.add_zero, ← g1]; exact hp
      | succ j ih => rw [← Nat.add_assoc, posT_add, if_neg (by omega)]; exact ih
    have e : cutT s n = s := by
      unfold cutT
      rcases g2 with h0 | h0
      · subst h0
        have : p = 0 := by rw [g1]; rfl
        have : s = [] := List.eq_nil_of_length_eq_zero (by omega)
        rw [this]; exact List.take_nil
      · obtain ⟨j, hj⟩ : ∃ j, n.toNat = k + j := ⟨n.toNat - k, by omega⟩
        rw [hj]; exact List.take_of_length_le (mono j)
    rw [e]; exact Wk.refl _
theorem cutR_ok : EntOk Tryd.prog cutRE := by
  intro xs σ; simp only [cutRE]; split
  · rename_i s n
    intro hc
    rw [Bool.and_eq_true] at hc
    exact pcall_of (.refl _) (cutR_c s n (lenT_of hc.1) (i64r_of hc.2)) rfl rfl rfl rfl
  · trivial
theorem quoR_len (r : Int) : (quoR r).length ≤ 5 := by
  have := encA_len r
  unfold quoR
  rw [List.length_append]
  split <;> split <;> simp <;> omega
theorem quo_len : ∀ l : List Int, (l.flatMap quoR).length ≤ 5 * l.length
  | [] => Nat.zero_le _
  | r :: l => by
    have := quo_len l
    have := quoR_len r
    simp only [List.flatMap_cons, List.length_append, List.length_cons] at *
    omega
theorem quo_take (l : List Int) (i : Nat) (h : i < l.length) : (l.take (i + 1)).flatMap quoR = (l.take i).flatMap quoR ++ quoR l[i] := by
  rw [List.take_add_one, List.getElem?_eq_getElem h, List.flatMap_append]
  simp
theorem quoT_len (s : Txt) : (quoT s).length ≤ 5 * s.length + 2 := by
  have := quo_len (runeL s)
  have := runeL_len s
  simp only [quoT, List.length_cons, List.length_append, List.length_nil] at *
  omega
theorem one_len (b : Bool) : (if b = true then ([92] : Txt) else []).length ≤ 1 := by cases b <;> simp
theorem quoteB_k (l : List Int) (o : Txt) (i : Nat) (b : Bool) (ho : o.length ≤ 6000000) (K : Exit → St → Prop) (h : ∀ m : Txt, m = o ++ (if b = true then [92] else []) → ∀ x, K .normal (St.mk 44 [(3, .slice (rv l) 1 .ro), (4, .str m), (5, .int .i64 (i : Int)), (25, x)] [] [] Sto.empty)) : vc Tryd.prog cQuoteR quoteRB_C K (quoteRB_S l o i b) := by
  refine Eq.mpr (quoteRB_r l o i b K) ?_
  cases b with
  | true => exact gb_by (dt (by omega)) (fun m hm => h m (by rw [hm]; rfl) _)
  | false => exact h o (by simp) _
theorem quoteA_k (l : List Int) (o : Txt) (i : Nat) (hlt : i < l.length) (ho : o.length ≤ 6000000) (K : Exit → St → Prop) (h : ∀ m : Txt, m = o ++ (if l[i] = 10 then [92, 110] else encA l[i]) → ∀ x, K .normal (St.mk 44 [(3, .slice (rv l) 1 .ro), (4, .str m), (5, .int .i64 (i : Int)), (32, x)] [] [] Sto.empty)) : vc Tryd.prog cQuoteR quoteRA_C K (quoteRA_S l o i) := by
  refine Eq.mpr (quoteRA_r l o i K) ?_
  have hrl : (rv l).length = l.length := rv_length l
  have := encA_len l[i]
  rw [rv_at hlt]
  simp only [hold_eq]
  refine gb_by (dt (by omega)) (gb_by (rv_at1 hlt) (brV_by (fun h1 => ?_) (fun h1 => ?_)))
  · have h1 : l[i] = 10 := by simpa using h1
    refine gb_by (dt (by omega)) (fun m hm => h m ?_ _)
    rw [hm, if_pos h1]
  · have h1 : ¬ l[i] = 10 := by simpa using h1
    refine gb_by (dt (by omega)) (gb_by (rv_at1 hlt) (gb_by (dt (by omega)) (fun m hm => h m ?_ _)))
    rw [hm, if_neg h1]
theorem quoteR_c (s : Txt) (hs : s.length ≤ 1000000) : ACall Tryd.prog 26 [.str s] Sto.empty fun v _ => Wk v (.str (quoT s)) := by
  refine quoteR_i s _ (.of [runesE] rfl ⟨runes_ok, trivial⟩) ?_
  intro l hl
  refine gb_by (lenT_mk hs) ?_
  have hrl : (rv l).length = l.length := rv_length l
  have hll : l.length ≤ s.length := by rw [hl]; exact runeL_len s
  refine loopV_intro (α := Nat) (fun i => quoteRL_S l (34 :: (l.take i).flatMap quoR) i) (fun i => i ≤ l.length) (fun i => l.length - i) ?_ 0 (Nat.zero_le _)
  rintro i hi L hL
  refine Eq.mpr (quoteRL_r l (34 :: (l.take i).flatMap quoR) i L _) ?_
  simp only [hold_eq]
  have hol := quo_len (l.take i)
  have htl : (l.take i).length = i := by rw [List.length_take]; omega
  refine brV_by (fun h => ?_) (fun h => ?_)
  · have hlt : i < l.length := by have := of_decide_eq_true h; omega
    rw [rv_at hlt]
    have fin : ∀ m : Txt, m = 34 :: (l.take i).flatMap quoR ++ quoR l[i] → L (quoteRL_S l m (i + 1)) := fun m hm => by
      have : m = 34 :: (l.take (i + 1)).flatMap quoR := by rw [quo_take l i hlt, hm]; rfl
      rw [this]
      exact hL (i + 1) hlt (by omega)
    have b0 : 1 ≤ (rv l).length := by omega
    refine gb_by (dt (by omega)) (gb_by (rv_at1 hlt) (brV_by' (fun h1 => gb_by (dt (by omega)) (gb_by (rv_at1 hlt) ?_)) (fun h1 => ?_)))
    · have h1 : ¬ l[i] = 34 := by simpa using h1
      refine toCut (quoteB_k l _ i _ (by simp only [List.length_cons]; omega) _ (fun o ho x => toCut (quoteA_k l o i hlt (by rw [ho, List.length_append, List.length_cons]; exact Nat.le_trans (Nat.add_le_add_left (one_len _) _) (by omega)) _ (fun m hm x => inBlock (toCut (Eq.mpr (quoteRI_r l m i _) ?_))))))
      rw [i64_succ hlt (by omega)]
      refine fin m ?_
      rw [hm, ho, quoR]
      simp [h1]
    · have h1 : l[i] = 34 := by simpa using h1
      refine toCut (quoteB_k l _ i _ (by simp only [List.length_cons]; omega) _ (fun o ho x => toCut (quoteA_k l o i hlt (by rw [ho, List.length_append, List.length_cons]; exact Nat.le_trans (Nat.add_le_add_left (one_len _) _) (by omega)) _ (fun m hm x => inBlock (toCut (Eq.mpr (quoteRI_r l m i _) ?_))))))
      rw [i64_succ hlt (by omega)]
      refine fin m ?_
      rw [hm, ho, quoR]
      simp [h1]
  · have hi' : i = l.length := by have := of_decide_eq_false h; omega
    subst hi'
    rw [List.take_length] at *
    refine leaveTo (toCut (Eq.mpr (quoteRF_r _ _) ?_))
    refine gb_by (dt (by simp only [List.length_cons]; omega)) ?_
    have : quoT s = 34 :: l.flatMap quoR ++ [34] := by rw [quoT, ← hl]; rfl
    rw [this]; exact Wk.refl _
theorem quoteR_ok : EntOk Tryd.prog quoteRE := by
  intro xs σ; simp only [quoteRE]; split
  · rename_i s
    intro hc
    exact pcall_of (v := .str _) (.refl _) (quoteR_c s (lenT_of hc)) rfl rfl rfl rfl
  · trivial
theorem remT_step {s : Txt} {i : Nat} (h : i < s.length - 1) : remT s i = s.getD i 0 :: remT s (i + 1) := by
  unfold remT
  have h1 : i < s.length := by omega
  rw [List.drop_eq_getElem_cons h1, show s.length - 1 - i = (s.length - 1 - (i + 1)) + 1 by omega, List.take_succ_cons]
  simp [List.getD, List.getElem?_eq_getElem h1]
theorem remT_end {s : Txt} {i : Nat} (h : s.length - 1 ≤ i) : remT s i = [] := by
  unfold remT
  rw [show s.length - 1 - i = 0 by omega, List.take_zero]
theorem unqF_ne {c : UInt8} (h : c ≠ 92) (r : Txt) : unqF (c :: r) = c :: unqF r := by
  cases r with
  | nil => rfl
  | cons d r => rw [unqF, if_neg h]
theorem unqF_len : ∀ l : Txt, (unqF l).length ≤ l.length
  | [] => Nat.le_refl _
  | [c] => Nat.le_refl _
  | c :: d :: r => by
    rw [unqF]
    have h1 := unqF_len r
    have h2 := unqF_len (d :: r)
    split
    · simp only [List.length_cons] at *; omega
    · simp only [List.length_cons] at *; omega
theorem unquoteA_k (s o : Txt) (i : Nat) (c : UInt8) (ho : o.length ≤ 1000000) (K : Exit → St → Prop) (h : ∀ x, K .normal (St.mk 49 [(0, .str s), (4, .slice (bw (o ++ [c])) 1 (.own 0)), (5, .int .i64 (i : Int)), (6, x)] [] [] (Sto.pushOwn Sto.empty (bw (o ++ [c])).length))) : vc Tryd.prog cUnquoteR unquoteRA_C K (unquoteRA_S s o i c) := by
  refine Eq.mpr (unquoteRA_r s o i c K) ?_
  have hl : (bw o).length = o.length := by simp [bw]
  have e : bw o ++ [AVal.int .u8 (c.toNat : Int)] = bw (o ++ [c]) := by simp [bw, ofByte]
  have e2 : (bw o).length + 1 = (bw (o ++ [c])).length := by simp [bw]
  refine gb_by (dt ⟨dt ⟨rfl, rfl, by omega, by omega⟩, rfl⟩) ?_
  rw [setOwn_e1, e, e2]
  exact h _
theorem u8_eq (c d : UInt8) : ((c.toNat : Int) == (d.toNat : Int)) = (c == d) := by
  rw [Bool.eq_iff_iff]
  simp only [beq_iff_eq, Int.natCast_inj]
  exact ⟨fun h => UInt8.toNat_inj.1 h, fun h => by rw [h]⟩
theorem unquoteR_c (s : Txt) (hs : s.length ≤ 1000000) : ACall Tryd.prog 24 [.str s] Sto.empty fun v _ => Wk v (.tuple [.str (unqT s).1, .bool (unqT s).2]) := by
  refine unquoteR_i s _ (.of [quoteRE] rfl ⟨quoteR_ok, trivial⟩) ?_
  simp only [hold_eq]
  refine brV_by (fun h => ?_) (fun h => ?_)
  · have h := of_decide_eq_true h
    have : unqT s = ([], false) := by unfold unqT; rw [if_pos (by omega)]
    rw [this]; exact Wk.refl _
  have h := of_decide_eq_false h
  have hq : unqT s = (unqF (remT s 1), quoT (unqF (remT s 1)) == s) := by unfold unqT; rw [if_neg (by omega)]
  have hwr : IntKind.i64.wrap ((s.length : Int) - 1) = ((s.length - 1 : Nat) : Int) := by rw [wrap_i64 (by omega) (by omega)]; omega
  refine loopV_intro (α := Txt × Nat) (fun x => unquoteRL_S s x.1 x.2) (fun x => unqF (remT s 1) = x.1 ++ unqF (remT s x.2) ∧ 1 ≤ x.2 ∧ x.2 ≤ s.length - 1 ∧ x.1.length ≤ x.2) (fun x => s.length - x.2) ?_ ([], 1) ⟨rfl, Nat.le_refl _, by simp only; omega, Nat.zero_le _⟩
  rintro ⟨o, i⟩ ⟨g1, g2, g3, g4⟩ L hL
  simp only at g1 g2 g3 g4
  refine Eq.mpr (unquoteRL_r s o i L _) ?_
  simp only [hold_eq]
  rw [hwr]
  have t0 : Int.toNat (i : Int) = i := rfl
  rw [t0]
  refine brV_by (fun h1 => ?_) (fun h1 => ?_)
  · have hlt : i < s.length - 1 := by have := of_decide_eq_true h1; omega
    have hi1 : IntKind.i64.wrap ((i : Int) + 1) = ((i + 1 : Nat) : Int) := i64_succ hlt (by omega)
    rw [hi1]
    have t1 : Int.toNat ((i + 1 : Nat) : Int) = i + 1 := rfl
    rw [t1]
    have e92 : ((92 : Int)) = ((92 : UInt8).toNat : Int) := rfl
    have e110 : ((110 : Int)) = ((110 : UInt8).toNat : Int) := rfl
    rw [e92, e110, u8_eq, u8_eq]
    rw [remT_step hlt] at g1
    refine gb_by (dt (by omega)) (brV_by (fun h2 => ?_) (fun h2 => ?_))
    · have h2 : s.getD i 0 = 92 := by simpa using h2
      rw [h2] at g1 ⊢
      refine brV_by (fun h3 => ?_) (fun h3 => ?_)
      · have hl3 : i + 1 < s.length - 1 := by have := of_decide_eq_true h3; omega
        have hi2 : IntKind.i64.wrap (((i + 1 : Nat) : Int) + 1) = ((i + 2 : Nat) : Int) := i64_succ hl3 (by omega)
        rw [remT_step hl3, unqF, if_pos rfl] at g1
        have fin : ∀ c : UInt8, c = (if s.getD (i + 1) 0 = 110 then 10 else s.getD (i + 1) 0) → L (unquoteRL_S s (o ++ [c]) (i + 2)) := fun c hc => hL (o ++ [c], i + 2) ⟨by rw [g1, hc]; simp, by simp only; omega, by simp only; omega, by simp only [List.length_append, List.length_singleton]; omega⟩ (by simp only; omega)
        refine gb_by (dt (by omega)) (brV_by (fun h4 => ?_) (fun h4 => ?_))
        · have h4 : s.getD (i + 1) 0 = 110 := by simpa using h4
          refine toCut (unquoteA_k s o (i + 1) 10 (by omega) _ fun x => inBlock (toCut (Eq.mpr (unquoteRI_r s (o ++ [10]) (i + 1) _) ?_)))
          rw [hi2]
          exact fin 10 (by rw [if_pos h4])
        · have h4 : ¬ s.getD (i + 1) 0 = 110 := by simpa using h4
          refine toCut (unquoteA_k s o (i + 1) (s.getD (i + 1) 0) (by omega) _ fun x => inBlock (toCut (Eq.mpr (unquoteRI_r s _ (i + 1) _) ?_)))
          rw [hi2]
          exact fin _ (by rw [if_neg h4])
      · have hl3 : s.length - 1 ≤ i + 1 := by have := of_decide_eq_false h3; omega
        rw [remT_end hl3] at g1
        refine toCut (unquoteA_k s o i 92 (by omega) _ fun x => inBlock (toCut (Eq.mpr (unquoteRI_r s _ i _) ?_)))
        rw [hi1]
        exact hL (o ++ [92], i + 1) ⟨by rw [g1, remT_end hl3]; simp [unqF], by simp only; omega, by simp only; omega, by simp only [List.length_append, List.length_singleton]; omega⟩ (by simp only; omega)
    · have h2 : s.getD i 0 ≠ 92 := by simpa using h2
      rw [unqF_ne h2] at g1
      refine toCut (unquoteA_k s o i (s.getD i 0) (by omega) _ fun x => inBlock (toCut (Eq.mpr (unquoteRI_r s _ i _) ?_)))
      rw [hi1]
      exact hL (o ++ [s.getD i 0], i + 1) ⟨by rw [g1]; simp, by simp only; omega, by simp only; omega, by simp only [List.length_append, List.length_singleton]; omega⟩ (by simp only; omega)
  · have hge : s.length - 1 ≤ i := by have := of_decide_eq_false h1; omega
    rw [remT_end hge, show unqF [] = [] from rfl, List.append_nil] at g1
    refine leaveTo (toCut (Eq.mpr (unquoteRB_r s o _) ?_))
    have hu : (bw o).all isU8 = true := by
      rw [List.all_eq_true]
      intro x hx
      obtain ⟨c, _, rfl⟩ := List.mem_map.1 hx
      rfl
    have hb : (bw o).map AL.byteOf = o := by
      simp only [bw, List.map_map]
      conv => rhs; rw [← List.map_id o]
      exact List.map_congr_left fun c _ => by simp [AL.byteOf, ofByte]
    refine gb_by (dt hu) ?_
    rw [hb]
    refine toCut (Eq.mpr (unquoteRF_r s o _ _) ?_)
    intro y hy
    refine gb_by (lenT_mk (by omega)) ?_
    have e : y = quoT o := hy
    rw [hq, g1, e, hold_eq]
    exact Wk.refl _
theorem unquoteR_ok : EntOk Tryd.prog unquoteRE := by
  intro xs σ; simp only [unquoteRE]; split
  · rename_i s
    intro hc
    exact pcall_of (.refl _) (by rw [hold_eq]; exact unquoteR_c s (lenT_of hc)) rfl rfl rfl rfl
  · trivial
end Go.Proofs.YtkigoikknoplhaaDoor
