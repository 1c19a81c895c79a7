/-
  Seat 01 (letter): contract of Like.
-/
import Derived.Test.YtkigoikknoplhaaDoorQf
namespace Go.Proofs.YtkigoikknoplhaaDoor
open Go.AL
set_option linter.unusedSimpArgs false
set_option linter.unusedVariables false
set_option maxHeartbeats 2000000
set_option maxRecDepth 20000

theorem dtU {p : Prop} {i : Decidable p} (h : p) : @decide p i = true := @decide_eq_true p i h
theorem bvv_at {l : List Bool} {i : Nat} (h : i < l.length) : AVal.boolOf (List.getD (elemAt (bvv l) (i : Int)) 0 .undef) = l[i] := by
  rw [elemAt_bvv l i h]; rfl
theorem bvv_at1 {l : List Bool} {i : Nat} (h : i < l.length) : (decide (1 ≤ (elemAt (bvv l) (i : Int)).length ∧ 0 < 1) && etaOk .bool (List.getD (elemAt (bvv l) (i : Int)) 0 .undef)) = true := by
  rw [elemAt_bvv l i h]; rfl
theorem bvv_get {l : List Bool} {i : Nat} (h : i < l.length) : (bvv l).getD i .undef = .bool l[i] := by
  simp [bvv, List.getD, h]
theorem bvv_rep (n : Nat) : flat (List.replicate n (AVal.bool false)) = bvv (List.replicate n false) := by
  induction n with
  | zero => rfl
  | succ n ih =>
    have : flat (List.replicate (n + 1) (AVal.bool false)) = AVal.bool false :: flat (List.replicate n (AVal.bool false)) := rfl
    rw [this, ih]; rfl
theorem bvv_noLoc (l : List Bool) : noLocL (bvv l) = true := noLocL_map (fun _ => rfl) l
theorem bvv_noRef (k : Nat) (l : List Bool) : noRefL k (bvv l) = true := by
  induction l with
  | nil => rfl
  | cons b l ih => exact and_tt rfl ih
theorem bvv_one (l : List Bool) : (bvv l).all AVal.one = true := by
  rw [List.all_eq_true]
  intro x hx
  obtain ⟨b, _, rfl⟩ := List.mem_map.1 hx
  rfl
theorem bvv_set {l : List Bool} {i : Nat} (v : Bool) (h : i < l.length) : setRange (bvv l) (0 + i * 1) [AVal.bool v] = bvv (l.set i v) := by
  have e : 0 + i * 1 = i := by omega
  rw [e]
  unfold setRange bvv
  rw [List.set_eq_take_append_cons_drop, if_pos h]
  simp
/-- A row that is laid as far as place i. -/
def gS (t : List Int) (r : Int) (f : List Bool) (i : Nat) : List Bool := (rowF t r f).take i ++ List.replicate (t.length + 1 - i) false
theorem rowF_length (t : List Int) (r : Int) (f : List Bool) : (rowF t r f).length = t.length + 1 := by simp [rowF]
theorem gS_length (t : List Int) (r : Int) (f : List Bool) {i : Nat} (h : i ≤ t.length + 1) : (gS t r f i).length = t.length + 1 := by
  simp only [gS, List.length_append, List.length_take, List.length_replicate, rowF_length]; omega
theorem rowF_get (t : List Int) (r : Int) (f : List Bool) {i : Nat} (h : i < t.length + 1) : (rowF t r f)[i]'(by rw [rowF_length]; exact h) = rowB t r f i := by
  simp [rowF]
theorem gS_set (t : List Int) (r : Int) (f : List Bool) {i : Nat} (h : i < t.length + 1) : (gS t r f i).set i (rowB t r f i) = gS t r f (i + 1) := by
  have hl : ((rowF t r f).take i).length = i := by rw [List.length_take, rowF_length]; omega
  have hr := rowF_length t r f
  unfold gS
  rw [List.set_append, if_neg (by omega), hl, Nat.sub_self, show t.length + 1 - i = (t.length + 1 - (i + 1)) + 1 by omega, List.replicate_succ, List.set_cons_zero, List.take_add_one, List.getElem?_eq_getElem (by omega), rowF_get t r f h]
  simp
theorem gS_same (t : List Int) (r : Int) (f : List Bool) {i : Nat} (h : i < t.length + 1) (hb : rowB t r f i = false) : gS t r f i = gS t r f (i + 1) := by
  rw [← gS_set t r f h, hb]
  have hl : ((rowF t r f).take i).length = i := by rw [List.length_take, rowF_length]; omega
  unfold gS
  rw [List.set_append, if_neg (by omega), hl, Nat.sub_self, show t.length + 1 - i = (t.length + 1 - (i + 1)) + 1 by omega, List.replicate_succ, List.set_cons_zero]
theorem gS_prev (t : List Int) (r : Int) (f : List Bool) {i j : Nat} (h : i ≤ t.length + 1) (hj : j < i) : (gS t r f i)[j]'(by rw [gS_length t r f h]; omega) = rowB t r f j := by
  unfold gS
  rw [List.getElem_append_left (by rw [List.length_take, rowF_length]; omega), List.getElem_take, rowF_get t r f (by omega)]
theorem any_take (f : List Bool) {i : Nat} (h : i < f.length) : (f.take (i + 1)).any id = ((f.take i).any id || f[i]) := by
  rw [List.take_add_one, List.getElem?_eq_getElem h, List.any_append]
  simp
theorem row0_eq (t : List Int) : row0 t = true :: List.replicate t.length false := by
  unfold row0
  rw [List.range_succ_eq_map]
  simp only [List.map_cons, List.map_map]
  congr 1
  rw [List.eq_replicate_iff]
  exact ⟨by simp, fun b hb => by
    obtain ⟨x, _, rfl⟩ := List.mem_map.1 hb
    simp⟩
theorem rowsF_snoc (t l : List Int) (r : Int) : rowsF t (l ++ [r]) = rowF t r (rowsF t l) := by simp [rowsF]
theorem rowsF_length (t : List Int) : ∀ l : List Int, (rowsF t l).length = t.length + 1 := by
  intro l
  rcases List.eq_nil_or_concat l with rfl | ⟨l', r, rfl⟩
  · simp [rowsF, row0]
  · rw [List.concat_eq_append, rowsF_snoc, rowF_length]
theorem like_c (s q : Txt) (hs : s.length ≤ 1000000) (hq : q.length ≤ 1000000) : ACall Tryd.prog 15 [.str s, .str q] Sto.empty fun v _ => Wk v (.tuple [.bool (!decide (200 < (runeL s).length ∨ 200 < (runeL q).length) && likeR (runeL s) (runeL q)), .int .i64 (if decide (200 < (runeL s).length ∨ 200 < (runeL q).length) = true then 32 else 0)]) := by
  refine like_i s q _ (.of [countE] rfl ⟨count_ok, trivial⟩) ?_
  intro y hy
  refine gb_by (lenT_mk hs) ?_
  simp only [hold_eq]
  refine brV_by' (fun h1 => ?_) (fun h1 => ?_)
  rotate_left
  · have h1 := of_decide_eq_true h1
    rw [decide_eq_true (show 200 < (runeL s).length ∨ 200 < (runeL q).length by omega)]
    exact Wk.refl _
  have h1 := of_decide_eq_false h1
  intro z hz
  refine gb_by (lenT_mk hq) (brV_by (fun h2 => ?_) (fun h2 => ?_))
  · have h2 := of_decide_eq_true h2
    rw [decide_eq_true (show 200 < (runeL s).length ∨ 200 < (runeL q).length by omega)]
    exact Wk.refl _
  have h2 := of_decide_eq_false h2
  rw [decide_eq_false (show ¬ (200 < (runeL s).length ∨ 200 < (runeL q).length) by omega)]
  have ht : (runeL s).length ≤ 200 := by omega
  generalize runeL s = t at *
  have hn : IntKind.i64.wrap (((List.map (AVal.int .i32) t).length : Int) + 1) = ((t.length + 1 : Nat) : Int) := by
    rw [List.length_map, wrap_i64 (by omega) (by omega)]; rfl
  rw [hn]
  have hn2 : Int.toNat ((t.length + 1 : Nat) : Int) = t.length + 1 := rfl
  rw [hn2, bvv_rep]
  have e0 : setRange (bvv (List.replicate (t.length + 1) false)) 0 [AVal.bool true] = bvv (row0 t) := by
    rw [row0_eq]
    exact bvv_set (l := List.replicate (t.length + 1) false) (i := 0) true (by simp)
  rw [e0]
  have hl0 : (bvv (List.replicate (t.length + 1) false)).length = t.length + 1 := by simp [bvv]
  have hl1 : (row0 t).length = t.length + 1 := by simp [row0]
  have hl2 : (bvv (row0 t)).length = t.length + 1 := by rw [bvv_length, hl1]
  have e1 : (bvv (row0 t)).take (t.length + 1) = bvv (row0 t) := List.take_of_length_le (by omega)
  rw [e1]
  have hnr : AObj.noRef 25 (AObj.cells (bvv (List.replicate (t.length + 1) false))) = true := bvv_noRef 25 _
  rw [hnr]
  generalize hN : ((t.length + 1 : Nat) : Int) = N
  refine gb_by (dt ⟨by omega, by omega⟩) (gb_by (dtU ⟨by omega, trivial, by omega, by omega, by simp⟩) (gb_by (dt (by omega)) (gb_by (dt ⟨by omega, fun h => by cases h⟩) (gb_by ?_ ?_))))
  · refine and_tt ?_ (and_tt (dt (by omega)) (bvv_one _))
    exact bvv_noLoc (List.replicate t.length false)
  have hrv : ∀ l : List Int, List.map (AVal.int .i32) l = rv l := fun _ => rfl
  rw [hrv]
  have hrl : (rv t).length = t.length := rv_length t
  refine loopV_intro (α := List Int × Nat) (fun x => likeL_S t (rowsF t x.1) q x.2) (fun x => runeL q = x.1 ++ restR q x.2) (fun x => q.length - x.2) ?_ ([], 0) rfl
  rintro ⟨l, p⟩ g1 L hL
  simp only at g1
  have hfl : (bvv (rowsF t l)).length = t.length + 1 := by rw [bvv_length, rowsF_length]
  have hfl' : (rowsF t l).length = t.length + 1 := rowsF_length t l
  refine Eq.mpr (likeL_r t (rowsF t l) q p L _) ?_
  simp only [hold_eq]
  rw [hfl, hn2]
  refine brV_by (fun h => ?_) (fun h => ?_)
  · have hp : p < q.length := of_decide_eq_true h
    rw [restR_step hp] at g1
    have nxt := hL (l ++ [decR q p], p + decW q p) (by simp only; rw [g1]; simp) (by have := decW_pos hp; simp only; omega)
    simp only [rowsF_snoc] at nxt
    generalize decR q p = r at *
    generalize rowsF t l = f at *
    generalize p + decW q p = p' at *
    rw [bvv_rep]
    have hnr : AObj.noRef 35 (AObj.cells (bvv (List.replicate (t.length + 1) false))) = true := bvv_noRef 35 _
    rw [hnr]
    generalize hN : ((t.length + 1 : Nat) : Int) = N
    refine gb_by (dtU ⟨by omega, trivial, by omega, by omega, by simp⟩) ?_
    subst hN
    have e2 : List.replicate (t.length + 1) false = gS t r f 0 := by simp [gS]
    rw [e2]
    refine loopV_intro (α := Nat) (fun i => likeM_S t f r (gS t r f i) (t.length + 1) i q p') (fun i => i ≤ t.length + 1) (fun i => t.length + 1 - i) ?_ 0 (Nat.zero_le _)
    rintro i hi M hM
    have hgl := gS_length t r f hi
    have hgv : (bvv (gS t r f i)).length = t.length + 1 := by rw [bvv_length, hgl]
    refine Eq.mpr (likeM_r t f r (gS t r f i) (t.length + 1) i q p' M _) ?_
    simp only [hold_eq]
    refine brV_by (fun h1 => ?_) (fun h1 => ?_)
    · have hlt : i < t.length + 1 := by have := of_decide_eq_true h1; omega
      have t0 : Int.toNat (i : Int) = i := rfl
      have hi1 : IntKind.i64.wrap ((i : Int) + 1) = ((i + 1 : Nat) : Int) := i64_succ hlt (by omega)
      have nx := hM (i + 1) hlt (by omega)
      rw [t0]
      rw [bvv_at (show i < f.length by omega)]
      have fin : ∀ v : Bool, v = rowB t r f i → M (likeM_S t f r ((gS t r f i).set i v) (t.length + 1) (i + 1) q p') := fun v hv => by
        rw [hv, gS_set t r f hlt]; exact nx
      have same : rowB t r f i = false → M (likeM_S t f r (gS t r f i) (t.length + 1) (i + 1) q p') := fun hv => by
        rw [gS_same t r f hlt hv]; exact nx
      refine brV_by (fun h2 => ?_) (fun h2 => ?_)
      · have h2 : r = 42 := by simpa using h2
        have hb : rowB t r f i = ((f.take i).any id || f[i]) := by rw [rowB, if_pos h2, any_take f (by omega)]
        refine gb_by (dt (by omega)) (gb_by (bvv_at1 (by omega)) (brV_by' (fun h3 => ?_) (fun h3 => ?_)))
        · rw [h3, Bool.or_false] at hb
          refine brV_by (fun h4 => ?_) (fun h4 => ?_)
          · have h4 : 0 < i := by have := of_decide_eq_true h4; omega
            have hm1 : IntKind.i64.wrap ((i : Int) - 1) = ((i - 1 : Nat) : Int) := by rw [wrap_i64 (by omega) (by omega)]; omega
            have t1 : Int.toNat ((i - 1 : Nat) : Int) = i - 1 := rfl
            rw [hm1, t1]
            have e3 : 0 + (i - 1) * 1 = i - 1 := by omega
            rw [e3, bvv_get (show i - 1 < (gS t r f i).length by omega), gS_prev t r f hi (by omega)]
            refine gb_by (dt (by omega)) (gb_by (and_tt (dt (by omega)) rfl) (gb_by (dt (by omega)) (gb_by (dt ⟨by omega, fun h => by cases h⟩) ?_)))
            have e4 : AVal.boolOf (.bool (rowB t r f (i - 1))) = rowB t r f (i - 1) := rfl
            rw [e4, bvv_set _ (show i < (gS t r f i).length by omega)]
            refine toCut (Eq.mpr (likeI_r t f r _ (t.length + 1) i q p' _) ?_)
            rw [hi1]
            refine fin _ ?_
            rw [hb, rowB, if_pos h2, show i - 1 + 1 = i by omega]
          · have h4 : i = 0 := by have := of_decide_eq_false h4; omega
            refine gb_by (dt (by omega)) (gb_by (dt ⟨by omega, fun h => by cases h⟩) ?_)
            rw [bvv_set _ (show i < (gS t r f i).length by omega)]
            refine toCut (Eq.mpr (likeI_r t f r _ (t.length + 1) i q p' _) ?_)
            rw [hi1]
            refine fin _ ?_
            rw [hb]; subst h4; rfl
        · rw [h3, Bool.or_true] at hb
          refine gb_by (dt (by omega)) (gb_by (dt ⟨by omega, fun h => by cases h⟩) ?_)
          rw [bvv_set _ (show i < (gS t r f i).length by omega)]
          refine toCut (Eq.mpr (likeI_r t f r _ (t.length + 1) i q p' _) ?_)
          rw [hi1]
          exact fin _ hb.symm
      · have h2 : ¬ r = 42 := by simpa using h2
        refine brV_by (fun h4 => ?_) (fun h4 => ?_)
        · have h4 : 0 < i := by have := of_decide_eq_true h4; omega
          have hm1 : IntKind.i64.wrap ((i : Int) - 1) = ((i - 1 : Nat) : Int) := by rw [wrap_i64 (by omega) (by omega)]; omega
          rw [hm1, rv_at (show i - 1 < t.length by omega), bvv_at (show i - 1 < f.length by omega)]
          have hb : rowB t r f i = ((r == 63 || r == t[i - 1]'(by omega)) && f[i - 1]'(by omega)) := by
            rw [rowB, if_neg h2, decide_eq_true h4, Bool.true_and]
            simp [List.getD, List.getElem?_eq_getElem (show i - 1 < t.length by omega), List.getElem?_eq_getElem (show i - 1 < f.length by omega)]
          refine brV_by' (fun h5 => ?_) (fun h5 => ?_)
          · have h5 : (r == 63) = false := h5
            rw [h5, Bool.false_or] at hb
            refine gb_by (dt (by omega)) (gb_by (rv_at1 (by omega)) (brV_by (fun h6 => ?_) (fun h6 => ?_)))
            · have h6 : (r == t[i - 1]'(by omega)) = true := h6
              rw [h6, Bool.true_and] at hb
              refine gb_by (dt (by omega)) (gb_by (bvv_at1 (by omega)) (gb_by (dt (by omega)) (gb_by (dt ⟨by omega, fun h => by cases h⟩) ?_)))
              rw [bvv_set _ (show i < (gS t r f i).length by omega)]
              refine toCut (Eq.mpr (likeI_r t f r _ (t.length + 1) i q p' _) ?_)
              rw [hi1]
              exact fin _ hb.symm
            · have h6 : (r == t[i - 1]'(by omega)) = false := h6
              rw [h6, Bool.false_and] at hb
              refine toCut (Eq.mpr (likeI_r t f r _ (t.length + 1) i q p' _) ?_)
              rw [hi1]
              exact same hb
          · have h5 : (r == 63) = true := h5
            rw [h5, Bool.true_or, Bool.true_and] at hb
            refine gb_by (dt (by omega)) (gb_by (bvv_at1 (by omega)) (gb_by (dt (by omega)) (gb_by (dt ⟨by omega, fun h => by cases h⟩) ?_)))
            rw [bvv_set _ (show i < (gS t r f i).length by omega)]
            refine toCut (Eq.mpr (likeI_r t f r _ (t.length + 1) i q p' _) ?_)
            rw [hi1]
            exact fin _ hb.symm
        · have h4 : i = 0 := by have := of_decide_eq_false h4; omega
          refine toCut (Eq.mpr (likeI_r t f r _ (t.length + 1) i q p' _) ?_)
          rw [hi1]
          refine same ?_
          rw [rowB, if_neg h2]; subst h4; rfl
    · have hge : i = t.length + 1 := by have := of_decide_eq_false h1; omega
      subst hge
      have hG : gS t r f (t.length + 1) = rowF t r f := by
        unfold gS
        rw [Nat.sub_self, List.take_of_length_le (by rw [rowF_length]; exact Nat.le_refl _)]; simp
      rw [hG] at hgv ⊢
      refine leaveTo (toCut (Eq.mpr (likeN_r t (rowF t r f) (t.length + 1) q p' _) ?_))
      refine gb_by (and_tt (bvv_noLoc _) (and_tt (by rw [hold_eq]; exact dt (by omega)) ?_)) ?_
      · rw [List.take_of_length_le (by omega)]; exact bvv_one _
      · rw [List.take_of_length_le (by omega)]; exact inBlock nxt
  · have hp : q.length ≤ p := by have := of_decide_eq_false h; omega
    rw [restR_end hp, List.append_nil] at g1
    refine leaveTo (toCut (Eq.mpr (likeF_r t (rowsF t l) _) ?_))
    rw [hrl, bvv_at (show t.length < (rowsF t l).length by omega)]
    refine gb_by (dt (by omega)) (gb_by (bvv_at1 (by omega)) ?_)
    have : likeR t (runeL q) = (rowsF t l)[t.length]'(by omega) := by
      rw [likeR, g1]
      simp [List.getD, List.getElem?_eq_getElem (show t.length < (rowsF t l).length by omega)]
    rw [this]; exact Wk.refl _
theorem like_ok : EntOk Tryd.prog likeE := by
  intro xs σ; simp only [likeE]; split
  · rename_i s q
    intro hc
    rw [Bool.and_eq_true] at hc
    exact pcall_of (.refl _) (by rw [hold_eq]; exact like_c s q (lenT_of hc.1) (lenT_of hc.2)) rfl rfl rfl rfl
  · trivial
end Go.Proofs.YtkigoikknoplhaaDoor
