/-
  Seat 01 (letter): the laws' contracts: stars; there and back.
-/
import Derived.Test.YtkigoikknoplhaaDoorQl
namespace Go.Proofs.YtkigoikknoplhaaDoor
open Go.AL
set_option linter.unusedSimpArgs false
set_option linter.unusedVariables false
set_option maxHeartbeats 2000000
set_option maxRecDepth 20000

def plainB (c : Int) : Bool := c != 42 && c != 63
theorem mod_k {len : Nat} (h : len ≤ 1000000) {n m : Int} (hm : m = Int.tmod (IntKind.i64.wrap (IntKind.i64.wrap (Int.tmod n (IntKind.i64.wrap ((len : Int) + 1)) + (len : Int)) + 1)) (IntKind.i64.wrap ((len : Int) + 1))) : IntKind.i64.wrap ((len : Int) + 1) ≠ 0 ∧ ∃ k : Nat, m = (k : Int) ∧ k ≤ len := by
  have e : IntKind.i64.wrap ((len : Int) + 1) = (len : Int) + 1 := wrap_i64 (by omega) (by omega)
  rw [e] at hm ⊢
  have h1 := Int.tmod_lt_of_pos n (show (0 : Int) < (len : Int) + 1 by omega)
  have h2 := Int.lt_tmod_of_pos n (show (0 : Int) < (len : Int) + 1 by omega)
  generalize Int.tmod n ((len : Int) + 1) = x at *
  rw [wrap_i64 (n := x + len) (by omega) (by omega), wrap_i64 (by omega) (by omega)] at hm
  have h3 := Int.tmod_lt_of_pos (x + len + 1) (show (0 : Int) < (len : Int) + 1 by omega)
  have h4 := Int.tmod_nonneg (a := x + len + 1) ((len : Int) + 1) (by omega)
  rw [← hm] at h3 h4
  exact ⟨by omega, m.toNat, by omega, by omega⟩
theorem stars_law (xs : List AVal) (h : FitsL [.str, .str, .int .i64] xs) : ACall Tryd.prog 10 xs Sto.empty fun r _ => r = .bool true := by
  obtain ⟨_, _, rfl, ⟨s, rfl, _⟩, _, _, rfl, ⟨q, rfl, _⟩, _, _, rfl, h3, rfl⟩ := h
  obtain ⟨n, rfl, hn⟩ := fits_i64 h3
  refine starsL_i s q n _ (.of [awakeE, runesE, likeE, textE, compareE] rfl ⟨awake_ok, runes_ok, like_ok, text_ok, compare_ok, trivial⟩) ?_
  simp only [hold_eq]
  refine brF rfl (brV_by' (fun h => ?_) (fun _ => by trivial))
  have hs : s.length ≤ 150 := by have := of_decide_eq_false h; omega
  refine brV_by (fun _ => by trivial) (fun h => ?_)
  have hq : q.length ≤ 150 := by have := of_decide_eq_false h; omega
  have ls := lenT_mk (show s.length ≤ 1000000 by omega)
  have lq := lenT_mk (show q.length ≤ 1000000 by omega)
  intro l hl
  refine gb_by lq ?_
  have hll : l.length ≤ 150 := by have := runeL_len q; rw [← hl] at this; omega
  have hsl := runeL_len s
  have hrl : (rv l).length = l.length := rv_length l
  refine loopV_intro (α := Nat) (fun i => starsLL_S s q n l ((l.take i).all plainB) i) (fun i => i ≤ l.length) (fun i => l.length - i) ?_ 0 (Nat.zero_le _)
  rintro i hi L hL
  refine Eq.mpr (starsLL_r s q n l ((l.take i).all plainB) i L _) ?_
  simp only [hold_eq]
  refine brV_by (fun h => ?_) (fun h => ?_)
  · have hlt : i < l.length := by have := of_decide_eq_true h; omega
    have htk : l.take (i + 1) = l.take i ++ [l[i]] := by rw [List.take_add_one, List.getElem?_eq_getElem hlt]; rfl
    have hi1 : IntKind.i64.wrap ((i : Int) + 1) = ((i + 1 : Nat) : Int) := i64_succ hlt (by omega)
    have nxt : ∀ b : Bool, b = ((l.take i).all plainB && plainB l[i]) → L (starsLL_S s q n l b (i + 1)) := fun b hb => by
      have := hL (i + 1) hlt (by omega)
      rw [htk, List.all_append] at this
      simp only [List.all_cons, List.all_nil, Bool.and_true] at this
      rw [hb]; exact this
    rw [rv_at hlt]
    refine brV_by (fun h1 => ?_) (fun h1 => ?_)
    · refine gb_by (dt (by omega)) (gb_by (rv_at1 hlt) (brV_by (fun h2 => ?_) (fun h2 => ?_)))
      · refine gb_by (dt (by omega)) (gb_by (rv_at1 hlt) (toCut (Eq.mpr (starsLI_r s q n l _ i _) ?_)))
        rw [hi1]
        refine nxt _ ?_
        rw [h1, plainB, h2]; simp
      · refine toCut (Eq.mpr (starsLI_r s q n l _ i _) ?_)
        rw [hi1]
        refine nxt _ ?_
        rw [plainB, h2]; simp
    · refine toCut (Eq.mpr (starsLI_r s q n l _ i _) ?_)
      rw [hi1]
      refine nxt _ ?_
      rw [h1]; rfl
  · have hi' : i = l.length := by have := of_decide_eq_false h; omega
    subst hi'
    rw [List.take_length]
    refine leaveTo (toCut (Eq.mpr (starsLF_r s q n l _ _) ?_))
    simp only [hold_eq, rv_length]
    intro y hy b1 hb1
    have hb1 : b1 = false := by rw [hb1]; exact decide_eq_false (by rw [← hl]; omega)
    subst hb1
    obtain ⟨hw0, _⟩ := mod_k (len := l.length) (by omega) (n := n) rfl
    refine gb_by (and_tt ls lq) (gb_by (dt hw0) (gb_by (dt hw0) ?_))
    intro m hm
    obtain ⟨_, k, rfl, hk⟩ := mod_k (by omega) hm
    clear hm
    have t0 : Int.toNat (k : Int) = k := rfl
    have t1 : Int.toNat (l.length : Int) = l.length := rfl
    have e1 : (rv l).take k = rv (l.take k) := by simp [rv]
    have e2 : ((rv l).drop k).take (l.length - k) = rv (l.drop k) := by
      rw [List.take_of_length_le (by rw [List.length_drop]; omega)]; simp [rv]
    simp only [t0, t1, Nat.sub_zero, List.drop_zero, e1, e2, map_intOf_rv, rv_is, rv_length, Bool.true_and]
    have l1 := txtR_len (l.take k)
    have l2 := txtR_len (l.drop k)
    have l3 : (l.take k).length ≤ 150 := by rw [List.length_take]; omega
    have l4 : (l.drop k).length ≤ 150 := by rw [List.length_drop]; omega
    refine gb_by (dt (by omega)) ?_
    intro x hx
    refine gb_by (dt (by omega)) (gb_by (dt (by rw [hx]; omega)) (gb_by (dt (by omega)) ?_))
    intro z hz
    refine gb_by (dt (by omega)) (gb_by (dt (by rw [hx, hz, List.length_append]; simp; omega)) ?_)
    have hru : runeL (x ++ [42] ++ z) = l.take k ++ [42] ++ l.drop k := by
      have e42 : ([42] : Txt) = txtR [42] := rfl
      have hf : ∀ u : List Int, (∀ r ∈ u, r ∈ l) → u.map fixR = u := fun u hu => by
        conv => rhs; rw [← List.map_id u]
        exact List.map_congr_left fun r hr => fix_valid (runeL_valid _ q (Nat.le_refl _) r (by rw [← hl]; exact hu r hr))
      rw [hx, hz, e42, List.append_assoc, runeL_txt, runeL_txt, runeL_txt', hf _ (fun r hr => List.mem_of_mem_take hr), hf _ (fun r hr => List.mem_of_mem_drop hr), ← List.append_assoc]
      rfl
    rw [hru]
    intro u hu b2 hb2
    have hb2 : b2 = false := by
      rw [hb2]
      refine decide_eq_false ?_
      simp only [List.length_append, List.length_take, List.length_drop, List.length_singleton]
      omega
    subst hb2
    refine gb_by (and_tt ls (lenT_mk (by rw [hx, hz]; simp only [List.length_append, List.length_singleton]; omega))) (brT rfl (brT rfl ?_))
    have more : y = true → u = true := fun h => by
      rw [hy, like_fit, ← hl, ← List.take_append_drop k l] at h
      rw [hu, like_fit]
      exact h.more
    have tail : brV (!(!false && y)) false ((AVal.bool (!false && u)) = .bool true) True := by
      refine brV_by' (fun h => ?_) (fun _ => trivial)
      exact ft (more (by simpa using h))
    refine brV_by' (fun hp => ?_) (fun hp => tail)
    intro c hc
    refine gb_by (and_tt ls lq) (brT ?_ tail)
    have hp : ∀ r ∈ l, r ≠ 42 ∧ r ≠ 63 := fun r hr => by
      have h1 : l.all plainB = true := by simpa using hp
      have h2 := List.all_eq_true.1 h1 r hr
      simpa [plainB] using h2
    have : y = (c == 0) := by
      rw [Bool.eq_iff_iff, hy, like_fit, beq_iff_eq, ← hl, hc, ← hl]
      constructor
      · intro h5; rw [Fit.plain hp h5, cmpR_self]
      · intro h5; rw [cmpR_eq h5]; exact Fit.self l
    rw [this]; simp
theorem back_law (xs : List AVal) (h : FitsL [.slice (.int .i32) 1 4, .int .i64] xs) : ACall Tryd.prog 8 xs Sto.empty fun r _ => r = .bool true := by
  obtain ⟨_, _, rfl, h1, _, _, rfl, h3, rfl⟩ := h
  obtain ⟨l, rfl, _⟩ := fits_rv h1
  obtain ⟨n, rfl, hn⟩ := fits_i64 h3
  refine backL_i l n _ (.of [awakeE, textE, unquoteE, quoteE, likeE, foldE, countE, cutE] rfl ⟨awake_ok, text_ok, unquote_ok, quote_ok, like_ok, fold_ok, count_ok, cut_ok, trivial⟩) ?_
  simp only [hold_eq, rv_length, map_intOf_rv, rv_is, Bool.true_and]
  refine brF rfl (brV_by (fun _ => by trivial) (fun h => ?_))
  have hl : l.length ≤ 100 := by have := of_decide_eq_false h; omega
  intro y hy
  have lt := txtR_len l
  have ly : y.length ≤ 400 := by rw [hy]; omega
  have lt1 := lenT_mk (show y.length ≤ 1000000 by omega)
  obtain ⟨hw0, _⟩ := mod_k (len := l.length) (by omega) (n := n) rfl
  refine gb_by (dt (by omega)) (gb_by (dt hw0) (gb_by (dt hw0) ?_))
  intro m hm
  obtain ⟨_, k, rfl, hk⟩ := mod_k (by omega) hm
  clear hm
  have t0 : Int.toNat (k : Int) = k := rfl
  have t1 : Int.toNat (l.length : Int) = l.length := rfl
  have e1 : (rv l).take k = rv (l.take k) := by simp [rv]
  have e2 : ((rv l).drop k).take (l.length - k) = rv (l.drop k) := by
    rw [List.take_of_length_le (by rw [List.length_drop]; simp)]; simp [rv]
  simp only [t0, t1, Nat.sub_zero, List.drop_zero, e1, e2, map_intOf_rv, rv_is, rv_length, Bool.true_and]
  have hr : runeL y = l.map fixR := by rw [hy, runeL_txt']
  have hrl : (runeL y).length = l.length := by rw [hr, List.length_map]
  intro z hz
  have hz : z = quoT y := hz
  have lz := quoT_len y
  rw [← hz] at lz
  refine gb_by lt1 ?_
  have hk1 := unq_key hz.symm
  have hty : txtR (runeL y) = y := by
    rw [hr, hy]
    unfold txtR
    rw [List.flatMap_map]
    congr 1
    funext r; exact encA_fix r
  rw [hty] at hk1
  rw [hk1.1]
  intro b hb
  have hb : b = true := hb
  subst hb
  intro v hv
  have hv : v = y := hv
  refine gb_by (lenT_mk (by omega)) ?_
  intro f hf g hg
  have hf : f = true := by rw [hf, like_fit]; exact Fit.self _
  have hg : g = false := by rw [hg]; exact decide_eq_false (by omega)
  subst hf; subst hg
  refine gb_by (and_tt lt1 lt1) (gb_by (dt (by omega)) ?_)
  have l1 := txtR_len (l.take k)
  have l2 := txtR_len (l.drop k)
  have l3 : (l.take k).length ≤ 100 := by rw [List.length_take]; omega
  have l4 : (l.drop k).length ≤ 100 := by rw [List.length_drop]; omega
  intro x hx
  refine gb_by (dt (by omega)) (gb_by (dt (by rw [hx]; omega)) (gb_by (dt (by omega)) ?_))
  intro w hw
  refine gb_by (dt (by omega)) (gb_by (dt (by rw [hx, hw, List.length_append]; simp; omega)) ?_)
  have hru : runeL (x ++ [42] ++ w) = (l.take k).map fixR ++ [42] ++ (l.drop k).map fixR := by
    have e42 : ([42] : Txt) = txtR [42] := rfl
    rw [hx, hw, e42, List.append_assoc, runeL_txt, runeL_txt, runeL_txt', ← List.append_assoc]
    rfl
  intro c hc d hd
  have hc : c = true := by
    rw [hc, hru, like_fit, hr]
    refine Fit.more ?_
    rw [← List.map_append, List.take_append_drop]
    exact Fit.self _
  have hd : d = false := by
    rw [hd]
    refine decide_eq_false ?_
    rw [hru]
    simp only [List.length_append, List.length_map, List.length_take, List.length_drop, List.length_singleton]
    omega
  subst hc; subst hd
  have r120 : runeL (y ++ [120]) = l.map fixR ++ [120] := by
    have e : ([120] : Txt) = txtR [120] := rfl
    rw [e, hy, runeL_txt, runeL_txt']; rfl
  have r63 : runeL (y ++ [63]) = l.map fixR ++ [63] := by
    have e : ([63] : Txt) = txtR [63] := rfl
    rw [e, hy, runeL_txt, runeL_txt']; rfl
  refine gb_by (and_tt lt1 (lenT_mk (by rw [hx, hw]; simp only [List.length_append, List.length_singleton]; omega))) (gb_by (dt (by omega)) (gb_by (dt (by omega)) ?_))
  intro i hi j hj
  have hi : i = true := by
    rw [hi, r120, r63, like_fit]
    exact (Fit.self _).app (.one (by decide) (.inl rfl) .nil)
  have hj : j = false := by
    rw [hj]
    refine decide_eq_false ?_
    rw [r120, r63]
    simp only [List.length_append, List.length_map, List.length_singleton]
    omega
  subst hi; subst hj
  refine gb_by (and_tt (lenT_mk (by simp only [List.length_append, List.length_singleton]; omega)) (lenT_mk (by simp only [List.length_append, List.length_singleton]; omega))) ?_
  intro o ho
  have lo : o.length ≤ 400 := by
    have := txtR_len ((runeL y).map fdR)
    rw [List.length_map] at this
    rw [ho]; omega
  refine gb_by lt1 (brT rfl (brT (by rw [hv]; simp) (brT rfl (brT rfl (brT rfl (brT rfl (brT rfl (brT rfl ?_))))))))
  intro p hp
  refine gb_by (lenT_mk (by omega)) (brT (by rw [hp, ho, fold_twice]; simp) ?_)
  intro a ha
  refine gb_by lt1 (brT (by rw [ha, hrl]; simp) ?_)
  intro u hu
  refine gb_by (and_tt lt1 (i64r_mk (by omega))) (gb_by (dt (by omega)) ?_)
  intro q hq
  refine gb_by (dt (by omega)) (gb_by (dt ?_) (ft ?_))
  · have := cut_len y (k : Int)
    have := posT_le y (k : Int).toNat 0 (Nat.zero_le _)
    rw [hu, hq]; omega
  · rw [hu, hq, hy, cut_txt l k hk]; simp
end Go.Proofs.YtkigoikknoplhaaDoor
