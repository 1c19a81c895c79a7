/-
  Seat 01 (letter): the laws' contracts.
-/
import Derived.Test.YtkigoikknoplhaaDoorQp
import Derived.Test.YtkigoikknoplhaaDoorQq
import Derived.Test.YtkigoikknoplhaaDoorQw
namespace Go.Proofs.YtkigoikknoplhaaDoor
open Go.AL
set_option linter.unusedSimpArgs false
set_option linter.unusedVariables false
set_option maxHeartbeats 2000000
set_option maxRecDepth 20000

theorem ft {b : Bool} (h : b = true) : AVal.bool b = .bool true := by rw [h]
theorem brF {b : Bool} {A B : Prop} (hb : b = false) (h : A) : brV b false A B := by subst hb; exact brV_by' (fun _ => h) (fun h => by cases h)
theorem fits_i64 {a : AVal} (h : Fits (.int .i64) a) : ∃ n, a = .int .i64 n ∧ -9223372036854775808 ≤ n ∧ n ≤ 9223372036854775807 := h
theorem fits_rv {b : Nat} {a : AVal} (h : Fits (.slice (.int .i32) 1 b) a) : ∃ l : List Int, a = .slice (rv l) 1 .ro ∧ l.length * b ≤ 140737488351232 := by
  obtain ⟨es, rfl, h1, h2⟩ := h
  obtain ⟨ls, rfl, hx⟩ := map_of (f := AVal.int .i32) (P := fun _ => True) fun e he => by
    obtain ⟨n, h3, _⟩ := h2 e he
    exact ⟨n, h3, trivial⟩
  exact ⟨ls, rfl, by simpa using h1⟩
theorem fits_strv {b : Nat} {a : AVal} (h : Fits (.slice .str 1 b) a) : ∃ l : List Txt, a = .slice (strv l) 1 .ro ∧ l.length * b ≤ 140737488351232 := by
  obtain ⟨es, rfl, h1, h2⟩ := h
  obtain ⟨ls, rfl, hx⟩ := map_of (f := AVal.str) (P := fun _ => True) fun e he => by
    obtain ⟨n, h3, _⟩ := h2 e he
    exact ⟨n, h3, trivial⟩
  exact ⟨ls, rfl, by simpa using h1⟩
theorem cuts_law (xs : List AVal) (h : FitsL [.str, .int .i64, .int .i64] xs) : ACall Tryd.prog 6 xs Sto.empty fun r _ => r = .bool true := by
  obtain ⟨_, _, rfl, ⟨s, rfl, hs0⟩, _, _, rfl, h2, _, _, rfl, h3, rfl⟩ := h
  obtain ⟨n, rfl, hn⟩ := fits_i64 h2
  obtain ⟨m, rfl, hm⟩ := fits_i64 h3
  refine cutsL_i s n m _ (.of [awakeE, cutE, countE] rfl ⟨awake_ok, cut_ok, count_ok, trivial⟩) ?_
  simp only [hold_eq]
  refine brF rfl (brV_by (fun _ => by trivial) (fun h => ?_))
  have hs : s.length ≤ 2000 := by have := of_decide_eq_false h; omega
  intro a ha
  refine gb_by (and_tt (lenT_mk (by omega)) (i64r_mk hn)) ?_
  intro k hk
  refine gb_by (lenT_mk (by omega)) ?_
  intro j hj
  have hal : a.length ≤ s.length := by rw [ha, cut_len]; exact posT_le s _ _ (Nat.zero_le _)
  refine gb_by (lenT_mk (by omega)) ?_
  have hks := runeL_len s
  have hj' : j = min n.toNat k := by rw [hj, ha, cut_runes, List.length_take, ← hk]
  have hwant : (if (if (k : Int) < n then (k : Int) else n) < 0 then 0 else if (k : Int) < n then (k : Int) else n) = ((min n.toNat k : Nat) : Int) := by
    split <;> split <;> omega
  rw [hwant]
  refine brT (by simp [hj']) (gb_by (dt (by omega)) ?_)
  have t0 : Int.toNat (a.length : Int) = a.length := rfl
  have t1 : Int.toNat (s.length : Int) = s.length := rfl
  rw [t0, t1]
  have e1 : s.take (a.length - 0) = a := by rw [Nat.sub_zero, ha]; exact cut_pre s n
  rw [e1]
  refine brT (by simp) (gb_by (dt (by omega)) ?_)
  have e2 : (s.drop a.length).take (s.length - a.length) = s.drop a.length := List.take_of_length_le (by rw [List.length_drop]; omega)
  rw [e2]
  intro q hq
  have hq' : q = k - n.toNat := by rw [hq, ha, cut_rest, List.length_drop, ← hk]
  refine gb_by (lenT_mk (by rw [List.length_drop]; omega)) ?_
  have hw : IntKind.i64.wrap ((k : Int) - ((min n.toNat k : Nat) : Int)) = ((k - n.toNat : Nat) : Int) := by
    rw [wrap_i64 (by omega) (by omega)]; omega
  rw [hw]
  refine brT (by simp [hq']) ?_
  intro x hx
  refine gb_by (and_tt (lenT_mk (by omega)) (i64r_mk hm)) ?_
  intro y hy
  refine gb_by (and_tt (lenT_mk (by omega)) (i64r_mk (by split <;> omega))) ?_
  have : x = y := by rw [hx, hy, ha, cut_cut]
  exact ft (by simp [this])
theorem fits_law (xs : List AVal) (h : FitsL [.str, .str] xs) : ACall Tryd.prog 4 xs Sto.empty fun r _ => r = .bool true := by
  obtain ⟨_, _, rfl, ⟨s, rfl, hs0⟩, _, _, rfl, ⟨q, rfl, hq0⟩, rfl⟩ := h
  refine fitsL_i s q _ (.of [awakeE, likeE, likeRE, runesE] rfl ⟨awake_ok, like_ok, likeR_ok, runes_ok, trivial⟩) ?_
  simp only [hold_eq]
  refine brF rfl (brV_by' (fun h => ?_) (fun _ => by trivial))
  have hs : s.length ≤ 900 := by have := of_decide_eq_false h; omega
  refine brV_by (fun _ => by trivial) (fun h => ?_)
  have hq : q.length ≤ 900 := by have := of_decide_eq_false h; omega
  intro y hy b hb
  have ls := lenT_mk (show s.length ≤ 1000000 by omega)
  have lq := lenT_mk (show q.length ≤ 1000000 by omega)
  refine gb_by (and_tt ls lq) ?_
  intro t ht
  refine gb_by ls ?_
  have htl : (rv t).length = t.length := rv_length t
  refine brV_by' (fun h => ?_) (fun h => ?_)
  · have h := of_decide_eq_false h
    intro u hu
    refine gb_by lq ?_
    have hul : (rv u).length = u.length := rv_length u
    refine brV_by (fun h1 => ?_) (fun h1 => ?_)
    · have h1 := of_decide_eq_true h1
      have : b = true := by rw [hb]; exact decide_eq_true (by rw [← hu]; omega)
      subst this
      exact brT rfl (ft rfl)
    · have h1 := of_decide_eq_false h1
      have : b = false := by rw [hb]; exact decide_eq_false (by rw [← ht, ← hu]; omega)
      subst this
      refine brT rfl ?_
      intro z hz
      refine gb_by (and_tt ls lq) (ft ?_)
      rw [hy, hz]; simp
  · have h := of_decide_eq_true h
    have : b = true := by rw [hb]; exact decide_eq_true (by rw [← ht]; omega)
    subst this
    exact brT rfl (ft rfl)
theorem quotes_law (xs : List AVal) (h : FitsL [.str] xs) : ACall Tryd.prog 7 xs Sto.empty fun r _ => r = .bool true := by
  obtain ⟨_, _, rfl, ⟨s, rfl, hs0⟩, rfl⟩ := h
  refine quotesL_i s _ (.of [awakeE, quoteE, unquoteE, quoteRE, unquoteRE] rfl ⟨awake_ok, quote_ok, unquote_ok, quoteR_ok, unquoteR_ok, trivial⟩) ?_
  simp only [hold_eq]
  refine brF rfl (brV_by (fun _ => by trivial) (fun h => ?_))
  have hs : s.length ≤ 2000 := by have := of_decide_eq_false h; omega
  have ls := lenT_mk (show s.length ≤ 1000000 by omega)
  intro b hb y hy
  refine gb_by ls ?_
  intro z hz c hc
  refine gb_by ls ?_
  intro q hq
  refine gb_by ls ?_
  intro r hr
  refine gb_by ls ?_
  refine brF (by rw [hq, hr]; simp) ?_
  rw [hc, ← hb]
  cases b with
  | true =>
    refine brV_by (fun h => by simp at h) (fun _ => ?_)
    refine brV_by (fun h => by simp at h) (fun _ => ft ?_)
    rw [hy, hz]; simp
  | false =>
    refine brV_by (fun h => by simp at h) (fun _ => ?_)
    refine brT rfl (brT rfl (ft ?_))
    rw [hy]; rfl
theorem compares_law (xs : List AVal) (h : FitsL [.str, .str, .str] xs) : ACall Tryd.prog 9 xs Sto.empty fun r _ => r = .bool true := by
  obtain ⟨_, _, rfl, ⟨a, rfl, _⟩, _, _, rfl, ⟨b, rfl, _⟩, _, _, rfl, ⟨c, rfl, _⟩, rfl⟩ := h
  refine comparesL_i a b c _ (.of [awakeE, compareE, compareRE] rfl ⟨awake_ok, compare_ok, compareR_ok, trivial⟩) ?_
  simp only [hold_eq]
  refine brF rfl (brV_by' (fun h => ?_) (fun _ => by trivial))
  have la := lenT_mk (show a.length ≤ 1000000 by have := of_decide_eq_false h; omega)
  refine brV_by' (fun h => ?_) (fun _ => by trivial)
  have lb := lenT_mk (show b.length ≤ 1000000 by have := of_decide_eq_false h; omega)
  refine brV_by (fun _ => by trivial) (fun h => ?_)
  have lc := lenT_mk (show c.length ≤ 1000000 by have := of_decide_eq_false h; omega)
  intro x hx
  refine gb_by (and_tt la lb) ?_
  intro y hy
  refine gb_by (and_tt lb lc) ?_
  intro z hz
  refine gb_by (and_tt la lc) ?_
  intro x' hx'
  refine gb_by (and_tt la lb) (brF (by rw [hx, hx']; simp) ?_)
  intro w hw
  refine gb_by (and_tt lb la) (brF ?_ ?_)
  · have := cmpR_range (runeL a) (runeL b)
    rw [← hx] at this
    have e : IntKind.i64.wrap (0 - x) = - x := by rw [wrap_i64 (by omega) (by omega)]; omega
    rw [e, hw, cmpR_swap, ← hx]; simp
  · intro v hv
    refine gb_by (and_tt la la) ?_
    refine brV_by (fun h => ?_) (fun _ => ?_)
    · rw [hv, cmpR_self] at h; simp at h
    · refine brV_by (fun h1 => ?_) (fun _ => by trivial)
      refine brV_by' (fun h2 => ?_) (fun _ => by trivial)
      have h1 := of_decide_eq_true h1
      have h2 : y ≤ 0 := by simpa using h2
      have := cmpR_trans _ _ _ (hx ▸ h1) (hy ▸ h2)
      rw [← hz] at this
      exact ft (decide_eq_true this)
theorem heads_law (xs : List AVal) (h : FitsL [.slice (.int .i32) 1 4, .slice (.int .i32) 1 4, .slice (.int .i32) 1 4] xs) : ACall Tryd.prog 11 xs Sto.empty fun r _ => r = .bool true := by
  obtain ⟨_, _, rfl, h1, _, _, rfl, h2, _, _, rfl, h3, rfl⟩ := h
  obtain ⟨a, rfl, _⟩ := fits_rv h1
  obtain ⟨b, rfl, _⟩ := fits_rv h2
  obtain ⟨c, rfl, _⟩ := fits_rv h3
  refine headsL_i a b c _ (.of [awakeE, compareE, textE] rfl ⟨awake_ok, compare_ok, text_ok, trivial⟩) ?_
  simp only [hold_eq, rv_length, map_intOf_rv, rv_is, Bool.true_and]
  refine brF rfl (brV_by' (fun h => ?_) (fun _ => by trivial))
  have ha : a.length ≤ 100 := by have := of_decide_eq_false h; omega
  refine brV_by' (fun h => ?_) (fun _ => by trivial)
  have hb : b.length ≤ 100 := by have := of_decide_eq_false h; omega
  refine brV_by (fun _ => by trivial) (fun h => ?_)
  have hc : c.length ≤ 100 := by have := of_decide_eq_false h; omega
  have la := txtR_len a
  have lb := txtR_len b
  have lc := txtR_len c
  intro x hx
  refine gb_by (dt (by omega)) ?_
  intro y hy
  refine gb_by (dt (by omega)) ?_
  intro z hz
  refine gb_by (dt (by omega)) ?_
  subst hx; subst hy; subst hz
  have l1 := lenT_mk (show (txtR a).length ≤ 1000000 by omega)
  have l2 := lenT_mk (show (txtR a ++ txtR b).length ≤ 1000000 by rw [List.length_append]; omega)
  have l3 := lenT_mk (show (txtR c ++ txtR a).length ≤ 1000000 by rw [List.length_append]; omega)
  have l4 := lenT_mk (show (txtR c ++ txtR b).length ≤ 1000000 by rw [List.length_append]; omega)
  have l5 := lenT_mk (show (txtR b).length ≤ 1000000 by omega)
  have r1 : runeL (txtR a ++ txtR b) = runeL (txtR a) ++ runeL (txtR b) := by rw [runeL_txt, runeL_txt', runeL_txt']
  have r2 : runeL (txtR c ++ txtR a) = runeL (txtR c) ++ runeL (txtR a) := by rw [runeL_txt, runeL_txt', runeL_txt']
  have r3 : runeL (txtR c ++ txtR b) = runeL (txtR c) ++ runeL (txtR b) := by rw [runeL_txt, runeL_txt', runeL_txt']
  have rb : runeL (txtR b) = [] ↔ b.length = 0 := by rw [runeL_txt']; simp
  refine brV_by (fun h => ?_) (fun h => ?_)
  · have h : b.length = 0 := by simpa using h
    refine gb_by (dt (by omega)) ?_
    intro u hu
    refine gb_by (and_tt l1 l2) (brT ?_ (gb_by (dt (by omega)) (gb_by (dt (by omega)) ?_)))
    · rw [hu, r1, cmpR_more, if_pos (rb.2 h)]; rfl
    · intro v hv
      refine gb_by (and_tt l3 l4) ?_
      intro w hw
      refine gb_by (and_tt l1 l5) (ft ?_)
      rw [hv, hw, r2, r3, cmpR_head]; simp
  · have h : ¬ b.length = 0 := by simpa using h
    refine gb_by (dt (by omega)) ?_
    intro u hu
    refine gb_by (and_tt l1 l2) (brT ?_ (gb_by (dt (by omega)) (gb_by (dt (by omega)) ?_)))
    · rw [hu, r1, cmpR_more, if_neg (fun h9 => h (rb.1 h9))]; rfl
    · intro v hv
      refine gb_by (and_tt l3 l4) ?_
      intro w hw
      refine gb_by (and_tt l1 l5) (ft ?_)
      rw [hv, hw, r2, r3, cmpR_head]; simp
theorem elemAt_strv (l : List Txt) (i : Nat) (h : i < l.length) : elemAt (strv l) (i : Int) = [.str l[i]] := elemAt_map AVal.str l i h
theorem names_law (xs : List AVal) (h : FitsL [.slice .str 1 16] xs) : ACall Tryd.prog 3 xs Sto.empty fun r _ => r = .bool true := by
  obtain ⟨_, _, rfl, h1, rfl⟩ := h
  obtain ⟨l, rfl, _⟩ := fits_strv h1
  refine namesL_i l _ (.of [awakeE, rightE, rightRE] rfl ⟨awake_ok, right_ok, rightR_ok, trivial⟩) ?_
  simp only [hold_eq]
  have hn : (strv l).length = l.length := strv_length l
  refine brF rfl (brV_by (fun _ => by trivial) (fun h => ?_))
  have hl : l.length ≤ 50 := by have := of_decide_eq_false h; omega
  refine loopV_intro (α := Nat) (fun i => namesLL_S l ((l.take i).all nameT) i) (fun i => i ≤ l.length ∧ ∀ s ∈ l.take i, s.length ≤ 1000) (fun i => l.length - i) ?_ 0 ⟨Nat.zero_le _, fun s hs => by cases hs⟩
  rintro i ⟨hi, hpre⟩ L hL
  refine Eq.mpr (namesLL_r l ((l.take i).all nameT) i L _) ?_
  simp only [hold_eq]
  refine brV_by (fun h => ?_) (fun h => ?_)
  · have hlt : i < l.length := by have := of_decide_eq_true h; omega
    have htk : l.take (i + 1) = l.take i ++ [l[i]] := by rw [List.take_add_one, List.getElem?_eq_getElem hlt]; rfl
    rw [elemAt_strv l i hlt]
    have e : AVal.strOf (List.getD [AVal.str l[i]] 0 .undef) = l[i] := rfl
    rw [e]
    refine gb_by (dt (by omega)) (gb_by rfl (brV_by (fun _ => by trivial) (fun h1 => ?_)))
    have hm : l[i].length ≤ 1000 := by have := of_decide_eq_false h1; omega
    have lt := lenT_mk (show l[i].length ≤ 1000000 by omega)
    refine gb_by (dt (by omega)) (gb_by rfl (gb_by lt (gb_by (dt (by omega)) (gb_by rfl (gb_by ?_ ?_)))))
    · refine and_tt rfl (and_tt (lenOk_mk (by omega)) ?_)
      simp only [List.all_cons, List.all_nil, Bool.and_true]
      exact lt
    have nxt : L (namesLL_S l ((l.take (i + 1)).all nameT) (i + 1)) := hL (i + 1) ⟨hlt, fun s hs => by
      rw [htk] at hs
      rcases List.mem_append.1 hs with h5 | h5
      · exact hpre s h5
      · rw [List.mem_singleton.1 h5]; exact hm⟩ (by omega)
    rw [htk, List.all_append] at nxt
    simp only [List.all_cons, List.all_nil, Bool.and_true] at nxt ⊢
    refine brV_by (fun h2 => by simp at h2) (fun _ => ?_)
    refine brV_by (fun h3 => ?_) (fun h3 => ?_)
    · refine toCut (Eq.mpr (namesLI_r l _ i _) ?_)
      rw [i64_succ hlt (by omega)]
      rw [h3, Bool.true_and] at nxt
      exact nxt
    · refine toCut (Eq.mpr (namesLI_r l _ i _) ?_)
      rw [i64_succ hlt (by omega)]
      rw [h3, Bool.false_and] at nxt
      exact nxt
  · have hi' : i = l.length := by have := of_decide_eq_false h; omega
    subst hi'
    rw [List.take_length] at *
    refine leaveTo (toCut (Eq.mpr (namesLF_r l _ _) ?_))
    simp only [hold_eq, map_strOf_strv]
    refine gb_by (and_tt (strv_is _) (and_tt (lenOk_mk (by omega)) (strs_mk (fun s hs => by have := hpre s hs; omega)))) (ft (by simp))
end Go.Proofs.YtkigoikknoplhaaDoor
