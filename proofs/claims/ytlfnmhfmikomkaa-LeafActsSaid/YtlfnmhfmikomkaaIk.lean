/-
  Seat 11 (leaf): the law LeafActs over abstract values.
-/
import Derived.Test.YtlfnmhfmikomkaaIf
import Derived.Test.YtlfnmhfmikomkaaIr
import Derived.Test.YtlfnmhfmikomkaaGa
set_option linter.unusedVariables false
set_option linter.unusedSimpArgs false
set_option maxRecDepth 20000
set_option maxHeartbeats 2000000
namespace Go.Proofs.Ytlfnmhfmikomkaa
open Go.AL

theorem own_push (σ : Sto) (n : Nat) : (σ.pushOwn n).own σ.nown = some n := by simp [Sto.pushOwn]
theorem own_set (σ : Sto) (p n : Nat) : (σ.setOwn p n).own p = some n := by simp [Sto.setOwn]
theorem lfv_one (o : List Lf) (x : Lf) : lfv o ++ [lfV x] = lfv (o ++ [x]) := by simp [lfv]
theorem filtl_take (es : List Lf) (k : Nat) (hk : k < es.length) : (es.take (k + 1)).filter (fun l => !l.2.2) = (es.take k).filter (fun l => !l.2.2) ++ (if es[k].2.2 then [] else [es[k]]) := by
  rw [List.take_add_one, List.getElem?_eq_getElem hk, List.filter_append]
  congr 1
  cases h : es[k].2.2 <;> simp [h]
theorem flatl_take (ls : List Lf) (k : Nat) (hk : k < ls.length) : (ls.take (k + 1)).flatMap (fun l => l.2.1) = (ls.take k).flatMap (fun l => l.2.1) ++ ls[k].2.1 := by
  rw [List.take_add_one, List.getElem?_eq_getElem hk, List.flatMap_append]
  simp
theorem flatl_len : ∀ (ls : List Lf), (∀ l ∈ ls, l.2.1.length ≤ 4) → (ls.flatMap (fun l => l.2.1)).length ≤ 4 * ls.length
  | [], _ => Nat.zero_le _
  | l :: ls, h => by
    have ih := flatl_len ls fun x hx => h x (List.mem_cons_of_mem _ hx)
    have := h l (List.mem_cons_self ..)
    rw [List.flatMap_cons, List.length_append, List.length_cons]
    omega
theorem ent4 {r : Root} {ls : List Lf} {al : List Txt} {f : Int → Lf} (h : ActI r ls al f) : ∀ l ∈ ls, l.2.1.length ≤ 4 := by
  intro l hl
  rw [h.lst] at hl
  obtain ⟨n, hn, rfl⟩ := List.mem_map.1 hl
  exact h.idx.len4 hn
theorem rise4 {r : Root} {ls : List Lf} {al : List Txt} {f : Int → Lf} (h : ActI r ls al f) : riseL al = true := by rw [h.all]; exact h.idx.rise

/-! ### A text turned -/
/-- What has been gathered, i texts into the list. -/
def tuO (l : List Txt) (s : Txt) (i : Nat) : List Txt := if posN l s < i then (l.take (posN l s) ++ (if l.contains s then [] else [s])) ++ (l.drop (posN l s + (if l.contains s then 1 else 0))).take (i - (posN l s + (if l.contains s then 1 else 0))) else l.take i
theorem tuO_len {l : List Txt} {s : Txt} {i : Nat} : (tuO l s i).length ≤ l.length + 1 := by
  unfold tuO
  split
  · rw [List.length_append, List.length_append, List.length_take, List.length_take, List.length_drop]
    have := posN_le l s
    split <;> simp <;> omega
  · rw [List.length_take]; omega
theorem tuO_lt {l : List Txt} {s : Txt} {i : Nat} (hi : i < l.length) (h : i < posN l s) : tuO l s (i + 1) = tuO l s i ++ [l[i]] := by
  unfold tuO
  rw [if_neg (by omega), if_neg (by omega), List.take_add_one, List.getElem?_eq_getElem hi]; rfl
theorem tuO_eq {l : List Txt} {s : Txt} (hr : riseL l = true) (hi : posN l s < l.length) (h : l[posN l s] = s) : tuO l s (posN l s + 1) = tuO l s (posN l s) := by
  have hc : l.contains s = true := by rw [← h]; simp
  unfold tuO
  rw [if_pos (show posN l s < posN l s + 1 by omega), if_neg (show ¬ posN l s < posN l s by omega), hc]
  simp
theorem tuO_gt {l : List Txt} {s : Txt} (hr : riseL l = true) (hi : posN l s < l.length) (h : l[posN l s] ≠ s) : tuO l s (posN l s + 1) = tuO l s (posN l s) ++ [s] ++ [l[posN l s]] := by
  have hc : l.contains s = false := by
    have := contains_pos hr s
    rw [List.getD_eq_getElem?_getD, List.getElem?_eq_getElem hi] at this
    rw [this]
    have h2 : ((some l[posN l s]).getD [] == s) = false := by
      show (l[posN l s] == s) = false
      simpa using h
    rw [h2, Bool.and_false]
  unfold tuO
  rw [if_pos (show posN l s < posN l s + 1 by omega), if_neg (show ¬ posN l s < posN l s by omega), hc]
  have e : posN l s + 1 - (posN l s + if (false : Bool) = true then 1 else 0) = 1 := by simp
  rw [e]
  have e2 : (l.drop (posN l s + if (false : Bool) = true then 1 else 0)).take 1 = [l[posN l s]] := by
    have : posN l s + (if (false : Bool) = true then 1 else 0) = posN l s := by simp
    rw [this, List.drop_eq_getElem_cons hi]; rfl
  rw [e2]
  simp
theorem tuO_ge {l : List Txt} {s : Txt} {i : Nat} (hi : i < l.length) (h : posN l s < i) : tuO l s (i + 1) = tuO l s i ++ [l[i]] := by
  have hle : posN l s + (if l.contains s = true then 1 else 0) ≤ i := by split <;> omega
  unfold tuO
  rw [if_pos (by omega), if_pos h]
  generalize hq : posN l s + (if l.contains s = true then 1 else 0) = q at hle ⊢
  have e : i + 1 - q = (i - q) + 1 := by omega
  rw [e, List.take_add_one, List.getElem?_drop, show q + (i - q) = i by omega, List.getElem?_eq_getElem hi]
  simp
theorem tuO_end {l : List Txt} {s : Txt} (hr : riseL l = true) : turnT l s = tuO l s l.length ++ (if posN l s < l.length then [] else [s]) := by
  have hp := posN_le l s
  unfold turnT tuO
  have et : ∀ q, (l.drop q).take (l.length - q) = l.drop q := fun q => List.take_of_length_le (by rw [List.length_drop]; exact Nat.le_refl _)
  by_cases h : posN l s < l.length
  · rw [if_pos h, if_pos h]
    cases hc : l.contains s with
    | true =>
      simp only [if_true]
      unfold delL
      rw [et]
      simp
    | false =>
      simp only [Bool.false_eq_true, if_false]
      unfold insL
      rw [et]
      simp
  · have hc : l.contains s = false := by rw [contains_pos hr s]; simp [h]
    rw [if_neg h, if_neg h, hc]
    have e : posN l s = l.length := by omega
    simp [insL, e]
theorem turned_c (l : List Txt) (s : Txt) (h1 : l.length ≤ 1000000) (hr : riseL l = true) (hsh : shortL l = true) (hs : s.length ≤ 1000000) : ACall Try.prog 27 [.slice (strv l) 1 .ro, .str s] Sto.empty fun v _ => Wk v (.slice (strv (turnT l s)) 1 .ro) := by
  refine turned_i l s _ (.of [ordE] rfl ⟨ord_ok, trivial⟩) ?_
  have hlv : (strv l).length = l.length := strv_length l
  have hp := posN_le l s
  have s0 : tuO l s 0 = [] := by unfold tuO; rw [if_neg (by omega)]; rfl
  show loopV _ _ _ (turnedL_S l s [] false 0)
  have d0 : turnedL_S l s [] false 0 = turnedL_S l s (tuO l s 0) (decide (posN l s < 0)) 0 := by rw [s0]; simp
  rw [d0]
  refine loopV_intro (α := Nat) (fun i => turnedL_S l s (tuO l s i) (decide (posN l s < i)) i) (fun i => i ≤ l.length) (fun i => l.length - i) ?_ 0 (Nat.zero_le _)
  rintro i hi L hL
  refine Eq.mpr (turnedL_r l s (tuO l s i) (decide (posN l s < i)) i L _) ?_
  have hol := tuO_len (l := l) (s := s) (i := i)
  have hov : (strv (tuO l s i)).length = (tuO l s i).length := strv_length _
  simp only [hold_eq]
  refine brV_by (fun hc => ?_) (fun hc => ?_)
  · have hlt : i < l.length := by have := of_decide_eq_true hc; omega
    have hpl := posN_lt hr s i hlt
    rw [elemAt_strv l i hlt]
    have hsi : l[i].length ≤ 1000000 := short_get hsh hlt
    have e1 : AVal.strOf (List.getD [AVal.str l[i]] 0 .undef) = l[i] := rfl
    refine gb_by (dt (by omega)) (gb_by rfl ?_)
    rw [e1]
    refine gb_by (dt hsi) ?_
    have nxt : ∀ (o : List Txt) (d : Bool) (c : Int) (st : St), o = tuO l s (i + 1) → d = decide (posN l s < i + 1) → St.norm [(5, 1)] [0, 1, 5, 6, 7] [] st = turnedI_S l s o d i → ∀ K : Exit → St → Prop,
        blockK 1 (thenK (fun s => cutV (vc Try.prog cTurned turnedI_C (thenK (fun s => L (St.norm [(5, 1)] [0, 1, 5, 6, 7] [] s)) K)) (St.norm [(5, 1)] [0, 1, 5, 6, 7] [] s)) (thenK (fun s => L (St.norm [(5, 1)] [0, 1, 5, 6, 7] [] s)) K)) .normal st := by
      intro o d c st ho hd hst K
      refine inBlock (toCut ?_)
      rw [hst]
      refine Eq.mpr (turnedI_r l s o d i _) ?_
      rw [i64_succ hlt (by omega), ho, hd]
      exact hL (i + 1) hlt (by omega)
    -- what is left of the step: the entry itself
    have rest : ∀ (o : List Txt) (d : Bool), o.length ≤ l.length + 1 → (ordT l[i] s = 0 → tuO l s (i + 1) = o) → (ordT l[i] s ≠ 0 → tuO l s (i + 1) = o ++ [l[i]]) → d = decide (posN l s < i + 1) → ∀ K : Exit → St → Prop,
        vc Try.prog cTurned turnedA_C (blockK 1 (thenK (fun s => cutV (vc Try.prog cTurned turnedI_C (thenK (fun s => L (St.norm [(5, 1)] [0, 1, 5, 6, 7] [] s)) K)) (St.norm [(5, 1)] [0, 1, 5, 6, 7] [] s)) (thenK (fun s => L (St.norm [(5, 1)] [0, 1, 5, 6, 7] [] s)) K))) (turnedA_S l s o d i (ordT l[i] s)) := by
      intro o d ho h0 h1 hd K
      refine Eq.mpr (turnedA_r l s o d i (ordT l[i] s) _) ?_
      have hov : (strv o).length = o.length := strv_length o
      simp only [hold_eq]
      refine brV_by (fun hz => ?_) (fun hz => ?_)
      · have hz : ordT l[i] s ≠ 0 := by simpa using hz
        rw [elemAt_strv l i hlt]
        refine gb_by (dt (by omega)) (gb_by rfl (gb_by (dt (by first | omega | (simp only [true_and, and_true, decide_eq_true_eq, Option.some.injEq, strv_length, iv_length, List.length_take, List.length_drop, List.length_append, List.length_cons, List.length_nil, Int.le_refl] <;> omega))) ?_))
        rw [setOwn_e1]
        have e2 : strv o ++ [.str l[i]] = strv (o ++ [l[i]]) := strv_one _ _
        have e3 : (strv o).length + 1 = (strv (o ++ [l[i]])).length := by rw [← e2, List.length_append]; rfl
        refine nxt (o ++ [l[i]]) d (ordT l[i] s) _ (h1 hz).symm hd ?_ K
        show St.norm [(5, 1)] [0, 1, 5, 6, 7] [] (St.mk 49 [(0, .slice (strv l) 1 .ro), (1, .str s), (5, .slice (strv o ++ [.str l[i]]) 1 (.own 0)), (6, .bool d), (7, .int .i64 (i : Int)), (8, .int .i64 (ordT l[i] s)), (34, .bool (ordT l[i] s != 0))] [] [] (Sto.pushOwn Sto.empty ((strv o).length + 1))) = _
        rw [e2, e3]
        rfl
      · have hz : ordT l[i] s = 0 := by simpa using hz
        exact nxt o d (ordT l[i] s) _ (h0 hz).symm hd rfl K
    refine brV_by (fun hge => ?_) (fun hge => ?_)
    · have hge : ¬ i < posN l s := fun hh => by
        have h2 : 0 ≤ ordT l[i] s := of_decide_eq_true hge
        have := ordT_ge'.1 h2
        rw [hpl.2 hh] at this; cases this
      refine brV_by (fun hd => ?_) (fun hd => ?_)
      · have hd : ¬ posN l s < i := by
          have hd : (!decide (posN l s < i)) = true := hd
          simpa using hd
        have hi' : i = posN l s := by omega
        subst hi'
        refine brV_by (fun hg => ?_) (fun hg => ?_)
        · have hg : 0 < ordT l[posN l s] s := of_decide_eq_true hg
          have hne : l[posN l s] ≠ s := fun e => by rw [(ordT_eq _ _).2 e] at hg; omega
          refine gb_by (dt (by first | omega | (simp only [true_and, and_true, decide_eq_true_eq, Option.some.injEq, strv_length, iv_length, List.length_take, List.length_drop, List.length_append, List.length_cons, List.length_nil, Int.le_refl] <;> omega))) (toCut ?_)
          rw [setOwn_e1]
          have e2 : strv (tuO l s (posN l s)) ++ [.str s] = strv (tuO l s (posN l s) ++ [s]) := strv_one _ _
          have e3 : (strv (tuO l s (posN l s))).length + 1 = (strv (tuO l s (posN l s) ++ [s])).length := by rw [← e2, List.length_append]; rfl
          rw [e2, e3]
          have hlen : (tuO l s (posN l s)).length ≤ l.length := by unfold tuO; rw [if_neg (Nat.lt_irrefl _), List.length_take]; omega
          exact rest (tuO l s (posN l s) ++ [s]) true (by rw [List.length_append]; simpa using hlen) (fun h => by omega) (fun _ => tuO_gt hr hlt hne) (by simp) _
        · have hg : ¬ 0 < ordT l[posN l s] s := of_decide_eq_false hg
          have h2 : tlt l[posN l s] s = false := by
            cases hx : tlt l[posN l s] s with
            | false => rfl
            | true => exact absurd (hpl.1 hx) (Nat.lt_irrefl _)
          have h0 : ordT l[posN l s] s = 0 := by have := ordT_ge'.2 h2; omega
          exact toCut (rest (tuO l s (posN l s)) true hol (fun _ => tuO_eq hr hlt ((ordT_eq _ _).1 h0)) (fun h => (h h0).elim) (by simp) _)
      · have hd : posN l s < i := by
          have hd : (!decide (posN l s < i)) = false := hd
          simpa using hd
        have hlt2 : tlt l[posN l s] l[i] = true := riseL_get hr hd hlt
        have h0 : ordT l[i] s ≠ 0 := fun e => by
          have e := (ordT_eq _ _).1 e
          rw [e] at hlt2
          exact absurd ((posN_lt hr s _ (by omega)).1 hlt2) (Nat.lt_irrefl _)
        exact toCut (rest (tuO l s i) (decide (posN l s < i)) hol (fun h => (h0 h).elim) (fun _ => tuO_ge hlt hd) (by rw [decide_eq_true hd, decide_eq_true (show posN l s < i + 1 by omega)]) _)
    · have hge : i < posN l s := by
        have h2 : ¬ 0 ≤ ordT l[i] s := of_decide_eq_false hge
        refine hpl.1 ?_
        cases hx : tlt l[i] s with
        | true => rfl
        | false => exact (h2 (ordT_ge'.2 hx)).elim
      have h0 : ordT l[i] s ≠ 0 := fun e => by
        have e := (ordT_eq _ _).1 e
        have := hpl.2 hge
        rw [e, tlt_irrefl] at this; cases this
      exact toCut (rest (tuO l s i) (decide (posN l s < i)) hol (fun h => (h0 h).elim) (fun _ => tuO_lt hlt hge) (by rw [decide_eq_false (show ¬ posN l s < i by omega), decide_eq_false (show ¬ posN l s < i + 1 by omega)]) _)
  · have hi' : i = l.length := by have := of_decide_eq_false hc; omega
    subst hi'
    refine leaveTo (toCut (Eq.mpr (turnedF_r s _ _ _) ?_))
    have hend := tuO_end (s := s) hr
    refine brV_by (fun hd => ?_) (fun hd => ?_)
    · have hd : ¬ posN l s < l.length := by
        have hd : (!decide (posN l s < l.length)) = true := hd
        simpa using hd
      rw [if_neg hd] at hend
      have hlen : (tuO l s l.length).length ≤ l.length := by unfold tuO; rw [if_neg hd, List.length_take]; omega
      refine gb_by (dt (by first | omega | (simp only [true_and, and_true, decide_eq_true_eq, Option.some.injEq, strv_length, iv_length, List.length_take, List.length_drop, List.length_append, List.length_cons, List.length_nil, Int.le_refl] <;> omega))) ?_
      rw [hend, ← strv_one]
      exact Wk.ro _ _ _
    · have hd : posN l s < l.length := by
        have hd : (!decide (posN l s < l.length)) = false := hd
        simpa using hd
      rw [if_pos hd, List.append_nil] at hend
      rw [hend]
      exact Wk.ro _ _ _
theorem turned_ok : EntOk Try.prog turnedE := by
  intro xs σ; simp only [turnedE]; split
  · rename_i es s t x
    intro hc
    simp only [Bool.and_eq_true, hold_eq, decide_eq_true_eq] at hc
    obtain ⟨hn, hi, hl, hr, hsh, hs⟩ := hc
    have hl : (es.map AVal.strOf).length ≤ 1000000 := by simpa using hl
    exact pcall_of (.cons (wk_strv t hn hi) (.refl _)) (turned_c _ _ hl hr hsh hs) (by simp only [noOutL, AVal.noOut, strv_noOut, Bool.and_true]) (by simp only [noTokL, AVal.noTok, strv_noTok, Bool.and_true, Tag.below]) (by simp only [AVal.noOut, strv_noOut]) (by simp only [AVal.noTok, strv_noTok, Tag.below, Bool.and_true])
  · trivial
section
variable (es : List Txt) (i : Nat) (s : Txt)
/-- Is all right, behind a turn? -/
theorem actsE_go (r : Root) (ls : List Lf) (al got : List Txt) (p : Nat) (σ : Sto) {f : Int → Lf} (h : ActI r ls al f) (hr : r.2.length ≤ 1000) (hal : al.length ≤ 1000) (hg : got = al) (K : Exit → St → Prop)
    (hK : ∀ st, St.norm [(5, 1003), (6, 1001), (17, 1)] [0, 3, 5, 6, 7] [3] st = actsI_S es r ls al i σ → K .normal st) : vc Try.prog cActs actsE_C K (actsE_S es r ls al i got p σ) := by
  subst hg
  refine Eq.mpr (actsE_r es r ls got i got p σ K) ?_
  have h1 := (rootB_iff.1 h.idx.root).1
  have hl := h.len
  have hlv : (lfv ls).length = ls.length := lfv_length ls
  have hgv : (strv got).length = got.length := strv_length got
  have hall : List.all (lfv ls) lfG = true := by
    rw [List.all_eq_true]
    intro x hx
    obtain ⟨l, hm, rfl⟩ := List.mem_map.1 hx
    exact lfG_mk (by have := (ent4 h) l hm; omega)
  have hri : rightB (r.1, r.2) ls = true := h.right
  simp only [hold_eq, map_strOf_strv, map_intOf_iv, map_lfOf]
  refine gb_by (and_tt (rootG_mk (by omega) (by omega)) (and_tt (lfv_is _) (and_tt (lenOk_mk (by omega)) hall))) ?_
  rw [hri]
  refine brV_by' (fun _ => ?_) (fun h => by have h : false = true := h; cases h)
  refine gb_by (and_tt (strv_is _) (and_tt (strv_is _) (lenOk_mk (by omega)))) ?_
  rw [beq_self_eq_true]
  exact brV_by (fun h => by have h : false = true := h; cases h) (fun _ => hK _ rfl)
/-- All entries are gathered. -/
theorem actsD_go (r : Root) (ls : List Lf) (al : List Txt) (σ : Sto) {f : Int → Lf} (hy : ActI r ls (turnT al s) f) (hri : riseL al = true) (hsh : ∀ x ∈ al, x.length ≤ 50) (hr : r.2.length ≤ 500) (hal : al.length ≤ 500) (hs : s.length ≤ 50) (K : Exit → St → Prop)
    (hK : ∀ σ' st, St.norm [(5, 1003), (6, 1001), (17, 1)] [0, 3, 5, 6, 7] [3] st = actsI_S es r ls (turnT al s) i σ' → K .normal st) : vc Try.prog cActs actsD_C K (actsD_S es r ls al i s σ) := by
  refine Eq.mpr (actsD_r es r ls al i s σ K) ?_
  intro y hy0
  have hy0 : y = turnT al s := by rw [hy0, map_strOf_strv]
  have hav : (strv al).length = al.length := strv_length al
  have hshl : shortL al = true := by
    simp only [shortL, List.all_eq_true, decide_eq_true_eq]
    intro x hx
    have := hsh x hx
    omega
  simp only [hold_eq, map_strOf_strv]
  refine gb_by (and_tt (strv_is _) (and_tt (dt (by omega)) (and_tt hri (and_tt hshl (dt (by omega)))))) ?_
  rw [hy0]
  have hlen := len_turn hri s
  generalize turnT al s = t at hy hK hlen
  show loopV _ _ _ (actsO_S es r ls t i [] 0 σ.nown (σ.pushOwn 0))
  refine loopV_intro (α := Nat × Sto) (fun x => actsO_S es r ls t i ((ls.take x.1).flatMap (fun l => l.2.1)) x.1 σ.nown x.2) (fun x => x.1 ≤ ls.length ∧ x.2.own σ.nown = some ((ls.take x.1).flatMap (fun l => l.2.1)).length) (fun x => ls.length - x.1) ?_ (0, σ.pushOwn 0) ⟨Nat.zero_le _, own_push σ 0⟩
  rintro ⟨k, τ⟩ ⟨hk, hτ⟩ L hL
  have hk : k ≤ ls.length := hk
  have hτ : τ.own σ.nown = some ((ls.take k).flatMap (fun l => l.2.1)).length := hτ
  have q := actsO_r es r ls t i ((ls.take k).flatMap (fun l => l.2.1)) k σ.nown τ L
  show vc Try.prog cActs _ _ (actsO_S es r ls t i ((ls.take k).flatMap (fun l => l.2.1)) k σ.nown τ)
  refine Eq.mpr (q _) ?_
  clear q
  have hlv : (lfv ls).length = ls.length := lfv_length ls
  have hll := hy.len
  have h4 := (ent4 hy)
  simp only [hold_eq]
  refine brV_by (fun hc => ?_) (fun hc => ?_)
  · have hlt : k < ls.length := by have := of_decide_eq_true hc; omega
    have hnx := flatl_take ls k hlt
    have hfl := flatl_len (ls.take k) fun l hl => h4 l (List.mem_of_mem_take hl)
    have htk : (ls.take k).length ≤ ls.length := by simp; omega
    have h4k := h4 _ (List.getElem_mem hlt)
    rw [elemAt_lfv ls k hlt, i64_succ hlt (by omega)]
    have hgv : (strv ((ls.take k).flatMap (fun l => l.2.1))).length = ((ls.take k).flatMap (fun l => l.2.1)).length := strv_length _
    have hev : (strv ls[k].2.1).length = ls[k].2.1.length := strv_length _
    have e1 : AVal.elems (List.getD (List.drop 1 (lfC ls[k])) 0 .undef) = strv ls[k].2.1 := rfl
    refine gb_by (dt (by omega)) (gb_by rfl ?_)
    rw [e1, hgv, hev]
    refine gb_by (dt ⟨dt ⟨trivial, hτ, by omega, by omega⟩, trivial⟩) ?_
    have := hL (k + 1, τ.setOwn σ.nown (((ls.take k).flatMap (fun l => l.2.1)).length + ls[k].2.1.length)) ⟨hlt, by
      show (τ.setOwn σ.nown _).own σ.nown = some ((ls.take (k + 1)).flatMap (fun l => l.2.1)).length
      rw [own_set, hnx, List.length_append]⟩ (by show ls.length - (k + 1) < ls.length - k; omega)
    unfold actsO_S at this
    simp only [] at this
    rw [hnx, strv_append] at this
    exact this
  · have hk' : k = ls.length := by have := of_decide_eq_false hc; omega
    refine leaveTo (toCut ?_)
    refine actsE_go es i r ls t _ σ.nown τ hy (by omega) (by omega) ?_ K (hK τ)
    rw [hk', List.take_length]
    exact hy.got
/-- The changed leaves come into the leaf's place. -/
theorem actsB_go (r q : Root) (ls ch : List Lf) (al : List Txt) (at' : Nat) (no : Int) (σ : Sto) {f' : Int → Lf} (ha : at' < ls.length) (hy : ActI q (newL ls ch at') (turnT al s) f') (hch : ch ≠ []) (hch2 : ch.length ≤ 2) (hno : (ch.getD 0 (0, [], false)).1 = no)
    (hl : ls.length ≤ 400) (hri : riseL al = true) (hsh : ∀ x ∈ al, x.length ≤ 50) (hr : q.2.length ≤ 500) (hal : al.length ≤ 500) (hs : s.length ≤ 50) (K : Exit → St → Prop)
    (hK : ∀ σ' st, St.norm [(5, 1003), (6, 1001), (17, 1)] [0, 3, 5, 6, 7] [3] st = actsI_S es q (newL ls ch at') (turnT al s) i σ' → K .normal st) : vc Try.prog cActs actsB_C K (actsB_S es r ls al i s at' no q ch 0 σ) := by
  refine Eq.mpr (actsB_r es r ls al i s at' no q ch 0 σ K) ?_
  have hlv : (lfv ls).length = ls.length := lfv_length ls
  have hcv : (lfv ch).length = ch.length := lfv_length ch
  have hc1 : 0 < ch.length := List.length_pos_iff.2 hch
  have hno : ch[0].1 = no := by rw [← hno, List.getD_eq_getElem?_getD, List.getElem?_eq_getElem hc1]; rfl
  have e0 : elemAt (lfv ch) 0 = lfC ch[0] := elemAt_lfv ch 0 hc1
  simp only [hold_eq]
  refine brV_by' (fun _ => ?_) (fun h => by have h : false = true := h; cases h)
  refine brV_by' (fun _ => ?_) (fun h => by have := of_decide_eq_true h; omega)
  refine brV_by' (fun _ => ?_) (fun h => by have := of_decide_eq_true h; omega)
  rw [e0]
  refine gb_by (dt (by omega)) (gb_by rfl ?_)
  have e1 : AVal.intOf (List.getD (List.drop 0 (lfC ch[0])) 0 .undef) = ch[0].1 := rfl
  rw [e1, hno, bne_self_eq_false]
  refine brV_by (fun h => by cases h) (fun _ => ?_)
  have e2 : List.take (Int.toNat (at' : Int) - 0) (List.drop 0 (lfv ls)) = lfv (ls.take at') := by simp [lfv, List.map_take]
  rw [e2]
  have htl : (lfv (ls.take at')).length = at' := by rw [lfv_length, List.length_take]; omega
  refine gb_by (dt (by omega)) (gb_by (dt ⟨dt ⟨trivial, by omega, by omega⟩, trivial⟩) ?_)
  have en : ∀ k, ls.take at' ++ (ch.take k).filter (fun l => !l.2.2) = ls.take at' ++ (ch.take k).filter (fun l => !l.2.2) := fun _ => rfl
  have s0 : (ls.take at' ++ (ch.take 0).filter (fun l => !l.2.2)) = ls.take at' := by simp
  have hgo : ∀ x : Nat × Sto, (x.1 ≤ ch.length ∧ x.2.own σ.nown = some (ls.take at' ++ (ch.take x.1).filter (fun l => !l.2.2)).length) →
      loopV (fun s => St.norm [(5, 1003), (6, 1001), (17, 1)] [0, 3, 5, 6, 7, 8, 9, 12, 13, 15, 16] [3, 12] s) (vc Try.prog cActs actsN_C) (blockK 4 (thenK (fun s => cutV (vc Try.prog cActs actsC_C K) (St.norm [(5, 1003), (6, 1001), (17, 1)] [0, 3, 5, 6, 7, 8, 9, 12, 15] [3, 12] s)) K)) (actsN_S es r ls al i s at' q ch (ls.take at' ++ (ch.take x.1).filter (fun l => !l.2.2)) x.1 σ.nown x.2) := by
    refine fun x hx => loopV_intro (α := Nat × Sto) (fun x => actsN_S es r ls al i s at' q ch (ls.take at' ++ (ch.take x.1).filter (fun l => !l.2.2)) x.1 σ.nown x.2) (fun x => x.1 ≤ ch.length ∧ x.2.own σ.nown = some (ls.take at' ++ (ch.take x.1).filter (fun l => !l.2.2)).length) (fun x => ch.length - x.1) ?_ x hx
    clear hx x
    rintro ⟨k, τ⟩ ⟨hk, hτ⟩ L hL
    have hk : k ≤ ch.length := hk
    have hτ : τ.own σ.nown = some (ls.take at' ++ (ch.take k).filter (fun l => !l.2.2)).length := hτ
    have hkl : (ls.take at' ++ (ch.take k).filter (fun l => !l.2.2)).length ≤ 402 := by
      have := List.length_filter_le (fun l : Lf => !l.2.2) (ch.take k)
      rw [List.length_append, List.length_take]
      rw [List.length_take] at this
      omega
    refine Eq.mpr (actsN_r es r ls al i s at' q ch (ls.take at' ++ (ch.take k).filter (fun l => !l.2.2)) k σ.nown τ L _) ?_
    have hnv : (lfv (ls.take at' ++ (ch.take k).filter (fun l => !l.2.2))).length = (ls.take at' ++ (ch.take k).filter (fun l => !l.2.2)).length := lfv_length _
    simp only [hold_eq]
    refine brV_by (fun hc => ?_) (fun hc => ?_)
    · have hlt : k < ch.length := by have := of_decide_eq_true hc; omega
      have hnx := filtl_take ch k hlt
      rw [elemAt_lfv ch k hlt, i64_succ hlt (by omega)]
      refine gb_by (dt (by omega)) (gb_by rfl (brV_by (fun hg => ?_) (fun hg => ?_)))
      · have hg : ch[k].2.2 = false := by
          have hg : (!ch[k].2.2) = true := hg
          simpa using hg
        rw [hg, if_neg (by simp)] at hnx
        refine gb_by (dt (by omega)) (gb_by rfl ?_)
        rw [hnv]
        refine gb_by (dt ⟨dt ⟨trivial, hτ, by omega, by omega⟩, trivial⟩) ?_
        have := hL (k + 1, τ.setOwn σ.nown ((ls.take at' ++ (ch.take k).filter (fun l => !l.2.2)).length + 1)) ⟨hlt, by
          show (τ.setOwn σ.nown _).own σ.nown = some (ls.take at' ++ (ch.take (k + 1)).filter (fun l => !l.2.2)).length
          rw [own_set, hnx, ← List.append_assoc, List.length_append (bs := [ch[k]])]; rfl⟩ (by show ch.length - (k + 1) < ch.length - k; omega)
        unfold actsN_S at this
        simp only [] at this
        rw [hnx, ← List.append_assoc, ← lfv_one] at this
        exact this
      · have hg : ch[k].2.2 = true := by
          have hg : (!ch[k].2.2) = false := hg
          simpa using hg
        rw [hg, if_pos rfl, List.append_nil] at hnx
        have := hL (k + 1, τ) ⟨hlt, by
          show τ.own σ.nown = some (ls.take at' ++ (ch.take (k + 1)).filter (fun l => !l.2.2)).length
          rw [hnx]; exact hτ⟩ (by show ch.length - (k + 1) < ch.length - k; omega)
        unfold actsN_S at this
        simp only [] at this
        rw [hnx] at this
        exact this
    · have hk' : k = ch.length := by have := of_decide_eq_false hc; omega
      refine leaveTo (toCut ?_)
      subst hk'
      rw [List.take_length] at hτ hkl hnv ⊢
      refine Eq.mpr (actsC_r es r ls al i s at' q _ σ.nown τ K) ?_
      have w1 : IntKind.i64.wrap ((at' : Int) + 1) = ((at' + 1 : Nat) : Int) := i64_succ ha (by omega)
      rw [w1]
      have e3 : List.take (Int.toNat ((lfv ls).length : Int) - Int.toNat ((at' + 1 : Nat) : Int)) (List.drop (Int.toNat ((at' + 1 : Nat) : Int)) (lfv ls)) = lfv (ls.drop (at' + 1)) := by
        rw [Int.toNat_natCast, Int.toNat_natCast]
        rw [List.take_of_length_le (by rw [List.length_drop]; omega)]
        simp [lfv, List.map_drop]
      rw [e3]
      have hdv : (lfv (ls.drop (at' + 1))).length = ls.length - (at' + 1) := by rw [lfv_length, List.length_drop]
      rw [hnv, hdv]
      refine gb_by (dt (by omega)) (gb_by (dt ⟨dt ⟨rfl, hτ, by omega, by omega⟩, rfl⟩) (toCut ?_))
      have e4 : lfv (ls.take at' ++ ch.filter (fun l => !l.2.2)) ++ lfv (ls.drop (at' + 1)) = lfv (newL ls ch at') := by
        simp [lfv, newL]
      rw [e4]
      exact actsD_go es i s q (newL ls ch at') al _ hy hri hsh hr hal hs K hK
  have := hgo (0, σ.pushOwn (lfv (ls.take at')).length) ⟨Nat.zero_le _, by
    show (σ.pushOwn _).own σ.nown = some _
    rw [own_push, s0, lfv_length]⟩
  simp only [s0] at this
  exact this
/-- A text is turned. -/
theorem actsA_go (r : Root) (ls : List Lf) (al : List Txt) (σ : Sto) {f : Int → Lf} (h : ActI r ls al f) (hsh : ∀ x ∈ al, x.length ≤ 50) (hr : r.2.length ≤ 300) (hal : al.length ≤ 300) (hs : s.length ≤ 50) (K : Exit → St → Prop)
    (hK : ∀ r' ls' f' σ' st, ActI r' ls' (turnT al s) f' → r'.2.length ≤ r.2.length + 1 → St.norm [(5, 1003), (6, 1001), (17, 1)] [0, 3, 5, 6, 7] [3] st = actsI_S es r' ls' (turnT al s) i σ' → K .normal st) :
    vc Try.prog cActs actsA_C K (actsA_S es r ls al i s (atN r.1 s) (findN r s) σ) := by
  refine Eq.mpr (actsA_r es r ls al i s (atN r.1 s) (findN r s) σ K) ?_
  obtain ⟨hp, hat⟩ := h.at s
  have hlv : (lfv ls).length = ls.length := lfv_length ls
  have h1 := (rootB_iff.1 h.idx.root).1
  have hlen := h.len
  have h4 := (ent4 h) _ (List.getElem_mem hp)
  obtain ⟨r', ch, f', c1, c2, c3, c4, c5, c6⟩ := h.step (s := s) (by omega)
  have fin : ∀ τ : Sto, vc Try.prog cActs actsB_C K (actsB_S es r ls al i s (atN r.1 s) (findN r s) r' ch 0 τ) := fun τ =>
    actsB_go es i s r r' ls ch al (atN r.1 s) (findN r s) τ hp c5 c1 c2 c3 (by omega) (rise4 h) hsh (by omega) (by omega) hs K fun σ' st hst => hK r' _ f' σ' st c5 c4 hst
  simp only [hold_eq]
  refine brV_by (fun h => by have := of_decide_eq_true h; omega) (fun _ => ?_)
  rw [elemAt_lfv ls _ hp]
  have hM : rootM (rootV r) = true := rootM_mk (by omega) (by omega)
  have hLM : lfM (lfV ls[atN r.1 s]) = true := lfG_mk' h4
  refine gb_by (dt (by omega)) (gb_by rfl ?_)
  intro y hy
  have hy : y = insN r (f (findN r s)) s := by
    rw [hy, map_strOf_strv, map_intOf_iv, ← hat]
    show insN (r.1, r.2) (ls[atN r.1 s].1, (strv ls[atN r.1 s].2.1).map AVal.strOf, ls[atN r.1 s].2.2) s = _
    rw [map_strOf_strv]
  refine gb_by (and_tt hM hLM) ?_
  rcases c6 with c6 | ⟨c6, c7⟩
  · rw [c6] at hy
    subst hy
    exact brV_by (fun h => by have h : false = true := h; cases h) (fun _ => toCut (fin σ))
  · rw [c6] at hy
    subst hy
    refine brV_by (fun _ => ?_) (fun h => by have h : true = false := h; cases h)
    refine gb_by (dt (by omega)) (gb_by rfl ?_)
    intro z hz
    have hz : z = remN r (f (findN r s)) s := by
      rw [hz, map_strOf_strv, map_intOf_iv, ← hat]
      show remN (r.1, r.2) (ls[atN r.1 s].1, (strv ls[atN r.1 s].2.1).map AVal.strOf, ls[atN r.1 s].2.2) s = _
      rw [map_strOf_strv]
    refine gb_by (and_tt hM hLM) ?_
    rw [c7] at hz
    subst hz
    exact toCut (fin σ)
end
/-- What holds ahead of each turn. -/
structure AC (n : Nat) (r : Root) (ls : List Lf) (al : List Txt) : Prop where
  act : ∃ f, ActI r ls al f
  few : r.2.length ≤ n + 1
  cnt : al.length ≤ n
  ent : ∀ x ∈ al, x.length ≤ 50
/-- LeafActs. -/
theorem acts_c (es : List Txt) (hes : es.length ≤ 140737488351232) : ACall Try.prog 7 [.slice (strv es) 1 .ro] Sto.empty fun v _ => v = .bool true := by
  refine acts_i es _ (.of [awakeE, emptyE, findE, insertE, removeE, rightE, textsE, turnedE] rfl ⟨awake_ok, empty_ok, find_ok, insert_ok, remove_ok, right_ok, texts_ok, turned_ok, trivial⟩) ?_
  have hev : (strv es).length = es.length := strv_length es
  simp only [hold_eq]
  refine brV_by (fun _ => trivial) (fun h0 => ?_)
  have hl : es.length ≤ 150 := by have := of_decide_eq_false h0; omega
  show loopV _ _ _ (actsL_S es ([], [1]) [(1, [], false)] [] 0 Sto.empty)
  refine loopV_intro (α := Nat × Root × List Lf × List Txt × Sto) (fun x => actsL_S es x.2.1 x.2.2.1 x.2.2.2.1 x.1 x.2.2.2.2) (fun x => x.1 ≤ es.length ∧ AC x.1 x.2.1 x.2.2.1 x.2.2.2.1) (fun x => es.length - x.1) ?_ (0, ([], [1]), [(1, [], false)], [], Sto.empty) ⟨Nat.zero_le _, ⟨⟨_, actI_empty⟩, Nat.le_refl _, Nat.le_refl _, fun x hx => by cases hx⟩⟩
  rintro ⟨i, r, ls, al, σ⟩ ⟨hi, hS⟩ L hL
  have hi : i ≤ es.length := hi
  have hS : AC i r ls al := hS
  obtain ⟨⟨f, h⟩, hfew, hcnt, hent⟩ := hS
  refine Eq.mpr (actsL_r es r ls al i σ L _) ?_
  have h1 := (rootB_iff.1 h.idx.root).1
  have hlen := h.len
  simp only [hold_eq]
  refine brV_by (fun hc => ?_) (fun hc => ?_)
  case refine_2 => exact leaveTo (toCut (Eq.mpr (actsF_r σ _) rfl))
  have hlt : i < es.length := by have := of_decide_eq_true hc; omega
  rw [elemAt_strv es i hlt]
  refine gb_by (dt (by omega)) (gb_by rfl (brV_by (fun _ => rfl) (fun h3 => ?_)))
  have hx : es[i].length ≤ 50 := by
    have h3 : ¬ (50 : Int) < (es[i].length : Int) := of_decide_eq_false h3
    omega
  intro y hy
  have hy : y = findN r es[i] := by rw [hy, map_strOf_strv, map_intOf_iv]; rfl
  refine gb_by (rootG_mk (by omega) (by omega)) ?_
  rw [hy]
  have es' : AVal.strOf (List.getD [AVal.str es[i]] 0 .undef) = es[i] := rfl
  rw [es']
  generalize hsx : es[i] = s at hx
  have hp := h.idx.at_lt s
  have a0 : (-1 : Int) = if atN r.1 s < 0 then ((atN r.1 s : Nat) : Int) else -1 := by simp
  show loopV _ _ _ (actsM_S es r ls al i s (-1) (findN r s) 0 σ)
  rw [a0]
  refine loopV_intro (α := Nat) (fun k => actsM_S es r ls al i s (if atN r.1 s < k then ((atN r.1 s : Nat) : Int) else -1) (findN r s) k σ) (fun k => k ≤ ls.length) (fun k => ls.length - k) ?_ 0 (Nat.zero_le _)
  rintro k hk L2 hL2
  refine Eq.mpr (actsM_r es r ls al i s _ (findN r s) k σ L2 _) ?_
  have hlv : (lfv ls).length = ls.length := lfv_length ls
  simp only [hold_eq]
  refine brV_by (fun hc2 => ?_) (fun hc2 => ?_)
  · have hlk : k < ls.length := by have := of_decide_eq_true hc2; omega
    have hnth := h.nth s k hlk
    rw [elemAt_lfv ls k hlk, i64_succ hlk (by omega)]
    have e1 : AVal.intOf (List.getD (List.drop 0 (lfC ls[k])) 0 .undef) = ls[k].1 := rfl
    rw [e1]
    refine gb_by (dt (by omega)) (gb_by rfl (brV_by (fun hq => ?_) (fun hq => ?_)))
    · have hq : k = atN r.1 s := hnth.1 (by simpa using hq)
      have := hL2 (k + 1) hlk (by omega)
      rw [if_pos (by omega), ← hq] at this
      exact this
    · have hq : ¬ k = atN r.1 s := fun e => by
        have := hnth.2 e
        rw [this] at hq
        simp at hq
      have := hL2 (k + 1) hlk (by omega)
      have e2 : (if atN r.1 s < k + 1 then ((atN r.1 s : Nat) : Int) else -1) = (if atN r.1 s < k then ((atN r.1 s : Nat) : Int) else -1) := by
        by_cases hh : atN r.1 s < k
        · rw [if_pos hh, if_pos (by omega)]
        · rw [if_neg hh, if_neg (by omega)]
      rw [e2] at this
      exact this
  · have hk' : k = ls.length := by have := of_decide_eq_false hc2; omega
    refine leaveTo (toCut ?_)
    rw [if_pos (by omega)]
    refine actsA_go es i s r ls al σ h hent (by omega) (by omega) hx _ fun r' ls' f' σ' st c1 c2 hst => ?_
    refine inBlock (toCut ?_)
    rw [hst]
    refine Eq.mpr (actsI_r es r' ls' _ i σ' _) ?_
    rw [i64_succ hlt (by omega)]
    have hlt2 := len_turn (rise4 h) s
    refine hL (i + 1, r', ls', turnT al s, σ') ⟨hlt, ⟨⟨f', c1⟩, by show r'.2.length ≤ i + 1 + 1; omega, by show (turnT al s).length ≤ i + 1; omega, fun x hx' => ?_⟩⟩ (by show es.length - (i + 1) < es.length - i; omega)
    have := (mem_turn (rise4 h) s x).1 hx'
    split at this
    · exact hent x this.2
    · rcases this with rfl | h'
      · exact hx
      · exact hent x h'
theorem acts_law (xs : List AVal) (h : FitsL [.slice .str 1 16] xs) :
    ACall Try.prog 7 xs Sto.empty fun v _ => v = .bool true := by
  obtain ⟨a1, t1, rfl, f1, rfl⟩ := h
  obtain ⟨l1, rfl, b1⟩ := fits_strv f1
  exact acts_c l1 (by omega)
end Go.Proofs.Ytlfnmhfmikomkaa
