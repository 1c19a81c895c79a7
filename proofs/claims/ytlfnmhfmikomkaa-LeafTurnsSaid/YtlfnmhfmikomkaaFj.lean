/-
  Seat 11 (leaf): the leaves that a span has.
-/
import Derived.Test.YtlfnmhfmikomkaaFA
import Derived.Test.YtlfnmhfmikomkaaFw
set_option linter.unusedVariables false
set_option linter.unusedSimpArgs false
set_option maxRecDepth 20000
set_option maxHeartbeats 4000000
namespace Go.Proofs.Ytlfnmhfmikomkaa
open Go.AL

theorem atN_lt {l : List Txt} (hr : riseL l = true) (s : Txt) (i : Nat) (hi : i < l.length) : tlt s l[i] = true ↔ atN l s ≤ i := by
  have hp := atN_pos hr s
  have hc := contains_pos hr s
  have h1 := posN_lt hr s i hi
  constructor
  · intro h
    have hn : ¬ tlt l[i] s = true := fun h' => by rw [tlt_asymm h] at h'; cases h'
    have h2 : ¬ i < posN l s := fun h' => hn (h1.2 h')
    rw [hp]
    split
    · rename_i hcc
      rw [hc] at hcc
      simp only [Bool.and_eq_true, decide_eq_true_eq, beq_iff_eq] at hcc
      obtain ⟨g1, g2⟩ := hcc
      rw [List.getD_eq_getElem?_getD, List.getElem?_eq_getElem g1] at g2
      have g2 : l[posN l s] = s := by simpa using g2
      rcases Nat.lt_or_ge (posN l s) i with h3 | h3
      · omega
      · have e : posN l s = i := by omega
        simp only [e] at g2
        rw [g2, tlt_irrefl] at h; cases h
    · omega
  · intro h
    rcases tlt_total s l[i] with h3 | h3 | h3
    · exact h3
    · have hm : l.contains s = true := by rw [h3]; simp
      rw [hp, hm] at h
      simp only [if_true] at h
      have hn : tlt l[i] s = false := by rw [← h3]; exact tlt_irrefl s
      rw [hm] at hc
      have hc := hc.symm
      simp only [Bool.and_eq_true, decide_eq_true_eq, beq_iff_eq] at hc
      obtain ⟨g1, g2⟩ := hc
      rw [List.getD_eq_getElem?_getD, List.getElem?_eq_getElem g1] at g2
      have g2 : l[posN l s] = s := by simpa using g2
      have := riseL_get hr (show posN l s < i by omega) hi
      rw [g2, ← h3, tlt_irrefl] at this; cases this
    · have := h1.1 h3
      rw [hp] at h
      split at h <;> omega
theorem range_le {l : List Txt} (hr : riseL l = true) {a b : Txt} (h : tlt a b = true) : atN l a ≤ posN l b := by
  rcases Nat.lt_or_ge (posN l b) (atN l a) with h1 | h1
  · have hl : posN l b < l.length := by have := atN_le l a; omega
    have h2 : ¬ tlt a l[posN l b] = true := fun h' => by have := (atN_lt hr a _ hl).1 h'; omega
    have h3 : ¬ tlt l[posN l b] b = true := fun h' => by have := (posN_lt hr b _ hl).1 h'; omega
    rcases tlt_total a l[posN l b] with h4 | h4 | h4
    · exact (h2 h4).elim
    · rw [← h4] at h3; exact (h3 h).elim
    · exact (h3 (tlt_trans h4 h)).elim
  · exact h1
theorem rangeN_noOut (n : Nat) (l : List Int) : (AVal.slice (iv l) 1 .ro).noOut n = true := by simp only [AVal.noOut, iv_noOut]
theorem rangeN_noTok (n : Nat) (l : List Int) : (AVal.slice (iv l) 1 .ro).noTok n = true := by simp only [AVal.noTok, iv_noTok, Tag.below, Bool.and_true]

theorem range_c (r : Root) (a b : Txt) (h1 : r.1.length ≤ 1000000) (h2 : r.2.length ≤ 1000000) : ACall Try.prog 13 [rootV r, .str a, .str b] Sto.empty fun v _ => Wk v (.slice (iv (rangeN r a b)) 1 .ro) := by
  refine range_i r a b _ (.of [rootE, atE, cloneISE] rfl ⟨root_ok, at_ok, cloneIS_ok, trivial⟩) ?_
  have hn1 : (strv r.1).length = r.1.length := strv_length r.1
  have hn2 : (iv r.2).length = r.2.length := iv_length r.2
  have hG : rootG (rootV r) = true := rootG_mk (by omega) (by omega)
  have no : ¬ (rootB r = true ∧ tlt a b = true) → Wk (.slice [] 0 .nil) (.slice (iv (rangeN r a b)) 1 .ro) := fun h => by
    rw [rangeN, if_neg h]; exact Wk.nil _ _ _
  simp only [hold_eq, map_strOf_strv, map_intOf_iv, fold_root]
  refine gb_by hG (brV_by' (fun h => ?_) (fun h => no ?_))
  case refine_2 =>
    have h : (!rootB r) = true := h
    rintro ⟨h', _⟩
    rw [h'] at h; cases h
  have hb : rootB r = true := by
    have h : (!rootB r) = false := h
    simpa using h
  refine brV_by (fun h => no ?_) (fun h => ?_)
  · have h : (tlt b a || b == a) = true := h
    rw [tle_iff] at h
    rintro ⟨_, h'⟩
    rw [h'] at h; cases h
  have hlt : tlt a b = true := by
    have h : (tlt b a || b == a) = false := h
    rw [tle_iff] at h
    simpa using h
  obtain ⟨q1, q2, q3, q4⟩ := rootB_iff.1 hb
  have hGR : (rootG (rootV r) && riseL r.1) = true := and_tt hG q2
  have hle := range_le q2 hlt
  have hP := posN_le r.1 b
  have hA := atN_le r.1 a
  have fin : ∀ (y_1 : Nat), y_1 = atN r.1 a → gb (rootG (rootV r) && riseL r.1) (gb (decide (0 ≤ (y_1 : Int) ∧ (y_1 : Int) ≤ ((posN r.1 b + 1 : Nat) : Int) ∧ ((posN r.1 b + 1 : Nat) : Int) ≤ ((iv r.2).length : Int))) (gb (List.all (List.take (posN r.1 b + 1 - y_1) (List.drop y_1 (iv r.2))) isI64 && decide (List.length (List.take (posN r.1 b + 1 - y_1) (List.drop y_1 (iv r.2))) ≤ 1000000)) (Wk (.slice (List.take (posN r.1 b + 1 - y_1) (List.drop y_1 (iv r.2))) 1 .ro) (.slice (iv (rangeN r a b)) 1 .ro)))) := by
    intro y1 hy1
    have e : List.take (posN r.1 b + 1 - y1) (List.drop y1 (iv r.2)) = iv (rangeN r a b) := by
      rw [rangeN, if_pos ⟨hb, hlt⟩, ← hy1, iv_takeE, iv_dropE]
    have hln : (rangeN r a b).length ≤ 1000000 := by
      rw [rangeN, if_pos ⟨hb, hlt⟩, List.length_take, List.length_drop]; omega
    rw [e]
    refine gb_by hGR (gb_by (dt (by omega)) (gb_by (and_tt (iv_isI64 _) (dt (by rw [iv_length]; exact hln))) (Wk.refl _)))
  intro y hy
  have hat := atN_pos q2 b
  have hyle : y ≤ r.1.length := by rw [hy]; exact atN_le _ _
  refine gb_by hGR (brV_by (fun h => ?_) (fun h => ?_))
  · have hy0 : 0 < y := by have := of_decide_eq_true h; omega
    have w1 : IntKind.i64.wrap ((y : Int) - 1) = ((y - 1 : Nat) : Int) := by rw [wrap_i64 (by omega) (by omega)]; omega
    have w2 : IntKind.i64.wrap (((y - 1 : Nat) : Int) + 1) = ((y : Nat) : Int) := by rw [wrap_i64 (by omega) (by omega)]; omega
    have w3 : IntKind.i64.wrap ((y : Int) + 1) = ((y + 1 : Nat) : Int) := by rw [wrap_i64 (by omega) (by omega)]; omega
    simp only [w1, w2, w3, Int.toNat_natCast]
    rw [elemAt_strv r.1 (y - 1) (by omega)]
    refine gb_by (dt (by omega)) (gb_by rfl (brV_by (fun h => ?_) (fun h => ?_)))
    · have e : r.1[y - 1] = b := by
        have h : (r.1[y - 1] == b) = true := h
        simpa using h
      have hc : r.1.contains b = true := by
        rw [← e]; simp
      rw [hc] at hat
      have : y = posN r.1 b + 1 := by rw [hy, hat]; rfl
      rw [this]
      exact fin
    · have e : ¬ r.1[y - 1] = b := by
        have h : (r.1[y - 1] == b) = false := h
        simpa using h
      have hc : r.1.contains b = false := by
        cases hc : r.1.contains b with
        | false => rfl
        | true =>
          rw [hc] at hat
          have hy2 : y = posN r.1 b + 1 := by rw [hy, hat]; rfl
          have hcp := contains_pos q2 b
          rw [hc] at hcp
          have hcp := hcp.symm
          simp only [Bool.and_eq_true, decide_eq_true_eq, beq_iff_eq] at hcp
          obtain ⟨g1, g2⟩ := hcp
          rw [List.getD_eq_getElem?_getD, List.getElem?_eq_getElem g1] at g2
          have g2 : r.1[posN r.1 b] = b := by simpa using g2
          refine (e ?_).elim
          have : y - 1 = posN r.1 b := by omega
          simp only [this]; exact g2
      rw [hc] at hat
      have : y = posN r.1 b := by rw [hy, hat]; rfl
      rw [this]
      exact fin
  · have hy0 : y = 0 := by have := of_decide_eq_false h; omega
    have hP0 : posN r.1 b = 0 := by rw [hy0] at hy; omega
    have w3 : IntKind.i64.wrap ((y : Int) + 1) = ((posN r.1 b + 1 : Nat) : Int) := by rw [wrap_i64 (by omega) (by omega)]; omega
    simp only [w3, Int.toNat_natCast]
    exact fin
theorem range_ok : EntOk Try.prog rangeE := by
  intro xs σ; simp only [rangeE]; split
  · rename_i v a b
    intro hc
    obtain ⟨r1, r2, r3⟩ := rootM_spec hc
    exact pcall_of (.cons (wk_root r1) (.refl _)) (range_c _ a b r2 r3) (by simp only [noOutL, root_noOut, AVal.noOut, Bool.and_true]) (by simp only [noTokL, root_noTok, AVal.noTok, Bool.and_true]) (rangeN_noOut _ _) (rangeN_noTok _ _)
  · trivial

def outR (r : Root) (a b : Txt) (i : Nat) : List Int := (r.2.drop (atN r.1 a)).take (min i (posN r.1 b + 1) - atN r.1 a)
theorem outR_step {r : Root} {a b : Txt} {i : Nat} (hi : i < r.2.length) : outR r a b (i + 1) = outR r a b i ++ (if i ≤ posN r.1 b ∧ atN r.1 a ≤ i then [r.2[i]] else []) := by
  unfold outR
  by_cases h : i ≤ posN r.1 b ∧ atN r.1 a ≤ i
  · rw [if_pos h]
    have e1 : min (i + 1) (posN r.1 b + 1) - atN r.1 a = (i - atN r.1 a) + 1 := by omega
    have e2 : min i (posN r.1 b + 1) - atN r.1 a = i - atN r.1 a := by omega
    rw [e1, e2, List.take_succ_eq_append_getElem (by rw [List.length_drop]; omega), List.getElem_drop]
    have : atN r.1 a + (i - atN r.1 a) = i := by omega
    simp only [this]
  · rw [if_neg h, List.append_nil]
    have : min (i + 1) (posN r.1 b + 1) - atN r.1 a = min i (posN r.1 b + 1) - atN r.1 a := by omega
    rw [this]
theorem outR_le (r : Root) (a b : Txt) (i : Nat) : (outR r a b i).length ≤ r.2.length := by
  unfold outR; rw [List.length_take, List.length_drop]; omega

theorem rangeRA_K (r : Root) (a b : Txt) (i : Nat) (h2 : r.2.length ≤ 1000000) (ha : a.length ≤ 1000000) (q1 : r.2.length = r.1.length + 1) (q2 : riseL r.1 = true) (hil : i < r.2.length)
    (K : Exit → St → Prop) (u : Bool) (hu : u = decide (i ≤ posN r.1 b))
    (hK : ∀ u v w : Bool, K .normal (St.mk 69 [(1, .str a), (2, .str b), (3, .ptr (.loc 3) 0), (7, .slice (iv (outR r a b (i + 1))) 1 (.own 0)), (8, .int .i64 (i : Int)), (9, .bool u), (10, .bool v), (59, .bool w)] [] [(3, .cells (rootC r))] (Sto.pushOwn Sto.empty (iv (outR r a b (i + 1))).length))) :
    vc Try.prog cRangeR code_23_1_1_1_0_1_0_0_1_0_0_1 K (rangeRA_S r a b (outR r a b i) i u) := by
  have hn1 : (strv r.1).length = r.1.length := strv_length r.1
  have hn2 : (iv r.2).length = r.2.length := iv_length r.2
  have hol := outR_le r a b i
  have hov : (iv (outR r a b i)).length = (outR r a b i).length := iv_length _
  have hA := atN_le r.1 a
  refine Eq.mpr (rangeRA_r r a b (outR r a b i) i u K) ?_
  simp only [hold_eq]
  have w1 : IntKind.i64.wrap (((iv r.2).length : Int) - 1) = ((r.2.length - 1 : Nat) : Int) := by rw [wrap_i64 (by omega) (by omega)]; omega
  rw [w1]
  suffices key2 : ∀ v : Bool, v = decide (atN r.1 a ≤ i) → vc Try.prog cRangeR code_23_1_1_1_0_1_0_0_1_0_0_1_1 K (rangeRB_S r a b (outR r a b i) i u v) by
    refine brV_by' (fun h => ?_) (fun h => ?_)
    · have hi1 : i < r.1.length := by
        have h : ¬ (i : Int) = ((r.2.length - 1 : Nat) : Int) := by simpa using h
        omega
      rw [elemAt_strv r.1 i hi1]
      refine gb_by (dt (by omega)) (gb_by rfl (gb_by (dt ha) (toCut (key2 _ ?_))))
      show decide (ordT a r.1[i] < 0) = decide (atN r.1 a ≤ i)
      exact decide_eq_decide.2 (by rw [ordT_lt', atN_lt q2 a i hi1])
    · have hi1 : (i : Int) = ((r.2.length - 1 : Nat) : Int) := by simpa using h
      exact toCut (key2 _ (dt (by omega)).symm)
  intro v hv
  refine Eq.mpr (rangeRB_r r a b (outR r a b i) i u v K) ?_
  have hstep := outR_step (a := a) (b := b) hil
  refine brV_by (fun h => ?_) (fun h => ?_)
  · have g1 : i ≤ posN r.1 b := by rw [h] at hu; exact of_decide_eq_true hu.symm
    refine brV_by (fun h => ?_) (fun h => ?_)
    · have g2 : atN r.1 a ≤ i := by rw [h] at hv; exact of_decide_eq_true hv.symm
      rw [if_pos ⟨g1, g2⟩] at hstep
      rw [elemAt_iv r.2 i hil]
      refine gb_by (dt (by omega)) (gb_by rfl (gb_by (dt (by first | omega | (simp only [true_and, and_true, decide_eq_true_eq, Option.some.injEq, strv_length, iv_length, List.length_take, List.length_drop, List.length_append, List.length_cons, List.length_nil, Int.le_refl] <;> omega))) ?_))
      rw [setOwn_e1]
      have := hK u v v
      rw [hstep] at this
      have e1 : iv (outR r a b i ++ [r.2[i]]) = iv (outR r a b i) ++ [.int .i64 r.2[i]] := by simp [iv]
      rw [e1] at this
      rw [List.length_append] at this
      exact this
    · have g2 : ¬ atN r.1 a ≤ i := by rw [h] at hv; exact of_decide_eq_false hv.symm
      rw [if_neg (by omega), List.append_nil] at hstep
      have := hK u v v
      rw [hstep] at this
      exact this
  · have g1 : ¬ i ≤ posN r.1 b := by rw [h] at hu; exact of_decide_eq_false hu.symm
    rw [if_neg (by omega), List.append_nil] at hstep
    have := hK u v false
    rw [hstep] at this
    exact this

theorem rangeR_c (r : Root) (a b : Txt) (h1 : r.1.length ≤ 1000000) (h2 : r.2.length ≤ 1000000) (hs : shortL r.1 = true) (ha : a.length ≤ 1000000) : ACall Try.prog 23 [rootV r, .str a, .str b] Sto.empty fun v _ => Wk v (.slice (iv (rangeN r a b)) 1 .ro) := by
  refine rangeR_i r a b _ (.of [rootRE, ordE] rfl ⟨rootR_ok, ord_ok, trivial⟩) ?_
  have hn1 : (strv r.1).length = r.1.length := strv_length r.1
  have hn2 : (iv r.2).length = r.2.length := iv_length r.2
  have hH : rootH (rootV r) = true := rootH_mk (by omega) (by omega) hs
  have no : ¬ (rootB r = true ∧ tlt a b = true) → Wk (.slice [] 0 .nil) (.slice (iv (rangeN r a b)) 1 .ro) := fun h => by
    rw [rangeN, if_neg h]; exact Wk.nil _ _ _
  simp only [hold_eq, map_strOf_strv, map_intOf_iv, fold_root]
  refine gb_by hH (brV_by' (fun h => ?_) (fun h => no ?_))
  case refine_2 =>
    have h : (!rootB r) = true := h
    rintro ⟨h', _⟩
    rw [h'] at h; cases h
  have hb : rootB r = true := by
    have h : (!rootB r) = false := h
    simpa using h
  refine gb_by (dt ha) (brV_by (fun h => no ?_) (fun h => ?_))
  · have h : tlt a b = false := ordT_ge'.1 (of_decide_eq_true h)
    rintro ⟨_, h'⟩
    rw [h'] at h; cases h
  have hlt : tlt a b = true := by
    cases hx : tlt a b with
    | true => rfl
    | false => exact (of_decide_eq_false h (ordT_ge'.2 hx)).elim
  obtain ⟨q1, q2, q3, q4⟩ := rootB_iff.1 hb
  have hle := range_le q2 hlt
  have hP := posN_le r.1 b
  have hA := atN_le r.1 a
  have h0 : outR r a b 0 = [] := by simp [outR]
  show loopV _ _ _ (rangeRL_S r a b [] 0)
  rw [← h0]
  refine loopV_intro (α := Nat) (fun i => rangeRL_S r a b (outR r a b i) i) (fun i => i ≤ r.2.length) (fun i => r.2.length - i) ?_ 0 (Nat.zero_le _)
  rintro i hi L hL
  refine Eq.mpr (rangeRL_r r a b (outR r a b i) i L _) ?_
  simp only [hold_eq]
  have hol := outR_le r a b i
  have hov : (iv (outR r a b i)).length = (outR r a b i).length := iv_length _
  refine brV_by (fun h => ?_) (fun h => ?_)
  · have hil : i < r.2.length := by have := of_decide_eq_true h; omega
    have nxt : ∀ K : Exit → St → Prop, ∀ u v w : Bool, (blockK 1 (thenK (fun s => cutV (vc Try.prog cRangeR code_23_1_1_1_0_1_0_0_1_1 (thenK (fun s => L (St.norm [(7, 1)] [1, 2, 3, 7, 8] [3] s)) K)) (St.norm [(7, 1)] [1, 2, 3, 7, 8] [3] s)) (thenK (fun s => L (St.norm [(7, 1)] [1, 2, 3, 7, 8] [3] s)) K))) .normal (St.mk 69 [(1, .str a), (2, .str b), (3, .ptr (.loc 3) 0), (7, .slice (iv (outR r a b (i + 1))) 1 (.own 0)), (8, .int .i64 (i : Int)), (9, .bool u), (10, .bool v), (59, .bool w)] [] [(3, .cells (rootC r))] (Sto.pushOwn Sto.empty (iv (outR r a b (i + 1))).length)) := fun K u v w => by
      refine inBlock (toCut (Eq.mpr (rangeRC_r r a b (outR r a b (i + 1)) i _) ?_))
      rw [i64_succ hil (by omega)]
      exact hL (i + 1) hil (by omega)
    refine brV_by' (fun h => ?_) (fun h => ?_)
    · have hi0 : 0 < i := by
        have h : ¬ (i : Int) = 0 := by simpa using h
        omega
      have w1 : IntKind.i64.wrap ((i : Int) - 1) = ((i - 1 : Nat) : Int) := by rw [wrap_i64 (by omega) (by omega)]; omega
      rw [w1, elemAt_strv r.1 (i - 1) (by omega)]
      refine gb_by (dt (by omega)) (gb_by rfl (gb_by (dt (short_get hs (by omega))) ?_))
      refine toCut (rangeRA_K r a b i h2 ha q1 q2 hil _ _ ?_ (nxt _))
      have : (ordT r.1[i - 1] b < 0) ↔ i ≤ posN r.1 b := by
        rw [ordT_lt', posN_lt q2 b (i - 1) (by omega)]; omega
      show decide (ordT r.1[i - 1] b < 0) = decide (i ≤ posN r.1 b)
      exact decide_eq_decide.2 this
    · have hi0 : i = 0 := by
        have h : (i : Int) = 0 := by simpa using h
        omega
      refine toCut (rangeRA_K r a b i h2 ha q1 q2 hil _ _ ?_ (nxt _))
      exact (dt (by omega)).symm
  · have hge : ¬ i < r.2.length := by have := of_decide_eq_false h; omega
    refine leaveTo (toCut (Eq.mpr (rangeRF_r _ _) ?_))
    have e : outR r a b i = rangeN r a b := by
      rw [rangeN, if_pos ⟨hb, hlt⟩]
      unfold outR
      have : min i (posN r.1 b + 1) = posN r.1 b + 1 := by omega
      rw [this]
    rw [e]
    exact Wk.ro _ _ _
theorem rangeR_ok : EntOk Try.prog rangeRE := by
  intro xs σ; simp only [rangeRE]; split
  · rename_i v a b
    intro hc
    simp only [Bool.and_eq_true, hold_eq, decide_eq_true_eq] at hc
    obtain ⟨r1, r2, r3⟩ := rootM_spec hc.1
    exact pcall_of (.cons (wk_root r1) (.refl _)) (rangeR_c _ a b r2 r3 hc.2.1 hc.2.2) (by simp only [noOutL, root_noOut, AVal.noOut, Bool.and_true]) (by simp only [noTokL, root_noTok, AVal.noTok, Bool.and_true]) (rangeN_noOut _ _) (rangeN_noTok _ _)
  · trivial
end Go.Proofs.Ytlfnmhfmikomkaa
