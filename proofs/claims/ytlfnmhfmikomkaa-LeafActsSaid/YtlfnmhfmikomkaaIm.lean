/-
  Seat 11 (leaf): steps of the laws' loops: a map of leaves, a list of leaves (plain).
-/
import Derived.Test.YtlfnmhfmikomkaaIc
set_option linter.unusedSimpArgs false
set_option linter.unusedVariables false
namespace Go.AL
open Go.Proofs.Ytlfnmhfmikomkaa

/-! ### Leaves by number, in a map -/
def gf (m : List (Int × Lf)) (n : Int) : Lf := (getI m n).getD (0, [], false)
def putAll (m : List (Int × Lf)) (ls : List Lf) : List (Int × Lf) := ls.foldl (fun m l => putI l.1 l m) m
theorem gf_put (m : List (Int × Lf)) (l : Lf) : gf (putI l.1 l m) = upd (gf m) l := by
  funext n
  simp only [gf, getI_putI, upd]
  by_cases h : l.1 = n
  · simp [h]
  · rw [if_neg h, if_neg (fun e => h e.symm)]
theorem gf_put' (m : List (Int × Lf)) {k : Int} {l : Lf} (h : l.1 = k) : gf (putI k l m) = upd (gf m) l := by rw [← h]; exact gf_put m l
theorem Idx.getI {r : Root} {m : List (Int × Lf)} (h : Idx r (gf m)) {n : Int} (hn : n ∈ r.2) : getI m n = some (gf m n) := by
  obtain ⟨i, hi, rfl⟩ := List.getElem_of_mem hn
  have h2 := (h.leaf i hi).2.1
  have hpos := (rootB_iff.1 h.root).2.2.1 _ hn
  unfold gf at h2 ⊢
  cases e : Go.AL.getI m r.2[i] with
  | none => rw [e] at h2; simp at h2; omega
  | some v => rfl
theorem Idx.find_mem {r : Root} {f : Int → Lf} (h : Idx r f) (s : Txt) : findN r s ∈ r.2 := by
  rw [h.find s]; exact List.getElem_mem _
theorem Idx.no {r : Root} {f : Int → Lf} (h : Idx r f) (s : Txt) : (f (findN r s)).1 = findN r s := by
  have := (h.leaf _ (h.at_lt s)).2.1
  rw [h.find s]; exact this
theorem Idx.len4 {r : Root} {f : Int → Lf} (h : Idx r f) {n : Int} (hn : n ∈ r.2) : (f n).2.1.length ≤ 4 := by
  obtain ⟨i, hi, rfl⟩ := List.getElem_of_mem hn
  exact (lfB_iff.1 (h.leaf i hi).1).2.1
theorem Full.set {r : Root} {f : Int → Lf} (hf : Full r f) {l : Lf} (hl : l.2.1 ≠ [] ∨ r.2.length = 1) : Full r (upd f l) := fun h1 n hn => by
  simp only [upd]
  split
  · exact hl.resolve_right h1
  · exact hf h1 n hn
theorem insN_full {r : Root} {f : Int → Lf} (h : Idx r f) {s : Txt} (hs : s.length ≤ 600) (hc : (f (findN r s)).2.1.contains s = false) {es : List Txt}
    (hes : es = insL (f (findN r s)).2.1 (posN (f (findN r s)).2.1 s) s) (hr : ¬ es.length ≤ 4) : (insN r (f (findN r s)) s).1.2 = insL r.2 (atN r.1 s + 1) (freeN r.2 : Int) := by
  have h6 : ¬ 600 < s.length := by omega
  have hr' : ¬ (insL (f (findN r s)).2.1 (posN (f (findN r s)).2.1 s) s).length ≤ 4 := by rw [← hes]; exact hr
  simp only [insN, h.own s, h6, hc, if_true, if_false, ← hes, hr, Bool.false_eq_true]
/-- What laying a text does. -/
theorem Idx.ins {r : Root} {f : Int → Lf} (h : Idx r f) (hf : Full r f) {s : Txt} (hs : s.length ≤ 600) :
    (insN r (f (findN r s)) s = errC 31 ∧ Idx.has r f s) ∨
    (¬ Idx.has r f s ∧ ∃ es, insN r (f (findN r s)) s = (r, [(findN r s, es, false)], 0) ∧ Idx r (upd f (findN r s, es, false)) ∧ Full r (upd f (findN r s, es, false)) ∧ ∀ x, Idx.has r (upd f (findN r s, es, false)) x ↔ x = s ∨ Idx.has r f x) ∨
    (¬ Idx.has r f s ∧ ∃ r' es fs, insN r (f (findN r s)) s = (r', [(findN r s, es, false), ((freeN r.2 : Int), fs, false)], 0) ∧ r'.2 = insL r.2 (atN r.1 s + 1) (freeN r.2 : Int) ∧
      Idx r' (upd (upd f (findN r s, es, false)) ((freeN r.2 : Int), fs, false)) ∧ Full r' (upd (upd f (findN r s, es, false)) ((freeN r.2 : Int), fs, false)) ∧ ∀ x, Idx.has r' (upd (upd f (findN r s, es, false)) ((freeN r.2 : Int), fs, false)) x ↔ x = s ∨ Idx.has r f x) := by
  cases hc : (f (findN r s)).2.1.contains s with
  | true => exact .inl ⟨h.ins_twice hs hc, (h.has_iff s).2 (by simpa using hc)⟩
  | false =>
    have hno : ¬ Idx.has r f s := fun hh => by
      have := (h.has_iff s).1 hh
      rw [← List.contains_iff_mem, hc] at this; cases this
    by_cases hr : (insL (f (findN r s)).2.1 (posN (f (findN r s)).2.1 s) s).length ≤ 4
    · obtain ⟨e1, e2, e3⟩ := h.ins_room hs hc hr
      refine .inr (.inl ⟨hno, _, e1, e2, hf.set (.inl ?_), e3⟩)
      intro e
      have : s ∈ insL (f (findN r s)).2.1 (posN (f (findN r s)).2.1 s) s := (mem_insL _ _ _ _).2 (.inl rfl)
      rw [show insL (f (findN r s)).2.1 (posN (f (findN r s)).2.1 s) s = [] from e] at this
      cases this
    · obtain ⟨r', e1, e2, e3⟩ := h.ins_full hs hc rfl hr
      have e4 := insN_full h hs hc rfl hr
      rw [e1] at e4
      have e4 : r'.2 = insL r.2 (atN r.1 s + 1) (freeN r.2 : Int) := e4
      refine .inr (.inr ⟨hno, r', _, _, e1, e4, e2, fun _ n hn => ?_, e3⟩)
      have hl4 : (insL (f (findN r s)).2.1 (posN (f (findN r s)).2.1 s) s).length > 4 := by omega
      simp only [upd]
      split
      · intro e
        have := congrArg List.length e
        simp only [List.length_drop, List.length_nil] at this
        omega
      · rename_i n1
        split
        · intro e
          have := congrArg List.length e
          simp only [List.length_take, List.length_nil] at this
          omega
        · rename_i n2
          rw [e4, mem_insL] at hn
          have hn : n ∈ r.2 := hn.resolve_left n1
          by_cases h1 : r.2.length = 1
          · exfalso
            obtain ⟨y, hy⟩ := List.length_eq_one_iff.1 h1
            have h3 := h.find_mem s
            rw [hy] at h3 hn
            simp only [List.mem_singleton] at h3 hn
            exact n2 (hn.trans h3.symm)
          · exact hf h1 n hn
/-- What taking out a text does. -/
theorem Idx.rem {r : Root} {f : Int → Lf} (h : Idx r f) (hf : Full r f) (s : Txt) :
    (remN r (f (findN r s)) s = errC 101 ∧ ¬ Idx.has r f s) ∨
    (Idx.has r f s ∧ ∃ es, remN r (f (findN r s)) s = (r, [(findN r s, es, false)], 0) ∧ Idx r (upd f (findN r s, es, false)) ∧ Full r (upd f (findN r s, es, false)) ∧ ∀ x, Idx.has r (upd f (findN r s, es, false)) x ↔ x ≠ s ∧ Idx.has r f x) ∨
    (Idx.has r f s ∧ ∃ r', remN r (f (findN r s)) s = (r', [(findN r s, [], true)], 0) ∧ r'.2 = delL r.2 (atN r.1 s) ∧ Idx r' f ∧ findN r s ∉ r'.2 ∧ Full r' f ∧ ∀ x, Idx.has r' f x ↔ x ≠ s ∧ Idx.has r f x) := by
  cases hc : (f (findN r s)).2.1.contains s with
  | false =>
    refine .inl ⟨h.rem_none hc, fun hh => ?_⟩
    have := (h.has_iff s).1 hh
    rw [← List.contains_iff_mem, hc] at this; cases this
  | true =>
    have hyes : Idx.has r f s := (h.has_iff s).2 (by simpa using hc)
    by_cases hr : 0 < (delL (f (findN r s)).2.1 (posN (f (findN r s)).2.1 s)).length ∨ r.2.length = 1
    · obtain ⟨e1, e2, e3⟩ := h.rem_stay hc rfl hr
      exact .inr (.inl ⟨hyes, _, e1, e2, hf.set (hr.imp (fun h e => by rw [show delL (f (findN r s)).2.1 (posN (f (findN r s)).2.1 s) = [] from e] at h; simp at h) id), e3⟩)
    · obtain ⟨e1, e2, e3, e4⟩ := h.rem_gone hc hr
      refine .inr (.inr ⟨hyes, _, e1, rfl, e2, e3, fun _ n hn => ?_, e4⟩)
      exact hf (fun e => hr (.inr e)) n ((delL_sub _ _).mem hn)
theorem putAll_one (m : List (Int × Lf)) (l : Lf) : gf (putAll m [l]) = upd (gf m) l := gf_put m l
theorem putAll_two (m : List (Int × Lf)) (l k : Lf) : gf (putAll m [l, k]) = upd (upd (gf m) l) k := by
  show gf (putI k.1 k (putI l.1 l m)) = _
  rw [gf_put, gf_put]
/-- A text is laid, and the map follows. -/
theorem step_ins {r : Root} {m : List (Int × Lf)} (h : Idx r (gf m)) (hf : Full r (gf m)) {s : Txt} (hs : s.length ≤ 600) :
    (insN r (gf m (findN r s)) s = errC 31 ∧ Idx.has r (gf m) s) ∨
    ∃ r' ls, insN r (gf m (findN r s)) s = (r', ls, 0) ∧ ls.length ≤ 2 ∧ r'.2.length ≤ r.2.length + 1 ∧ Idx r' (gf (putAll m ls)) ∧ Full r' (gf (putAll m ls)) ∧ ∀ x, Idx.has r' (gf (putAll m ls)) x ↔ x = s ∨ Idx.has r (gf m) x := by
  rcases h.ins hf hs with h1 | ⟨_, es, e1, e2, e3, e4⟩ | ⟨_, r', es, fs, e1, e2, e3, e4, e5⟩
  · exact .inl h1
  · refine .inr ⟨r, _, e1, by simp, by omega, ?_⟩
    rw [putAll_one]; exact ⟨e2, e3, e4⟩
  · refine .inr ⟨r', _, e1, by simp, ?_, ?_⟩
    · rw [e2, insL_length _ _ _ (by have := h.at_lt s; omega)]; omega
    · rw [putAll_two]; exact ⟨e3, e4, e5⟩
theorem step_rem {r : Root} {m : List (Int × Lf)} (h : Idx r (gf m)) (hf : Full r (gf m)) (s : Txt) :
    (remN r (gf m (findN r s)) s = errC 101 ∧ ¬ Idx.has r (gf m) s) ∨
    ∃ r' l, remN r (gf m (findN r s)) s = (r', [l], 0) ∧ r'.2.length ≤ r.2.length ∧ Idx r' (gf (putI (findN r s) l m)) ∧ Full r' (gf (putI (findN r s) l m)) ∧ ∀ x, Idx.has r' (gf (putI (findN r s) l m)) x ↔ x ≠ s ∧ Idx.has r (gf m) x := by
  rcases h.rem hf s with h1 | ⟨_, es, e1, e2, e3, e4⟩ | ⟨_, r', e1, e2, e3, e4, e5, e6⟩
  · exact .inl h1
  · refine .inr ⟨r, _, e1, Nat.le_refl _, ?_⟩
    rw [gf_put' m (k := findN r s) (l := (findN r s, es, false)) rfl]; exact ⟨e2, e3, e4⟩
  · refine .inr ⟨r', _, e1, ?_, ?_⟩
    · rw [e2, delL_length _ _ (h.at_lt s)]; omega
    · rw [gf_put' m (k := findN r s) (l := (findN r s, [], true)) rfl]
      have hcg : ∀ n ∈ r'.2, upd (gf m) (findN r s, [], true) n = gf m n := fun n hn => by
        have : ¬ n = findN r s := fun e => e4 (by rw [← e]; exact hn)
        simp only [upd, this, if_false]
      refine ⟨e3.upd_out e4, fun h1 n hn => by rw [hcg n hn]; exact e5 h1 n hn, fun x => ?_⟩
      rw [Idx.has_congr hcg, e6]
/-! ### Leaves in the root's order -/
theorem map_set {l : List Int} (hn : l.Nodup) {p : Nat} (hp : p < l.length) (f : Int → Lf) {x : Lf} (hx : x.1 = l[p]) : (l.map f).take p ++ x :: (l.map f).drop (p + 1) = l.map (upd f x) := by
  apply List.ext_getElem?
  intro j
  have hlp : (List.take p (l.map f)).length = p := by simp; omega
  rw [List.getElem?_map]
  by_cases h1 : j < p
  · rw [List.getElem?_append_left (by omega), List.getElem?_take, if_pos h1, List.getElem?_map, List.getElem?_eq_getElem (show j < l.length by omega)]
    have : ¬ l[j] = x.1 := by rw [hx]; exact nodup_ne hn _ hp (by omega)
    simp [upd, this]
  · rw [List.getElem?_append_right (by omega), hlp]
    by_cases h2 : j = p
    · subst h2
      rw [List.getElem?_eq_getElem hp]
      simp [upd, hx]
    · obtain ⟨k, rfl⟩ : ∃ k, j = p + 1 + k := ⟨j - p - 1, by omega⟩
      rw [show p + 1 + k - p = k + 1 by omega, List.getElem?_cons_succ, List.getElem?_drop, List.getElem?_map]
      cases e : l[p + 1 + k]? with
      | none => rfl
      | some n =>
        obtain ⟨hk, e2⟩ := List.getElem?_eq_some_iff.1 e
        have : ¬ n = x.1 := by rw [hx, ← e2]; exact nodup_ne hn hk hp (by omega)
        simp [upd, this]
theorem map_set2 {l : List Int} (hn : l.Nodup) {p : Nat} (hp : p < l.length) (f : Int → Lf) {x y : Lf} (hx : x.1 = l[p]) (hy : y.1 ∉ l) :
    (l.map f).take p ++ x :: y :: (l.map f).drop (p + 1) = (insL l (p + 1) y.1).map (upd (upd f x) y) := by
  have e1 : (insL l (p + 1) y.1).map (upd (upd f x) y) = (l.map (upd f x)).take (p + 1) ++ y :: (l.map (upd f x)).drop (p + 1) := by
    have hout : ∀ k : List Int, (∀ n ∈ k, n ∈ l) → k.map (upd (upd f x) y) = k.map (upd f x) := fun k hk => List.map_congr_left fun n hn => by
      have : ¬ n = y.1 := fun e => hy (by rw [← e]; exact hk n hn)
      simp only [upd, this, if_false]
    unfold insL
    rw [List.map_append, List.map_cons, hout _ (fun n hn => List.mem_of_mem_take hn), hout _ (fun n hn => List.mem_of_mem_drop hn), List.map_take, List.map_drop]
    congr 2
    simp [upd]
  rw [e1, ← map_set hn hp f hx]
  have hlp : (List.take p (l.map f)).length = p := by simp; omega
  generalize List.take p (l.map f) = A at hlp
  generalize List.drop (p + 1) (l.map f) = B
  have h1 : (A ++ x :: B).take (p + 1) = A ++ [x] := by rw [← hlp, List.take_length_add_append]; rfl
  have h2 : (A ++ x :: B).drop (p + 1) = B := by rw [← hlp, List.drop_length_add_append]; rfl
  rw [h1, h2]
  simp
theorem map_del {l : List Int} (p : Nat) (f : Int → Lf) : (l.map f).take p ++ (l.map f).drop (p + 1) = (delL l p).map f := by
  unfold delL
  rw [List.map_append, List.map_take, List.map_drop]
theorem rise_turn {l : List Txt} (h : riseL l = true) (s : Txt) : riseL (turnT l s) = true := by
  unfold turnT
  split
  · exact rise_del h _
  · rename_i hc; exact rise_ins h (by simpa using hc)
theorem mem_turn {l : List Txt} (h : riseL l = true) (s x : Txt) : x ∈ turnT l s ↔ if s ∈ l then x ≠ s ∧ x ∈ l else x = s ∨ x ∈ l := by
  unfold turnT
  by_cases hs : s ∈ l
  · have hc : l.contains s = true := by simpa using hs
    rw [if_pos hc, if_pos hs]
    have hp := posN_lt_len h hc
    have := contains_pos h s
    rw [hc] at this
    have := this.symm
    simp only [Bool.and_eq_true, decide_eq_true_eq, beq_iff_eq] at this
    have h2 := this.2
    rw [List.getD_eq_getElem?_getD, List.getElem?_eq_getElem hp] at h2
    have h2 : l[posN l s] = s := h2
    rw [mem_delL h hp, h2]
    exact And.comm
  · have hc : l.contains s = false := by simpa using hs
    rw [hc, if_neg hs, if_neg (by simp), mem_insL]
theorem len_turn {l : List Txt} (h : riseL l = true) (s : Txt) : (turnT l s).length ≤ l.length + 1 := by
  unfold turnT
  split
  · rename_i hc; rw [delL_length _ _ (posN_lt_len h hc)]; omega
  · rw [insL_length _ _ _ (posN_le _ _)]; exact Nat.le_refl _
/-- The state of LeafActs: an index, its leaves in the root's order, its entries. -/
structure ActI (r : Root) (ls : List Lf) (al : List Txt) (f : Int → Lf) : Prop where
  idx : Idx r f
  full : Full r f
  lst : ls = r.2.map f
  all : al = allT r f
theorem ActI.next {r r' : Root} {ls : List Lf} {al : List Txt} {f f' : Int → Lf} (h : ActI r ls al f) {s : Txt} (hI : Idx r' f') (hF : Full r' f') (hh : (Idx.has r f s ∧ ∀ x, Idx.has r' f' x ↔ x ≠ s ∧ Idx.has r f x) ∨ (¬ Idx.has r f s ∧ ∀ x, Idx.has r' f' x ↔ x = s ∨ Idx.has r f x)) :
    ActI r' (r'.2.map f') (turnT al s) f' := by
  refine ⟨hI, hF, rfl, ?_⟩
  have hr : riseL al = true := by rw [h.all]; exact h.idx.rise
  refine rise_ext (rise_turn hr s) hI.rise fun x => ?_
  rw [mem_turn hr, mem_allT, h.all]
  rcases hh with ⟨h1, h2⟩ | ⟨h1, h2⟩
  · rw [if_pos ((mem_allT s).2 h1), h2, mem_allT]
  · rw [if_neg (fun e => h1 ((mem_allT s).1 e)), h2, mem_allT]
/-- What becomes of the list: the changed leaves that aren't gone, in the leaf's place. -/
def newL (ls ch : List Lf) (p : Nat) : List Lf := ls.take p ++ (ch.filter (fun l => !l.2.2) ++ ls.drop (p + 1))
theorem ActI.at {r : Root} {ls : List Lf} {al : List Txt} {f : Int → Lf} (h : ActI r ls al f) (s : Txt) : ∃ hp : atN r.1 s < ls.length, ls[atN r.1 s] = f (findN r s) := by
  have hlt := h.idx.at_lt s
  have hl := h.lst
  subst hl
  refine ⟨by simpa using hlt, ?_⟩
  rw [List.getElem_map, h.idx.find s]
theorem ActI.nth {r : Root} {ls : List Lf} {al : List Txt} {f : Int → Lf} (h : ActI r ls al f) (s : Txt) (k : Nat) (hk : k < ls.length) : ls[k].1 = findN r s ↔ k = atN r.1 s := by
  have hl := h.lst
  subst hl
  have hk' : k < r.2.length := by simpa using hk
  rw [List.getElem_map, (h.idx.leaf k hk').2.1, h.idx.find s]
  have hn := (rootB_iff.1 h.idx.root).2.2.2
  constructor
  · intro e
    apply Decidable.byContradiction
    intro hne
    exact nodup_ne hn hk' (h.idx.at_lt s) hne e
  · rintro rfl; rfl
theorem ActI.len {r : Root} {ls : List Lf} {al : List Txt} {f : Int → Lf} (h : ActI r ls al f) : ls.length = r.2.length := by rw [h.lst]; simp
/-- A text is turned. -/
theorem ActI.step {r : Root} {ls : List Lf} {al : List Txt} {f : Int → Lf} (h : ActI r ls al f) {s : Txt} (hs : s.length ≤ 600) :
    ∃ r' ch f', ch ≠ [] ∧ ch.length ≤ 2 ∧ (ch.getD 0 (0, [], false)).1 = findN r s ∧ r'.2.length ≤ r.2.length + 1 ∧ ActI r' (newL ls ch (atN r.1 s)) (turnT al s) f' ∧
      ((insN r (f (findN r s)) s = (r', ch, 0)) ∨ (insN r (f (findN r s)) s = errC 31 ∧ remN r (f (findN r s)) s = (r', ch, 0))) := by
  have hn := (rootB_iff.1 h.idx.root).2.2.2
  have hlt := h.idx.at_lt s
  have hf := h.idx.find s
  have hfr := (freeN_spec r.2).2.1
  rcases h.idx.ins h.full hs with ⟨e0, hh⟩ | ⟨hh, es, e1, e2, e3, e4⟩ | ⟨hh, r', es, fs, e1, e2, e3, e4, e5⟩
  · rcases h.idx.rem h.full s with ⟨_, h1⟩ | ⟨_, es, e1, e2, e3, e4⟩ | ⟨_, r', e1, e2, e3, e4, e5, e6⟩
    · exact (h1 hh).elim
    · refine ⟨r, _, upd f (findN r s, es, false), by simp, by simp, rfl, by omega, ?_, .inr ⟨e0, e1⟩⟩
      have hnew : newL ls [(findN r s, es, false)] (atN r.1 s) = r.2.map (upd f (findN r s, es, false)) := by
        rw [← map_set hn hlt f (x := (findN r s, es, false)) hf, ← h.lst]; rfl
      rw [hnew]
      exact h.next e2 e3 (.inl ⟨hh, e4⟩)
    · refine ⟨r', _, f, by simp, by simp, rfl, by rw [e2, delL_length _ _ hlt]; omega, ?_, .inr ⟨e0, e1⟩⟩
      have hnew : newL ls [(findN r s, [], true)] (atN r.1 s) = r'.2.map f := by
        rw [e2, ← map_del, ← h.lst]; rfl
      rw [hnew]
      exact h.next e3 e5 (.inl ⟨hh, e6⟩)
  · refine ⟨r, _, upd f (findN r s, es, false), by simp, by simp, rfl, by omega, ?_, .inl e1⟩
    have hnew : newL ls [(findN r s, es, false)] (atN r.1 s) = r.2.map (upd f (findN r s, es, false)) := by
      rw [← map_set hn hlt f (x := (findN r s, es, false)) hf, ← h.lst]; rfl
    rw [hnew]
    exact h.next e2 e3 (.inr ⟨hh, e4⟩)
  · refine ⟨r', _, upd (upd f (findN r s, es, false)) ((freeN r.2 : Int), fs, false), by simp, by simp, rfl, by rw [e2, insL_length _ _ _ (by omega)]; omega, ?_, .inl e1⟩
    have hnew : newL ls [(findN r s, es, false), ((freeN r.2 : Int), fs, false)] (atN r.1 s) = r'.2.map (upd (upd f (findN r s, es, false)) ((freeN r.2 : Int), fs, false)) := by
      rw [e2, ← map_set2 hn hlt f (x := (findN r s, es, false)) (y := ((freeN r.2 : Int), fs, false)) hf hfr, ← h.lst]; rfl
    rw [hnew]
    exact h.next e3 e4 (.inr ⟨hh, e5⟩)
theorem ActI.right {r : Root} {ls : List Lf} {al : List Txt} {f : Int → Lf} (h : ActI r ls al f) : rightB r ls = true := by
  have hl := h.lst
  subst hl
  simp only [rightB, decide_eq_true_eq]
  refine ⟨h.idx.root, by simp, fun i hi => ?_⟩
  have hi' : i < r.2.length := by simpa using hi
  obtain ⟨h1, h2, h3⟩ := h.idx.leaf i hi'
  have e : (r.2.map f).getD i (0, [], false) = f r.2[i] := by simp [List.getD_eq_getElem?_getD, hi']
  have e2 : r.2.getD i 0 = r.2[i] := by simp [List.getD_eq_getElem?_getD, hi']
  rw [e, e2]
  exact ⟨h1, h2, h3⟩
theorem ActI.got {r : Root} {ls : List Lf} {al : List Txt} {f : Int → Lf} (h : ActI r ls al f) : ls.flatMap (fun l => l.2.1) = al := by
  rw [h.all, h.lst, allT, List.flatMap_map]
theorem actI_empty : ActI ([], [1]) [(1, [], false)] [] (fun _ => (1, [], false)) :=
  ⟨idx_empty rfl, fun h => (h rfl).elim, rfl, rfl⟩
end Go.AL
