/-
  Seat 11 (leaf): an index: what it holds, and what laying and taking out does to it (plain).
-/
import Derived.Test.YtlfnmhfmikomkaaFe
namespace Go.AL
set_option linter.unusedSimpArgs false
set_option linter.unusedVariables false

theorem take_lt {l : List Txt} (h : riseL l = true) (s : Txt) : ∀ x ∈ l.take (posN l s), tlt x s = true := fun x hx => by
  obtain ⟨j, hj, e⟩ := List.mem_take_iff_getElem.1 hx
  have hp := posN_le l s
  rw [← e]
  exact (posN_lt h s j (by omega)).2 (by omega)
theorem drop_gt {l : List Txt} (h : riseL l = true) {s : Txt} (hc : l.contains s = false) : ∀ x ∈ l.drop (posN l s), tlt s x = true := fun x hx => by
  obtain ⟨j, hj, e⟩ := List.getElem_of_mem hx
  rw [List.getElem_drop] at e
  rw [List.length_drop] at hj
  have hlt : ¬ tlt l[posN l s + j] s = true := fun h' => by have := (posN_lt h s _ (by omega)).1 h'; omega
  rw [← e]
  rcases tlt_total s l[posN l s + j] with h1 | h1 | h1
  · exact h1
  · have : l.contains s = true := by rw [h1]; simp
    rw [hc] at this; cases this
  · exact (hlt h1).elim
/-- A text that is laid at its place keeps a list rising. -/
theorem rise_ins {l : List Txt} (h : riseL l = true) {s : Txt} (hc : l.contains s = false) : riseL (insL l (posN l s) s) = true := by
  have hp := riseL_pw.1 h
  rw [riseL_pw]
  unfold insL
  rw [List.pairwise_append]
  refine ⟨hp.sublist (List.take_sublist _ _), ?_, fun a ha b hb => ?_⟩
  · rw [List.pairwise_cons]
    exact ⟨drop_gt h hc, hp.sublist (List.drop_sublist _ _)⟩
  · rcases List.mem_cons.1 hb with rfl | hb
    · exact take_lt h b a ha
    · exact tlt_trans (take_lt h s a ha) (drop_gt h hc b hb)
theorem rise_del {l : List Txt} (h : riseL l = true) (i : Nat) : riseL (delL l i) = true := by
  refine riseL_sub ?_ h
  unfold delL
  conv => rhs; rw [← List.take_append_drop i l]
  exact List.Sublist.append (List.Sublist.refl _) (by rw [← List.drop_drop]; exact List.drop_sublist _ _)
theorem mem_insL {α : Type} (l : List α) (i : Nat) (x y : α) : y ∈ insL l i x ↔ y = x ∨ y ∈ l := by
  unfold insL
  constructor
  · intro h
    rcases List.mem_append.1 h with h | h
    · exact .inr (List.mem_of_mem_take h)
    · rcases List.mem_cons.1 h with h | h
      · exact .inl h
      · exact .inr (List.mem_of_mem_drop h)
  · rintro (h | h)
    · subst h; simp
    · rw [← List.take_append_drop i l] at h
      rcases List.mem_append.1 h with h | h
      · exact List.mem_append_left _ h
      · exact List.mem_append_right _ (List.mem_cons_of_mem _ h)
theorem mem_delL {l : List Txt} (h : riseL l = true) {i : Nat} (hi : i < l.length) (y : Txt) : y ∈ delL l i ↔ y ∈ l ∧ y ≠ l[i] := by
  have hp := riseL_pw.1 h
  have e : l = l.take i ++ l[i] :: l.drop (i + 1) := by rw [List.getElem_cons_drop, List.take_append_drop]
  have hp2 := hp
  rw [e, List.pairwise_append, List.pairwise_cons] at hp2
  obtain ⟨_, ⟨g1, _⟩, g2⟩ := hp2
  unfold delL
  constructor
  · intro hy
    rcases List.mem_append.1 hy with hy | hy
    · exact ⟨List.mem_of_mem_take hy, tlt_ne (g2 y hy _ (List.mem_cons_self ..))⟩
    · exact ⟨List.mem_of_mem_drop hy, (tlt_ne (g1 y hy)).symm⟩
  · rintro ⟨hy, hne⟩
    rw [e] at hy
    rcases List.mem_append.1 hy with hy | hy
    · exact List.mem_append_left _ hy
    · rcases List.mem_cons.1 hy with hy | hy
      · exact (hne hy).elim
      · exact List.mem_append_right _ hy

/-! ### An index: a root, and the leaf of each number -/
structure Idx (r : Root) (f : Int → Lf) : Prop where
  root : rootB r = true
  leaf : ∀ i (h : i < r.2.length), lfB (f r.2[i]) = true ∧ (f r.2[i]).1 = r.2[i] ∧ ∀ s ∈ (f r.2[i]).2.1, atN r.1 s = i
theorem Idx.at_lt {r : Root} {f : Int → Lf} (h : Idx r f) (s : Txt) : atN r.1 s < r.2.length := by
  have := (rootB_iff.1 h.root).1
  have := atN_le r.1 s
  omega
theorem Idx.find {r : Root} {f : Int → Lf} (h : Idx r f) (s : Txt) : findN r s = r.2[atN r.1 s]'(h.at_lt s) := by
  have := h.at_lt s
  simp [findN, h.root, this]
theorem Idx.own {r : Root} {f : Int → Lf} (h : Idx r f) (s : Txt) : ownB r (f (findN r s)) s = true := by
  have hlt := h.at_lt s
  obtain ⟨g1, g2, g3⟩ := h.leaf _ hlt
  have hpos := (rootB_iff.1 h.root).2.2.1 _ (List.getElem_mem hlt)
  rw [ownB_iff, h.find s]
  exact ⟨g1, g2.symm, by rw [g2]; omega⟩
/-- What an index has. -/
def Idx.has (r : Root) (f : Int → Lf) (s : Txt) : Prop := ∃ i, ∃ h : i < r.2.length, s ∈ (f r.2[i]).2.1
theorem Idx.has_iff {r : Root} {f : Int → Lf} (h : Idx r f) (s : Txt) : Idx.has r f s ↔ s ∈ (f (findN r s)).2.1 := by
  rw [h.find s]
  constructor
  · rintro ⟨i, hi, hs⟩
    have := (h.leaf i hi).2.2 s hs
    subst this
    exact hs
  · intro hs
    exact ⟨_, h.at_lt s, hs⟩
def upd (f : Int → Lf) (l : Lf) : Int → Lf := fun n => if n = l.1 then l else f n
theorem nodup_ne {l : List Int} (h : l.Nodup) {i j : Nat} (hi : i < l.length) (hj : j < l.length) (hij : i ≠ j) : l[i] ≠ l[j] := by
  rcases Nat.lt_or_ge i j with h1 | h1
  · exact List.pairwise_iff_getElem.1 h i j hi hj h1
  · exact fun e => List.pairwise_iff_getElem.1 h j i hj hi (by omega) e.symm
/-- A leaf's entries are others that lie there too. -/
theorem Idx.set {r : Root} {f : Int → Lf} (h : Idx r f) {i : Nat} (hi : i < r.2.length) {es : List Txt} (h1 : es.length ≤ 4) (h2 : riseL es = true) (h3 : ∀ x ∈ es, atN r.1 x = i) : Idx r (upd f (r.2[i], es, false)) := by
  refine ⟨h.root, fun j hj => ?_⟩
  have hn := (rootB_iff.1 h.root).2.2.2
  by_cases e : j = i
  · subst e
    simp only [upd, if_true]
    exact ⟨lfB_iff.2 ⟨rfl, h1, h2⟩, trivial, h3⟩
  · have : ¬ r.2[j] = r.2[i] := nodup_ne hn hj hi e
    simp only [upd, this, if_false]
    exact h.leaf j hj
/-! ### How many separators lie at or below a text -/
theorem atN_ins (l : List Txt) (i : Nat) (x s : Txt) : atN (insL l i x) s = atN l s + (if tlt s x then 0 else 1) := by
  unfold atN insL
  conv => rhs; rw [← List.take_append_drop i l]
  simp only [List.filter_append, List.filter_cons, List.length_append]
  cases h : tlt s x <;> simp [h] <;> omega
theorem atN_mono {l : List Txt} {a b : Txt} (h : tlt a b = true) : atN l a ≤ atN l b := by
  unfold atN
  induction l with
  | nil => exact Nat.le_refl _
  | cons x l ih =>
    simp only [List.filter_cons]
    have key : tlt a x = false → tlt b x = false := fun h1 => by
      cases h2 : tlt b x with
      | false => rfl
      | true => rw [tlt_trans h h2] at h1; cases h1
    cases h1 : tlt a x with
    | true =>
      cases h2 : tlt b x with
      | true => simpa [h1, h2] using ih
      | false => simp [h1, h2]; omega
    | false =>
      rw [key h1]
      simpa [h1] using ih
theorem atN_le_of {l : List Txt} {a b : Txt} (h : tlt b a = false) : atN l a ≤ atN l b := by
  rcases tlt_total a b with h1 | h1 | h1
  · exact atN_mono h1
  · rw [h1]; exact Nat.le_refl _
  · rw [h] at h1; cases h1
theorem atN_le_posN {l : List Txt} {a b : Txt} (h : tlt a b = true) : atN l a ≤ posN l b := by
  unfold atN posN
  induction l with
  | nil => exact Nat.le_refl _
  | cons x l ih =>
    simp only [List.filter_cons]
    have key : tlt a x = false → tlt x b = true := fun h1 => by
      rcases tlt_total x a with h2 | h2 | h2
      · exact tlt_trans h2 h
      · rw [h2]; exact h
      · rw [h1] at h2; cases h2
    cases h1 : tlt a x with
    | true =>
      cases h2 : tlt x b with
      | true => simp [h1, h2]; omega
      | false => simpa [h1, h2] using ih
    | false =>
      rw [key h1]
      simpa [h1] using ih
/-- A leaf's fourth entry is no separator yet. -/
theorem sep_new {l es : List Txt} {i : Nat} (hl : riseL l = true) (he : riseL es = true) (h3 : 3 < es.length) (hat : ∀ x ∈ es, atN l x = i) : l.contains es[3] = false := by
  cases hc : l.contains es[3] with
  | false => rfl
  | true =>
    have e := atN_pos hl es[3]
    rw [hc, hat _ (List.getElem_mem h3)] at e
    have h0 : tlt es[0] es[3] = true := riseL_get he (by omega) h3
    have := atN_le_posN (l := l) h0
    rw [hat _ (List.getElem_mem (by omega))] at this
    simp only [if_true] at e
    omega
/-- Where a leaf is split, the separators go on rising. -/
theorem sep_rise {l es : List Txt} {i : Nat} (hl : riseL l = true) (he : riseL es = true) (h3 : 3 < es.length) (hat : ∀ x ∈ es, atN l x = i) : riseL (insL l i es[3]) = true := by
  have hc := sep_new hl he h3 hat
  have e := atN_pos hl es[3]
  rw [hc, hat _ (List.getElem_mem h3)] at e
  have e : i = posN l es[3] := e
  rw [e]
  exact rise_ins hl hc
theorem nodup_insL {l : List Int} (h : l.Nodup) (i : Nat) {x : Int} (hx : x ∉ l) : (insL l i x).Nodup := by
  unfold insL
  rw [← List.take_append_drop i l] at h
  have h' := List.pairwise_append.1 h
  refine List.pairwise_append.2 ⟨h'.1, List.pairwise_cons.2 ⟨fun y hy e => hx (by rw [e]; exact List.mem_of_mem_drop hy), h'.2.1⟩, fun a ha b hb => ?_⟩
  rcases List.mem_cons.1 hb with rfl | hb
  · exact fun e => hx (by rw [← e]; exact List.mem_of_mem_take ha)
  · exact h'.2.2 a ha b hb
theorem root_ins {r : Root} (h : rootB r = true) {i : Nat} (hi : i < r.2.length) {x : Txt} (hr : riseL (insL r.1 i x) = true) : rootB (insL r.1 i x, insL r.2 (i + 1) (freeN r.2 : Int)) = true := by
  obtain ⟨g1, g2, g3, g4⟩ := rootB_iff.1 h
  obtain ⟨f1, f2, f3⟩ := freeN_spec r.2
  refine rootB_iff.2 ⟨?_, hr, fun n hn => ?_, nodup_insL g4 _ f2⟩
  · show (insL r.2 (i + 1) (freeN r.2 : Int)).length = (insL r.1 i x).length + 1
    rw [insL_length _ _ _ (by omega), insL_length _ _ _ (by omega)]
    omega
  · rcases (mem_insL _ _ _ _).1 hn with h5 | h5
    · omega
    · exact g3 n h5
theorem insL_get {α : Type} {l : List α} {p : Nat} (x : α) (h : p ≤ l.length) (j : Nat) : (insL l p x)[j]? = if j < p then l[j]? else if j = p then some x else l[j - 1]? := by
  unfold insL
  by_cases h1 : j < p
  · rw [if_pos h1, List.getElem?_append_left (by simp; omega), List.getElem?_take, if_pos h1]
  · rw [if_neg h1, List.getElem?_append_right (by simp; omega), List.length_take, Nat.min_eq_left h]
    by_cases h2 : j = p
    · subst h2; simp
    · rw [if_neg h2]
      obtain ⟨k, rfl⟩ : ∃ k, j = p + 1 + k := ⟨j - p - 1, by omega⟩
      rw [show p + 1 + k - p = k + 1 by omega, List.getElem?_cons_succ, List.getElem?_drop, show p + 1 + k - 1 = p + k by omega]
/-- A leaf of five entries is split. -/
theorem Idx.split {r : Root} {f : Int → Lf} (h : Idx r f) {i : Nat} (hi : i < r.2.length) {es : List Txt} (h5 : es.length = 5) (he : riseL es = true) (hat : ∀ x ∈ es, atN r.1 x = i) :
    Idx (insL r.1 i (es[3]'(by omega)), insL r.2 (i + 1) (freeN r.2 : Int)) (upd (upd f (r.2[i], es.take 3, false)) ((freeN r.2 : Int), es.drop 3, false)) := by
  obtain ⟨g1, g2, g3, g4⟩ := rootB_iff.1 h.root
  obtain ⟨f1, f2, f3⟩ := freeN_spec r.2
  have hr := sep_rise g2 he (by omega) hat
  have hsep : atN r.1 (es[3]'(by omega)) = i := hat _ (List.getElem_mem _)
  refine ⟨root_ins h.root hi hr, fun j hj => ?_⟩
  have hg := insL_get (l := r.2) (p := i + 1) (freeN r.2 : Int) (by omega) j
  have hj' : j < (insL r.2 (i + 1) (freeN r.2 : Int)).length := hj
  have hjl : j < r.2.length + 1 := by rw [insL_length _ _ _ (by omega)] at hj'; exact hj'
  rw [List.getElem?_eq_getElem hj'] at hg
  have hatI : ∀ x, atN (insL r.1 i (es[3]'(by omega))) x = atN r.1 x + (if tlt x (es[3]'(by omega)) then 0 else 1) := fun x => atN_ins _ _ _ _
  show lfB (upd (upd f (r.2[i], es.take 3, false)) ((freeN r.2 : Int), es.drop 3, false) (insL r.2 (i + 1) (freeN r.2 : Int))[j]) = true ∧ (upd (upd f (r.2[i], es.take 3, false)) ((freeN r.2 : Int), es.drop 3, false) (insL r.2 (i + 1) (freeN r.2 : Int))[j]).1 = (insL r.2 (i + 1) (freeN r.2 : Int))[j] ∧
    ∀ s ∈ (upd (upd f (r.2[i], es.take 3, false)) ((freeN r.2 : Int), es.drop 3, false) (insL r.2 (i + 1) (freeN r.2 : Int))[j]).2.1, atN (insL r.1 i (es[3]'(by omega))) s = j
  generalize (insL r.2 (i + 1) (freeN r.2 : Int))[j] = n at hg ⊢
  by_cases c1 : j < i + 1
  · rw [if_pos c1, List.getElem?_eq_getElem (show j < r.2.length by omega)] at hg
    obtain rfl : n = r.2[j] := Option.some.inj hg
    have hne : ¬ r.2[j] = (freeN r.2 : Int) := fun e => f2 (by rw [← e]; exact List.getElem_mem _)
    by_cases c2 : j = i
    · subst c2
      simp only [upd, hne, if_false, if_true]
      refine ⟨lfB_iff.2 ⟨rfl, by simp; omega, riseL_sub (List.take_sublist _ _) he⟩, trivial, fun x hx => ?_⟩
      obtain ⟨k, hk, e⟩ := List.mem_take_iff_getElem.1 hx
      have hlt : tlt x (es[3]'(by omega)) = true := by rw [← e]; exact riseL_get he (by omega) _
      rw [hatI, hlt, hat x (List.mem_of_mem_take hx)]; rfl
    · have hne2 : ¬ r.2[j] = r.2[i] := nodup_ne g4 _ hi c2
      simp only [upd, hne, hne2, if_false]
      obtain ⟨a1, a2, a3⟩ := h.leaf j (by omega)
      refine ⟨a1, a2, fun x hx => ?_⟩
      have hx3 := a3 x hx
      have hlt : tlt x (es[3]'(by omega)) = true := by
        cases hc : tlt x (es[3]'(by omega)) with
        | true => rfl
        | false => have := atN_le_of (l := r.1) hc; omega
      rw [hatI, hlt, hx3]; rfl
  · rw [if_neg c1] at hg
    by_cases c2 : j = i + 1
    · rw [if_pos c2] at hg
      obtain rfl : n = (freeN r.2 : Int) := Option.some.inj hg
      simp only [upd, if_true]
      refine ⟨lfB_iff.2 ⟨rfl, by simp; omega, riseL_sub (List.drop_sublist _ _) he⟩, trivial, fun x hx => ?_⟩
      obtain ⟨k, hk, e⟩ := List.getElem_of_mem hx
      rw [List.getElem_drop] at e
      rw [List.length_drop] at hk
      have hlt : tlt x (es[3]'(by omega)) = false := by
        rw [← e]
        rcases Nat.lt_or_ge 0 k with h6 | h6
        · exact tlt_asymm (riseL_get he (by omega) (by omega))
        · obtain rfl : k = 0 := by omega
          exact tlt_irrefl _
      rw [hatI, hlt, hat x (List.mem_of_mem_drop hx), c2]; rfl
    · rw [if_neg c2, List.getElem?_eq_getElem (show j - 1 < r.2.length by omega)] at hg
      obtain rfl : n = r.2[j - 1] := Option.some.inj hg
      have hne : ¬ r.2[j - 1] = (freeN r.2 : Int) := fun e => f2 (by rw [← e]; exact List.getElem_mem _)
      have hne2 : ¬ r.2[j - 1] = r.2[i] := nodup_ne g4 _ hi (by omega)
      simp only [upd, hne, hne2, if_false]
      obtain ⟨a1, a2, a3⟩ := h.leaf (j - 1) (by omega)
      refine ⟨a1, a2, fun x hx => ?_⟩
      have hx3 := a3 x hx
      have hlt : tlt x (es[3]'(by omega)) = false := by
        cases hc : tlt x (es[3]'(by omega)) with
        | false => rfl
        | true => have := atN_mono (l := r.1) hc; omega
      rw [hatI, hlt, hx3]
      show j - 1 + 1 = j
      omega
theorem Idx.set_has {r : Root} {f : Int → Lf} (h : Idx r f) {i : Nat} (hi : i < r.2.length) {es : List Txt} (h' : Idx r (upd f (r.2[i], es, false))) (x : Txt) :
    Idx.has r (upd f (r.2[i], es, false)) x ↔ if atN r.1 x = i then x ∈ es else Idx.has r f x := by
  have hn := (rootB_iff.1 h.root).2.2.2
  have hlt := h.at_lt x
  rw [h'.has_iff, h.find x]
  by_cases e : atN r.1 x = i
  · rw [if_pos e]
    have : r.2[atN r.1 x] = r.2[i] := by simp only [e]
    rw [this]
    simp only [upd, if_true]
  · rw [if_neg e]
    have hne : ¬ r.2[atN r.1 x] = r.2[i] := nodup_ne hn hlt hi e
    rw [h.has_iff, h.find x]
    simp only [upd, hne, if_false]
/-- A text is laid where there is room. -/
theorem Idx.ins_room {r : Root} {f : Int → Lf} (h : Idx r f) {s : Txt} (hs : s.length ≤ 600) (hc : (f (findN r s)).2.1.contains s = false)
    (hr : (insL (f (findN r s)).2.1 (posN (f (findN r s)).2.1 s) s).length ≤ 4) :
    insN r (f (findN r s)) s = (r, [(findN r s, insL (f (findN r s)).2.1 (posN (f (findN r s)).2.1 s) s, false)], 0) ∧
      Idx r (upd f (findN r s, insL (f (findN r s)).2.1 (posN (f (findN r s)).2.1 s) s, false)) ∧
      ∀ x, Idx.has r (upd f (findN r s, insL (f (findN r s)).2.1 (posN (f (findN r s)).2.1 s) s, false)) x ↔ x = s ∨ Idx.has r f x := by
  have ho := h.own s
  have hlt := h.at_lt s
  have hf := h.find s
  obtain ⟨a1, a2, a3⟩ := h.leaf _ hlt
  have hno : (f (findN r s)).1 = findN r s := by rw [hf]; exact a2
  have h6 : ¬ 600 < s.length := by omega
  have hri : riseL (insL (f (findN r s)).2.1 (posN (f (findN r s)).2.1 s) s) = true := rise_ins (lfB_iff.1 (ownB_iff.1 ho).1).2.2 hc
  have hat : ∀ x ∈ insL (f (findN r s)).2.1 (posN (f (findN r s)).2.1 s) s, atN r.1 x = atN r.1 s := fun x hx => by
    rcases (mem_insL _ _ _ _).1 hx with rfl | hx
    · rfl
    · rw [hf] at hx; exact a3 x hx
  have e : insN r (f (findN r s)) s = (r, [(findN r s, insL (f (findN r s)).2.1 (posN (f (findN r s)).2.1 s) s, false)], 0) := by
    simp only [insN, ho, h6, hc, hr, hno, if_true, if_false]; rfl
  have hI := h.set hlt hr hri hat
  rw [← hf] at hI
  refine ⟨e, hI, fun x => ?_⟩
  have hI2 := hI
  have hh := fun es => Idx.set_has h hlt (es := es) (x := x)
  rw [← hf] at hh
  rw [hh _ hI2]
  by_cases ex : atN r.1 x = atN r.1 s
  · rw [if_pos ex, mem_insL, h.has_iff]
    have : findN r x = findN r s := by rw [h.find x, hf]; simp only [ex]
    rw [this]
  · rw [if_neg ex]
    constructor
    · exact .inr
    · rintro (rfl | hx)
      · exact (ex rfl).elim
      · exact hx
theorem Idx.split_has {r : Root} {f : Int → Lf} (h : Idx r f) {i : Nat} (hi : i < r.2.length) {es : List Txt} (h5 : es.length = 5) (he : riseL es = true) (hat : ∀ x ∈ es, atN r.1 x = i) (x : Txt) :
    Idx.has (insL r.1 i (es[3]'(by omega)), insL r.2 (i + 1) (freeN r.2 : Int)) (upd (upd f (r.2[i], es.take 3, false)) ((freeN r.2 : Int), es.drop 3, false)) x ↔ if atN r.1 x = i then x ∈ es else Idx.has r f x := by
  have h' := h.split hi h5 he hat
  obtain ⟨g1, g2, g3, g4⟩ := rootB_iff.1 h.root
  obtain ⟨f1, f2, f3⟩ := freeN_spec r.2
  have hsep : atN r.1 (es[3]'(by omega)) = i := hat _ (List.getElem_mem _)
  have hatI : ∀ x, atN (insL r.1 i (es[3]'(by omega))) x = atN r.1 x + (if tlt x (es[3]'(by omega)) then 0 else 1) := fun x => atN_ins _ _ _ _
  have hlt := h.at_lt x
  have hn := h'.find x
  have hl' := h'.at_lt x
  rw [h'.has_iff, hn]
  have hg := insL_get (l := r.2) (p := i + 1) (freeN r.2 : Int) (by omega) (atN (insL r.1 i (es[3]'(by omega))) x)
  rw [List.getElem?_eq_getElem (show _ < (insL r.2 (i + 1) (freeN r.2 : Int)).length from hl')] at hg
  show x ∈ (upd (upd f (r.2[i], es.take 3, false)) ((freeN r.2 : Int), es.drop 3, false) ((insL r.2 (i + 1) (freeN r.2 : Int))[atN (insL r.1 i (es[3]'(by omega))) x]'hl')).2.1 ↔ _
  generalize (insL r.2 (i + 1) (freeN r.2 : Int))[atN (insL r.1 i (es[3]'(by omega))) x]'hl' = n at hg ⊢
  have hx := hatI x
  have hmem : x ∈ es ↔ x ∈ es.take 3 ∨ x ∈ es.drop 3 := by
    conv => lhs; rw [← List.take_append_drop 3 es]
    rw [List.mem_append]
  have htk : x ∈ es.take 3 → tlt x (es[3]'(by omega)) = true := fun hx => by
    obtain ⟨k, hk, e⟩ := List.mem_take_iff_getElem.1 hx
    rw [← e]; exact riseL_get he (by omega) _
  have hdk : x ∈ es.drop 3 → tlt x (es[3]'(by omega)) = false := fun hx => by
    obtain ⟨k, hk, e⟩ := List.getElem_of_mem hx
    rw [List.getElem_drop] at e
    rw [List.length_drop] at hk
    rw [← e]
    rcases Nat.lt_or_ge 0 k with h6 | h6
    · exact tlt_asymm (riseL_get he (by omega) (by omega))
    · obtain rfl : k = 0 := by omega
      exact tlt_irrefl _
  have old : ∀ k (hk : k < r.2.length), k ≠ i → n = r.2[k] → atN r.1 x = k → (x ∈ (upd (upd f (r.2[i], es.take 3, false)) ((freeN r.2 : Int), es.drop 3, false) n).2.1 ↔ Idx.has r f x) := fun k hk hki hnk hkx => by
    have hne : ¬ r.2[k] = (freeN r.2 : Int) := fun e => f2 (by rw [← e]; exact List.getElem_mem _)
    have hne2 : ¬ r.2[k] = r.2[i] := nodup_ne g4 _ hi hki
    rw [h.has_iff, h.find x, hnk]
    simp only [upd, hne, hne2, if_false, hkx]
  cases hc : tlt x (es[3]'(by omega)) with
  | true =>
    rw [hc] at hx
    have hx : atN (insL r.1 i (es[3]'(by omega))) x = atN r.1 x := hx
    have hle : atN r.1 x ≤ i := by rw [← hsep]; exact atN_mono hc
    rw [hx, if_pos (by omega), List.getElem?_eq_getElem hlt] at hg
    have hnk : n = r.2[atN r.1 x] := Option.some.inj hg
    by_cases e : atN r.1 x = i
    · rw [if_pos e]
      have hne : ¬ r.2[i] = (freeN r.2 : Int) := fun e => f2 (by rw [← e]; exact List.getElem_mem _)
      have hni : n = r.2[i] := by rw [hnk]; simp only [e]
      rw [hni]
      simp only [upd, hne, if_false, if_true]
      rw [hmem]
      exact ⟨.inl, fun h => h.elim id fun h => by rw [hdk h] at hc; cases hc⟩
    · rw [if_neg e]
      exact old _ hlt e hnk rfl
  | false =>
    rw [hc] at hx
    have hx : atN (insL r.1 i (es[3]'(by omega))) x = atN r.1 x + 1 := hx
    have hle : i ≤ atN r.1 x := by rw [← hsep]; exact atN_le_of hc
    rw [hx, if_neg (by omega)] at hg
    by_cases e : atN r.1 x = i
    · rw [if_pos e]
      rw [if_pos (by omega)] at hg
      obtain rfl : n = (freeN r.2 : Int) := Option.some.inj hg
      simp only [upd, if_true]
      rw [hmem]
      exact ⟨.inr, fun h => h.elim (fun h => by rw [htk h] at hc; cases hc) id⟩
    · rw [if_neg e]
      rw [if_neg (by omega), Nat.add_sub_cancel, List.getElem?_eq_getElem hlt] at hg
      exact old _ hlt e (Option.some.inj hg) rfl
/-- A text is laid where there is no room. -/
theorem Idx.ins_full {r : Root} {f : Int → Lf} (h : Idx r f) {s : Txt} (hs : s.length ≤ 600) (hc : (f (findN r s)).2.1.contains s = false) {es : List Txt}
    (hes : es = insL (f (findN r s)).2.1 (posN (f (findN r s)).2.1 s) s) (hr : ¬ es.length ≤ 4) :
    ∃ r' : Root, insN r (f (findN r s)) s = (r', [(findN r s, es.take 3, false), ((freeN r.2 : Int), es.drop 3, false)], 0) ∧
      Idx r' (upd (upd f (findN r s, es.take 3, false)) ((freeN r.2 : Int), es.drop 3, false)) ∧
      ∀ x, Idx.has r' (upd (upd f (findN r s, es.take 3, false)) ((freeN r.2 : Int), es.drop 3, false)) x ↔ x = s ∨ Idx.has r f x := by
  have ho := h.own s
  have hlt := h.at_lt s
  have hf := h.find s
  obtain ⟨a1, a2, a3⟩ := h.leaf _ hlt
  have hno : (f (findN r s)).1 = findN r s := by rw [hf]; exact a2
  have h6 : ¬ 600 < s.length := by omega
  have hl4 := (lfB_iff.1 (ownB_iff.1 ho).1).2.1
  have hri : riseL es = true := by rw [hes]; exact rise_ins (lfB_iff.1 (ownB_iff.1 ho).1).2.2 hc
  have h5 : es.length = 5 := by
    have := insL_length (f (findN r s)).2.1 (posN (f (findN r s)).2.1 s) s (posN_le _ _)
    rw [← hes] at this
    omega
  have hmem : ∀ x, x ∈ es ↔ x = s ∨ x ∈ (f (findN r s)).2.1 := fun x => by rw [hes]; exact mem_insL _ _ _ _
  have hat : ∀ x ∈ es, atN r.1 x = atN r.1 s := fun x hx => by
    rcases (hmem x).1 hx with rfl | hx
    · rfl
    · rw [hf] at hx; exact a3 x hx
  have hgd : es.getD 3 [] = es[3]'(by omega) := by simp [List.getD_eq_getElem?_getD, h5]
  have hI := h.split hlt h5 hri hat
  have hH := h.split_has hlt h5 hri hat
  rw [← hf] at hI
  simp only [← hf] at hH
  refine ⟨_, ?_, hI, fun x => ?_⟩
  · have hr' : ¬ (insL (f (findN r s)).2.1 (posN (f (findN r s)).2.1 s) s).length ≤ 4 := by rw [← hes]; exact hr
    rw [← hgd]
    simp only [insN, ho, h6, hc, hno, if_true, if_false, ← hes, hr, Bool.false_eq_true]
  · rw [hH x]
    by_cases ex : atN r.1 x = atN r.1 s
    · rw [if_pos ex, hmem, h.has_iff]
      have : findN r x = findN r s := by rw [h.find x, hf]; simp only [ex]
      rw [this]
    · rw [if_neg ex]
      constructor
      · exact .inr
      · rintro (rfl | hx)
        · exact (ex rfl).elim
        · exact hx
end Go.AL
