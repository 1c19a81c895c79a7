/-
  Seat 10 (chunk): chains: what laying, taking out and applying do to them (plain).
-/
import Derived.Test.YtjdjecaclbdhhaaCm
namespace Go.AL
set_option linter.unusedSimpArgs false
set_option linter.unusedVariables false

/-! ### Numbers that rise -/
theorem riseF_iff (a : Int) : ∀ l : List Int, riseF a l = true ↔ (∀ x ∈ l, a < x) ∧ l.Pairwise (· < ·)
  | [] => by simp [riseF]
  | x :: r => by
    simp only [riseF, Bool.and_eq_true, decide_eq_true_eq, riseF_iff x r, List.mem_cons, List.pairwise_cons]
    constructor
    · rintro ⟨h1, h2, h3⟩
      exact ⟨fun y hy => hy.elim (fun e => by rw [e]; exact h1) fun hy => Int.lt_trans h1 (h2 y hy), h2, h3⟩
    · rintro ⟨h1, h2, h3⟩
      exact ⟨h1 x (.inl rfl), h2, h3⟩
theorem riseF_append (l m : List Int) : riseF (-1) (l ++ m) = (riseF (-1) l && riseF (lastI l) m) := by
  rw [Bool.eq_iff_iff, Bool.and_eq_true, riseF_iff, riseF_iff, riseF_iff, List.pairwise_append]
  constructor
  · rintro ⟨h1, h2, h3, h4⟩
    refine ⟨⟨fun x hx => h1 x (List.mem_append_left _ hx), h2⟩, fun x hx => ?_, h3⟩
    unfold lastI
    rw [List.getLastD_eq_getLast?]
    cases e : l.getLast? with
    | none => exact h1 x (List.mem_append_right _ hx)
    | some y => exact h4 y (List.mem_of_getLast? e) x hx
  · rintro ⟨⟨h1, h2⟩, h3, h4⟩
    have key : ∀ a ∈ l, ∀ b ∈ m, a < b := fun a ha b hb => by
      have h5 := h3 b hb
      unfold lastI at h5
      rw [List.getLastD_eq_getLast?] at h5
      cases e : l.getLast? with
      | none => rw [List.getLast?_eq_none_iff] at e; rw [e] at ha; cases ha
      | some y =>
        rw [e] at h5
        have h5 : y < b := h5
        have hl : l ≠ [] := fun h => by rw [h] at ha; cases ha
        rw [List.getLast?_eq_some_getLast hl] at e
        have e := Option.some.inj e
        have : a = y ∨ a < y := by
          rw [← List.dropLast_concat_getLast hl] at ha h2
          rw [e] at ha h2
          rcases List.mem_append.1 ha with h | h
          · exact .inr ((List.pairwise_append.1 h2).2.2 a h y (by simp))
          · exact .inl (by simpa using h)
        omega
    refine ⟨fun x hx0 => ?_, h2, h4, key⟩
    rcases List.mem_append.1 hx0 with hx | hx
    · exact h1 x hx
    · cases l with
      | nil => simpa [lastI] using h3 x hx
      | cons y l =>
        have := key y (by simp) x hx
        have := h1 y (by simp)
        omega
/-! ### Chains out of their parts: numbers and ids -/
abbrev Pt := Int × List Int
def mkC : List Pt → List Ck
  | [] => []
  | x :: r => (x.1, x.2, (r.headD (0, [])).1, false) :: mkC r
def ptsC (l : List Ck) : List Pt := l.map fun c => (c.1, c.2.1)
def idsP (p : List Pt) : List Int := p.flatMap fun x => x.2
theorem mkC_length : ∀ p : List Pt, (mkC p).length = p.length
  | [] => rfl
  | x :: r => by simp [mkC, mkC_length r]
theorem mkC_get : ∀ (p : List Pt) (i : Nat) (h : i < p.length), (mkC p)[i]'(by rw [mkC_length]; exact h) = (p[i].1, p[i].2, (p.getD (i + 1) (0, [])).1, false)
  | [], i, h => by simp at h
  | x :: r, 0, h => by
    simp only [mkC, List.getElem_cons_zero]
    cases r <;> rfl
  | x :: r, i + 1, h => by
    simp only [mkC, List.getElem_cons_succ]
    rw [mkC_get r i (by simpa using h)]
    simp
theorem ptsC_mkC : ∀ p : List Pt, ptsC (mkC p) = p
  | [] => rfl
  | x :: r => by
    have := ptsC_mkC r
    simp only [ptsC, mkC, List.map_cons] at this ⊢
    rw [this]
theorem idsC_pts (l : List Ck) : idsC l = idsP (ptsC l) := by simp [idsC, idsP, ptsC, List.flatMap_map]
theorem nosC_pts (l : List Ck) : nosC l = (ptsC l).map (·.1) := by simp [nosC, ptsC]
theorem idsC_mkC (p : List Pt) : idsC (mkC p) = idsP p := by rw [idsC_pts, ptsC_mkC]
theorem nosC_mkC (p : List Pt) : nosC (mkC p) = p.map (·.1) := by rw [nosC_pts, ptsC_mkC]
/-- What holds of a chain's parts. -/
structure ChP (p : List Pt) : Prop where
  nod : (p.map (·.1)).Nodup
  pos : ∀ i (h : i < p.length), 0 ≤ p[i].1 ∧ (p[i].1 = 0 ↔ i = 0)
  len : ∀ i (h : i < p.length), p[i].2.length ≤ 4 ∧ (0 < i → p[i].2 ≠ [])
  ris : riseF (-1) (idsP p) = true
theorem idsP_take (p : List Pt) (i : Nat) (h : i < p.length) : idsP (p.take (i + 1)) = idsP (p.take i) ++ p[i].2 := by
  rw [List.take_add_one, List.getElem?_eq_getElem h]
  show List.flatMap _ (List.take i p ++ [p[i]]) = _
  rw [List.flatMap_append]
  simp [idsP]
theorem mkC_take (p : List Pt) (i : Nat) : ptsC ((mkC p).take i) = p.take i := by
  have : ptsC ((mkC p).take i) = (ptsC (mkC p)).take i := by simp [ptsC, List.map_take]
  rw [this, ptsC_mkC]
theorem idsC_take (p : List Pt) (i : Nat) : idsC ((mkC p).take i) = idsP (p.take i) := by
  rw [idsC_pts, mkC_take]
theorem nosC_take (p : List Pt) (i : Nat) : nosC ((mkC p).take i) = (p.take i).map (·.1) := by
  rw [nosC_pts, mkC_take]
theorem getD_mkC (p : List Pt) (i : Nat) (h : i < p.length) : (mkC p).getD i ck0 = (p[i].1, p[i].2, (p.getD (i + 1) (0, [])).1, false) := by
  rw [List.getD_eq_getElem?_getD, List.getElem?_eq_getElem (by rw [mkC_length]; exact h), mkC_get p i h]; rfl
theorem nextC_mkC (p : List Pt) (i : Nat) : nextC (mkC p) i = (p.getD (i + 1) (0, [])).1 := by
  unfold nextC
  by_cases h : i + 1 < p.length
  · rw [getD_mkC p _ h]
    show p[i + 1].1 = _
    rw [List.getD_eq_getElem?_getD, List.getElem?_eq_getElem h]; rfl
  · rw [List.getD_eq_getElem?_getD, List.getElem?_eq_none (by rw [mkC_length]; omega), List.getD_eq_getElem?_getD, List.getElem?_eq_none (by omega)]; rfl
theorem rise_take {p : List Pt} (h : ∀ i (hi : i < p.length), riseF (lastI (idsP (p.take i))) p[i].2 = true) : ∀ k, k ≤ p.length → riseF (-1) (idsP (p.take k)) = true
  | 0, _ => rfl
  | k + 1, hk => by
    rw [idsP_take p k (by omega), riseF_append, rise_take h k (by omega), h k (by omega)]; rfl
theorem take_nodup {l : List Int} : (∀ i (h : i < l.length), l[i] ∉ l.take i) → l.Nodup := fun h => by
  rw [List.nodup_iff_pairwise_ne, List.pairwise_iff_getElem]
  intro i j hi hj hij e
  exact h j hj (List.mem_take_iff_getElem.2 ⟨i, by omega, e⟩)
/-- Which chains are right. -/
theorem right_mkC (p : List Pt) : rightC (mkC p) = true ↔ ChP p := by
  have hok : ∀ i (hi : i < p.length), okC (mkC p) i = true ↔ 0 ≤ p[i].1 ∧ p[i].1 ∉ (p.take i).map (·.1) ∧ (p[i].1 = 0 ↔ i = 0) ∧ p[i].2.length ≤ 4 ∧ (0 < i → p[i].2 ≠ []) ∧ riseF (lastI (idsP (p.take i))) p[i].2 = true := fun i hi => by
    simp only [okC, decide_eq_true_eq, getD_mkC p i hi, nextC_mkC, idsC_take, nosC_take, true_and]
  have hall : rightC (mkC p) = true ↔ ∀ i (hi : i < p.length), okC (mkC p) i = true := by
    simp only [rightC, decide_eq_true_eq, mkC_length]
  rw [hall]
  constructor
  · intro h
    refine ⟨?_, fun i hi => ?_, fun i hi => ?_, ?_⟩
    · refine take_nodup fun i hi => ?_
      have hi' : i < p.length := by simpa using hi
      have := ((hok i hi').1 (h i hi')).2.1
      rw [List.getElem_map, ← List.map_take]
      exact this
    · have := (hok i hi).1 (h i hi); exact ⟨this.1, this.2.2.1⟩
    · have := (hok i hi).1 (h i hi); exact ⟨this.2.2.2.1, this.2.2.2.2.1⟩
    · have := rise_take (p := p) (fun i hi => ((hok i hi).1 (h i hi)).2.2.2.2.2) p.length (Nat.le_refl _)
      rwa [List.take_length] at this
  · intro h i hi
    refine (hok i hi).2 ⟨(h.pos i hi).1, fun hm => ?_, (h.pos i hi).2, (h.len i hi).1, (h.len i hi).2, ?_⟩
    · obtain ⟨x, hx, e⟩ := List.mem_map.1 hm
      obtain ⟨j, hj, e2⟩ := List.mem_take_iff_getElem.1 hx
      have hn := List.pairwise_iff_getElem.1 (List.nodup_iff_pairwise_ne.1 h.nod) j i (by simp; omega) (by simpa using hi) (by omega)
      rw [List.getElem_map, List.getElem_map, e2] at hn
      exact hn e
    · have hr := h.ris
      have e : idsP p = idsP (p.take i) ++ (p[i].2 ++ idsP (p.drop (i + 1))) := by
        conv => lhs; rw [← List.take_append_drop i p, List.drop_eq_getElem_cons hi]
        unfold idsP
        rw [List.flatMap_append, List.flatMap_cons]
      rw [e, riseF_append, Bool.and_eq_true] at hr
      have h2 := (riseF_iff _ _).1 hr.2
      refine (riseF_iff _ _).2 ⟨fun x hx => h2.1 x (List.mem_append_left _ hx), (List.pairwise_append.1 h2.2).1⟩
/-- A right chain is one out of its parts. -/
theorem right_pts {l : List Ck} (h : rightC l = true) : l = mkC (ptsC l) := by
  have h : ∀ i, i < l.length → okC l i = true := by simpa [rightC] using h
  have hpl : (ptsC l).length = l.length := by simp [ptsC]
  apply List.ext_getElem
  · rw [mkC_length, hpl]
  · intro i h1 h2
    have hk := h i h1
    simp only [okC, decide_eq_true_eq] at hk
    have hg : l.getD i ck0 = l[i] := by simp [List.getD_eq_getElem?_getD, h1]
    rw [hg] at hk
    rw [mkC_get _ i (by rw [hpl]; exact h1)]
    have e1 : (ptsC l)[i]'(by rw [hpl]; exact h1) = (l[i].1, l[i].2.1) := by simp [ptsC]
    have e2 : ((ptsC l).getD (i + 1) (0, [])).1 = nextC l i := by
      unfold nextC
      by_cases h3 : i + 1 < l.length
      · have : (ptsC l)[i + 1]? = some (l[i + 1].1, l[i + 1].2.1) := by simp [ptsC, h3]
        rw [List.getD_eq_getElem?_getD, this, List.getD_eq_getElem?_getD, List.getElem?_eq_getElem h3]; rfl
      · rw [List.getD_eq_getElem?_getD, List.getElem?_eq_none (by rw [hpl]; omega), List.getD_eq_getElem?_getD, List.getElem?_eq_none (by omega)]; rfl
    rw [e1, e2, ← hk.2.1, ← hk.1]
theorem ChP.pts {l : List Ck} (h : rightC l = true) : ChP (ptsC l) := by
  have := right_pts h
  rw [this] at h
  exact (right_mkC _).1 h
end Go.AL
