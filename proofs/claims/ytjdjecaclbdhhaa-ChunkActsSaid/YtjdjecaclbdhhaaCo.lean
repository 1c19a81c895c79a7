/-
  Seat 10 (chunk): what laying, taking out and applying do to a chain (plain).
-/
import Derived.Test.YtjdjecaclbdhhaaCn
namespace Go.AL
set_option linter.unusedSimpArgs false
set_option linter.unusedVariables false

/-! ### Numbers in order -/
def insS (l : List Int) (s : Int) : List Int := insL l (posI l s) s
theorem posI_app (a b : List Int) (s : Int) : posI (a ++ b) s = posI a s + posI b s := by simp [posI]
theorem posI_len (l : List Int) (s : Int) : posI l s ≤ l.length := List.length_filter_le _ _
theorem posI_all {a : List Int} {s : Int} (h : ∀ x ∈ a, x < s) : posI a s = a.length := by
  unfold posI
  rw [List.filter_eq_self.2 fun x hx => by simpa using h x hx]
theorem posI_none {a : List Int} {s : Int} (h : ∀ x ∈ a, s < x) : posI a s = 0 := by
  unfold posI
  rw [List.filter_eq_nil_iff.2 fun x hx => by have := h x hx; simp; omega]; rfl
theorem insS_nil (s : Int) : insS [] s = [s] := rfl
theorem insS_cons (x : Int) (l : List Int) (s : Int) (hp : (x :: l).Pairwise (· < ·)) (hs : s ∉ x :: l) : insS (x :: l) s = if x < s then x :: insS l s else s :: x :: l := by
  by_cases h : x < s
  · rw [if_pos h]
    have e : posI (x :: l) s = posI l s + 1 := by simp [posI, h]
    simp [insS, insL, e]
  · rw [if_neg h]
    have e : posI (x :: l) s = 0 := posI_none fun y hy => by
      obtain ⟨h1, _⟩ := List.pairwise_cons.1 hp
      have hx : s ≠ x := fun e => hs (by simp [e])
      rcases List.mem_cons.1 hy with hy' | hy'
      · omega
      · have := h1 y hy'; omega
    simp [insS, insL, e]
theorem mem_insS (l : List Int) (s x : Int) : x ∈ insS l s ↔ x = s ∨ x ∈ l := by
  unfold insS insL
  generalize posI l s = n
  rw [List.mem_append, List.mem_cons]
  conv => rhs; rw [← List.take_append_drop n l, List.mem_append]
  constructor
  · rintro (h | h | h)
    · exact .inr (.inl h)
    · exact .inl h
    · exact .inr (.inr h)
  · rintro (h | h | h)
    · exact .inr (.inl h)
    · exact .inl h
    · exact .inr (.inr h)
theorem insS_length (l : List Int) (s : Int) : (insS l s).length = l.length + 1 := by
  have := posI_len l s
  unfold insS insL
  simp
  omega
theorem rise_insS : ∀ {l : List Int} {s : Int}, l.Pairwise (· < ·) → s ∉ l → (insS l s).Pairwise (· < ·)
  | [], s, _, _ => by simp [insS_nil]
  | x :: l, s, hp, hs => by
    rw [insS_cons x l s hp hs]
    obtain ⟨h1, h2⟩ := List.pairwise_cons.1 hp
    split
    · refine List.pairwise_cons.2 ⟨fun y hy => ?_, rise_insS h2 fun h => hs (List.mem_cons_of_mem _ h)⟩
      rcases (mem_insS l s y).1 hy with rfl | hy
      · assumption
      · exact h1 y hy
    · have hx : x ≠ s := fun e => hs (by simp [e])
      refine List.pairwise_cons.2 ⟨fun y hy => ?_, hp⟩
      rcases List.mem_cons.1 hy with rfl | hy
      · omega
      · have := h1 y hy; omega
theorem insS_app {A e B : List Int} {s : Int} (hA : ∀ x ∈ A, x < s) (hB : ∀ x ∈ B, s < x) : insS (A ++ (e ++ B)) s = A ++ (insS e s ++ B) := by
  unfold insS insL
  have hl := posI_len e s
  rw [posI_app, posI_app, posI_all hA, posI_none hB, Nat.add_zero, List.take_length_add_append, List.drop_length_add_append, List.take_append_of_le_length hl, List.drop_append_of_le_length hl]
  simp
def remS (l : List Int) (s : Int) : List Int := l.filter fun x => decide (x ≠ s)
theorem remS_none {l : List Int} {s : Int} (h : s ∉ l) : remS l s = l := List.filter_eq_self.2 fun x hx => by
  have : x ≠ s := fun e => h (e ▸ hx)
  simpa using this
theorem remS_app {A e B : List Int} {s : Int} (hA : s ∉ A) (hB : s ∉ B) : remS (A ++ (e ++ B)) s = A ++ (remS e s ++ B) := by
  have h1 := remS_none hA
  have h2 := remS_none hB
  unfold remS at *
  rw [List.filter_append, List.filter_append, h1, h2]
theorem remS_insS {l : List Int} {s : Int} (h : s ∉ l) : remS (insS l s) s = l := by
  unfold insS insL
  generalize posI l s = n
  have e : remS [s] s = [] := by simp [remS]
  have := remS_app (A := l.take n) (e := [s]) (B := l.drop n) (s := s) (fun hm => h (List.mem_of_mem_take hm)) (fun hm => h (List.mem_of_mem_drop hm))
  rw [e] at this
  simpa using this
theorem mem_remS (l : List Int) (s x : Int) : x ∈ remS l s ↔ x ∈ l ∧ x ≠ s := by simp [remS]
theorem rise_remS {l : List Int} {s : Int} (h : l.Pairwise (· < ·)) : (remS l s).Pairwise (· < ·) := List.Pairwise.sublist List.filter_sublist h
theorem rise_ext : ∀ {a b : List Int}, a.Pairwise (· < ·) → b.Pairwise (· < ·) → (∀ x, x ∈ a ↔ x ∈ b) → a = b
  | [], [], _, _, _ => rfl
  | [], y :: b, _, _, h => by have := (h y).2 (by simp); cases this
  | x :: a, [], _, _, h => by have := (h x).1 (by simp); cases this
  | x :: a, y :: b, ha, hb, h => by
    obtain ⟨a1, a2⟩ := List.pairwise_cons.1 ha
    obtain ⟨b1, b2⟩ := List.pairwise_cons.1 hb
    have hxy : x = y := by
      rcases List.mem_cons.1 ((h x).1 (by simp)) with h1 | h1
      · exact h1
      · rcases List.mem_cons.1 ((h y).2 (by simp)) with h2 | h2
        · exact h2.symm
        · have := a1 y h2; have := b1 x h1; omega
    subst hxy
    rw [rise_ext a2 b2 fun z => ?_]
    constructor
    · intro hz
      rcases List.mem_cons.1 ((h z).1 (List.mem_cons_of_mem _ hz)) with h1 | h1
      · have := a1 z hz; omega
      · exact h1
    · intro hz
      rcases List.mem_cons.1 ((h z).2 (List.mem_cons_of_mem _ hz)) with h1 | h1
      · have := b1 z hz; omega
      · exact h1

/-! ### Chains with what follows -/
def hdN (p : List Pt) (h : Int) : Int := match p with | [] => h | x :: _ => x.1
def mkN : List Pt → Int → List Ck
  | [], _ => []
  | x :: r, h => (x.1, x.2, hdN r h, false) :: mkN r h
theorem mkC_N : ∀ p : List Pt, mkC p = mkN p 0
  | [] => rfl
  | x :: r => by rw [mkC, mkN, mkC_N r]; cases r <;> rfl
theorem hdN_app (p q : List Pt) (h : Int) : hdN (p ++ q) h = hdN p (hdN q h) := by cases p <;> rfl
theorem mkN_app (p q : List Pt) (h : Int) : mkN (p ++ q) h = mkN p (hdN q h) ++ mkN q h := by
  induction p with
  | nil => rfl
  | cons x r ih => rw [List.cons_append, mkN, mkN, ih, hdN_app]; rfl
theorem nosC_mkN (p : List Pt) (h : Int) : nosC (mkN p h) = p.map (·.1) := by
  induction p with
  | nil => rfl
  | cons x r ih => rw [mkN, List.map_cons, ← ih]; rfl
theorem mkC_split (p1 : List Pt) (n : Int) (e : List Int) (p2 : List Pt) : mkC (p1 ++ (n, e) :: p2) = mkN p1 n ++ (n, e, hdN p2 0, false) :: mkC p2 := by
  rw [mkC_N, mkN_app, mkC_N]; rfl
theorem mkN_length (p : List Pt) (h : Int) : (mkN p h).length = p.length := by
  have := congrArg List.length (nosC_mkN p h)
  simpa [nosC] using this
theorem getD_split (p1 : List Pt) (n : Int) (e : List Int) (p2 : List Pt) : (mkC (p1 ++ (n, e) :: p2)).getD p1.length ck0 = (n, e, hdN p2 0, false) := by
  rw [mkC_split, List.getD_eq_getElem?_getD, List.getElem?_append_right (by rw [mkN_length]; exact Nat.le_refl _), mkN_length, Nat.sub_self]
  rfl
theorem idsP_app (p q : List Pt) : idsP (p ++ q) = idsP p ++ idsP q := List.flatMap_append
theorem idsP_cons (x : Pt) (q : List Pt) : idsP (x :: q) = x.2 ++ idsP q := rfl
theorem mem_idsP {p : List Pt} {x : Int} : x ∈ idsP p ↔ ∃ y ∈ p, x ∈ y.2 := by simp [idsP]

/-- What holds of a chain's parts, by its head and the others. -/
def goodT (r : List Pt) : Prop := ∀ x ∈ r, 0 < x.1 ∧ x.2 ≠ []
structure GoodC (p : List Pt) : Prop where
  nod : (p.map (·.1)).Nodup
  hd : ∀ x r, p = x :: r → x.1 = 0 ∧ goodT r
  len : ∀ x ∈ p, x.2.length ≤ 4
  ris : (idsP p).Pairwise (· < ·)
  nn : ∀ y ∈ idsP p, 0 ≤ y
theorem good_of {p : List Pt} (h : ChP p) : GoodC p := by
  obtain ⟨r1, r2⟩ := (riseF_iff _ _).1 h.ris
  refine ⟨h.nod, ?_, fun x hx => ?_, r2, fun y hy => by have := r1 y hy; omega⟩
  · rintro x r rfl
    refine ⟨((h.pos 0 (by simp)).2).2 rfl, fun y hy => ?_⟩
    obtain ⟨j, hj, rfl⟩ := List.getElem_of_mem hy
    have h1 := h.pos (j + 1) (by simpa using hj)
    have h2 := h.len (j + 1) (by simpa using hj)
    simp only [List.getElem_cons_succ] at h1 h2
    refine ⟨?_, h2.2 (by omega)⟩
    have : r[j].1 ≠ 0 := fun e => by have := h1.2.1 e; omega
    omega
  · obtain ⟨j, hj, rfl⟩ := List.getElem_of_mem hx
    exact (h.len j hj).1
theorem GoodC.chp {p : List Pt} (h : GoodC p) : ChP p := by
  refine ⟨h.nod, fun i hi => ?_, fun i hi => ⟨h.len _ (List.getElem_mem hi), fun h0 => ?_⟩, (riseF_iff _ _).2 ⟨fun x hx => by have := h.nn x hx; omega, h.ris⟩⟩
  · cases p with
    | nil => simp at hi
    | cons x r =>
      obtain ⟨h1, h2⟩ := h.hd x r rfl
      cases i with
      | zero => simp [h1]
      | succ i =>
        have hi' : i < r.length := by simpa using hi
        have := (h2 r[i] (List.getElem_mem hi')).1
        simp only [List.getElem_cons_succ]
        omega
  · cases p with
    | nil => simp at hi
    | cons x r =>
      obtain ⟨h1, h2⟩ := h.hd x r rfl
      cases i with
      | zero => omega
      | succ i =>
        have hi' : i < r.length := by simpa using hi
        exact (h2 r[i] (List.getElem_mem hi')).2
theorem good_nil : GoodC [] := ⟨by simp, by simp, by simp, by simp [idsP], by simp [idsP]⟩
theorem GoodC.right {p : List Pt} (h : GoodC p) : rightC (mkC p) = true := (right_mkC p).2 h.chp
theorem good_right {l : List Ck} (h : rightC l = true) : ∃ p, GoodC p ∧ l = mkC p := ⟨ptsC l, good_of (.pts h), right_pts h⟩
theorem GoodC.short {p : List Pt} (h : GoodC p) : p.length ≤ (idsP p).length + 1 := by
  cases p with
  | nil => simp
  | cons x r =>
    have h2 := (h.hd x r rfl).2
    clear h
    have : r.length ≤ (idsP r).length := by
      induction r with
      | nil => simp
      | cons y r ih =>
        have := ih fun z hz => h2 z (List.mem_cons_of_mem _ hz)
        have h3 := List.length_pos_iff.2 (h2 y (by simp)).2
        rw [idsP_cons, List.length_append, List.length_cons]
        omega
    rw [idsP_cons, List.length_append, List.length_cons]
    omega

/-! ### The place of an id -/
def isP (id : Int) (c : Ck) : Prop := c.2.1 ≠ [] ∧ c.2.1.getD 0 0 ≤ id
theorem placeF_spec (id : Int) : ∀ (l : List Ck) (i a : Nat), (placeF id l i a = a ∧ ∀ c ∈ l, ¬ isP id c) ∨ ∃ l1 c l2, l = l1 ++ c :: l2 ∧ isP id c ∧ (∀ d ∈ l2, ¬ isP id d) ∧ placeF id l i a = i + l1.length
  | [], i, a => .inl ⟨rfl, by simp⟩
  | c :: r, i, a => by
    rcases placeF_spec id r (i + 1) (if c.2.1 ≠ [] ∧ c.2.1.getD 0 0 ≤ id then i else a) with ⟨h1, h2⟩ | ⟨l1, d, l2, h1, h2, h3, h4⟩
    · by_cases hc : isP id c
      · exact .inr ⟨[], c, r, rfl, hc, h2, by rw [placeF, h1]; exact if_pos hc⟩
      · refine .inl ⟨by rw [placeF, h1]; exact if_neg hc, fun d hd => ?_⟩
        rcases List.mem_cons.1 hd with rfl | hd
        · exact hc
        · exact h2 d hd
    · exact .inr ⟨c :: l1, d, l2, by rw [h1]; rfl, h2, h3, by rw [placeF, h4]; simp; omega⟩
theorem first_le {e : List Int} (h : e.Pairwise (· < ·)) {x : Int} (hx : x ∈ e) : e.getD 0 0 ≤ x := by
  cases e with
  | nil => cases hx
  | cons y r =>
    show y ≤ x
    rcases List.mem_cons.1 hx with rfl | hx
    · exact Int.le_refl _
    · have := (List.pairwise_cons.1 h).1 x hx; omega
theorem first_mem {e : List Int} (h : e ≠ []) : e.getD 0 0 ∈ e := by
  cases e with
  | nil => exact (h rfl).elim
  | cons y r => simp
theorem ris_part {p : List Pt} (h : (idsP p).Pairwise (· < ·)) {y : Pt} (hy : y ∈ p) : y.2.Pairwise (· < ·) := by
  obtain ⟨a, b, rfl⟩ := List.append_of_mem hy
  rw [idsP_app, idsP_cons] at h
  exact (List.pairwise_append.1 (List.pairwise_append.1 h).2.1).1
/-- Ids ahead of the place are smaller, those behind it greater. -/
theorem place_split {p : List Pt} (hG : GoodC p) (hp : p ≠ []) (id : Int) : ∃ p1 n e p2, p = p1 ++ (n, e) :: p2 ∧ placeC (mkC p) id = p1.length ∧ (∀ x ∈ idsP p1, x < id) ∧ ∀ x ∈ idsP p2, id < x := by
  have behind : ∀ q : List Pt, (∀ y ∈ q, y ∈ p) → goodT q → (∀ c ∈ mkC q, ¬ isP id c) → ∀ x ∈ idsP q, id < x := fun q hq hT hc x hx => by
    obtain ⟨y, hy, hxy⟩ := mem_idsP.1 hx
    have h1 := (hT y hy).2
    have hm : y ∈ ptsC (mkC q) := by rw [ptsC_mkC]; exact hy
    obtain ⟨c, hcm, rfl⟩ := List.mem_map.1 hm
    have h2 := hc c hcm
    have h3 := first_le (ris_part hG.ris (hq _ hy)) hxy
    have h4 : ¬ c.2.1.getD 0 0 ≤ id := fun h => h2 ⟨h1, h⟩
    have h3 : c.2.1.getD 0 0 ≤ x := h3
    omega
  rcases placeF_spec id (mkC p) 0 0 with ⟨h1, h2⟩ | ⟨l1, c, l2, h1, h2, h3, h4⟩
  · obtain ⟨x, r, rfl⟩ := List.exists_cons_of_ne_nil hp
    refine ⟨[], x.1, x.2, r, rfl, h1, by simp [idsP], behind r (fun y hy => List.mem_cons_of_mem _ hy) (hG.hd x r rfl).2 fun c hc => h2 c (by rw [mkC]; exact List.mem_cons_of_mem _ hc)⟩
  · have hpp : p = ptsC l1 ++ (c.1, c.2.1) :: ptsC l2 := by
      rw [← ptsC_mkC p, h1]; simp [ptsC]
    have hr := hG.ris
    have hsub : ∀ y ∈ ptsC l2, y ∈ p := fun y hy => by rw [hpp]; exact List.mem_append_right _ (List.mem_cons_of_mem _ hy)
    have hC2 : mkC (ptsC l2) = l2 := by
      have := h1
      rw [hpp, mkC_split] at this
      have hl : (mkN (ptsC l1) c.1).length = l1.length := by rw [mkN_length]; simp [ptsC]
      exact (List.cons.inj (List.append_inj this hl).2).2
    have hT : goodT (ptsC l2) := by
      cases l1 with
      | nil => exact (hG.hd _ _ hpp).2
      | cons d l1 =>
        have := (hG.hd _ _ hpp).2
        intro y hy
        exact this y (List.mem_append_right _ (List.mem_cons_of_mem _ hy))
    refine ⟨ptsC l1, c.1, c.2.1, ptsC l2, hpp, ?_, fun x hx => ?_, behind _ hsub hT (by rw [hC2]; exact h3)⟩
    · unfold placeC; rw [h4]; simp [ptsC]
    · rw [hpp, idsP_app, idsP_cons] at hr
      have := (List.pairwise_append.1 hr).2.2 x hx _ (List.mem_append_left _ (first_mem h2.1))
      have h5 : c.2.1.getD 0 0 ≤ id := h2.2
      have this : x < c.2.1.getD 0 0 := this
      omega

/-! ### Apply -/
variable {β : Type}
theorem getI_delI {k j : Int} (h : j ≠ k) : ∀ m : List (Int × β), getI (delI k m) j = getI m j
  | [] => rfl
  | x :: r => by
    rw [delI]
    split
    · rename_i e
      rw [getI_cons, if_neg (fun e2 => h (by rw [← e2, e]))]
    · rw [getI_cons, getI_cons, getI_delI h r]
theorem delI_length {k : Int} {v : β} : ∀ {m : List (Int × β)}, getI m k = some v → (delI k m).length + 1 = m.length
  | [], h => by cases h
  | x :: r, h => by
    rw [delI]
    split
    · rfl
    · rename_i e
      rw [getI_cons, if_neg e] at h
      rw [List.length_cons, List.length_cons, delI_length h]
theorem walk_mkC : ∀ (p : List Pt) (m : List (Int × Ck)) (f : Nat), p ≠ [] → (p.map (·.1)).Nodup → (∀ x ∈ p.tail, x.1 ≠ 0) → (∀ c ∈ mkC p, getI m c.1 = some c) → m.length < f → walkF f m (hdN p 0) = mkC p
  | [], _, _, h, _, _, _, _ => (h rfl).elim
  | _ :: _, _, 0, _, _, _, _, hf => by omega
  | x :: r, m, f + 1, _, hn, ht, hm, hf => by
    have hx := hm (x.1, x.2, (r.headD (0, [])).1, false) (by simp [mkC])
    have hl : (delI x.1 m).length + 1 = m.length := delI_length hx
    show walkF (f + 1) m x.1 = _
    rw [walkF]
    simp only at hx
    rw [hx]
    show (x.1, x.2, (r.headD (0, [])).1, false) :: _ = _
    rw [mkC]
    congr 1
    cases r with
    | nil => rfl
    | cons y r =>
      have hy : y.1 ≠ 0 := ht y (by simp)
      show (if y.1 = 0 then [] else walkF f (delI x.1 m) y.1) = _
      rw [if_neg hy]
      rw [List.map_cons, List.nodup_cons] at hn
      refine walk_mkC (y :: r) (delI x.1 m) f (by simp) hn.2 (fun z hz => ht z (List.mem_cons_of_mem _ hz)) (fun c hc => ?_) (by omega)
      rw [getI_delI (fun e => hn.1 ?_), hm c (by rw [mkC]; exact List.mem_cons_of_mem _ hc)]
      rw [← e, ← nosC_mkC]
      exact List.mem_map.2 ⟨c, hc, rfl⟩
def putAll (m : List (Int × Ck)) (l : List Ck) : List (Int × Ck) := l.foldl (fun m c => putI c.1 c m) m
theorem putAll_not : ∀ (l : List Ck) (m : List (Int × Ck)) {n : Int}, n ∉ nosC l → getI (putAll m l) n = getI m n
  | [], m, n, _ => rfl
  | d :: r, m, n, h => by
    show getI (putAll (putI d.1 d m) r) n = _
    rw [putAll_not r _ fun hm => h (List.mem_cons_of_mem _ hm), getI_putI, if_neg fun e => h (by simp [nosC, e])]
theorem putAll_mem : ∀ (l : List Ck) (m : List (Int × Ck)) {c : Ck}, (nosC l).Nodup → c ∈ l → getI (putAll m l) c.1 = some c
  | [], m, c, _, h => by cases h
  | d :: r, m, c, hn, h => by
    have hn2 : d.1 ∉ nosC r ∧ (nosC r).Nodup := List.nodup_cons.1 hn
    show getI (putAll (putI d.1 d m) r) c.1 = _
    rcases List.mem_cons.1 h with rfl | h
    · rw [putAll_not r _ hn2.1, getI_putI, if_pos rfl]
    · exact putAll_mem r _ hn2.2 h
theorem byNo_app (l ch : List Ck) : byNo (l ++ ch) = putAll (byNo l) ch := by
  unfold byNo putAll; rw [List.foldl_append]
theorem apply_eq {p p' : List Pt} {ch : List Ck} (hG : GoodC p) (hG' : GoodC p') (hp' : p' ≠ []) (hn : (nosC ch).Nodup) (h : ∀ c ∈ mkC p', c ∈ ch ∨ c ∈ mkC p ∧ c.1 ∉ nosC ch) : applyK (mkC p) ch = mkC p' := by
  obtain ⟨x, r, rfl⟩ := List.exists_cons_of_ne_nil hp'
  obtain ⟨h0, hT⟩ := hG'.hd x r rfl
  unfold applyK
  have := walk_mkC (x :: r) (byNo (mkC p ++ ch)) ((byNo (mkC p ++ ch)).length + 1) hp' hG'.nod (fun y hy => by have := (hT y hy).1; omega) (fun c hc => ?_) (by omega)
  · have e : hdN (x :: r) 0 = 0 := h0
    rwa [e] at this
  · rw [byNo_app]
    rcases h c hc with h1 | ⟨h1, h2⟩
    · exact putAll_mem ch _ hn h1
    · rw [putAll_not ch _ h2]
      exact putAll_mem (mkC p) [] (by rw [nosC_mkC]; exact hG.nod) h1
/-! ### Insert -/
theorem place_part {p1 : List Pt} {n : Int} {e : List Int} {p2 : List Pt} (hG : GoodC (p1 ++ (n, e) :: p2)) : e.length ≤ 4 ∧ (p1 = [] ∨ e ≠ []) ∧ (p1 = [] ∧ n = 0 ∨ p1 ≠ [] ∧ 0 < n) ∧ goodT p2 ∧ (∀ x ∈ p1, x.1 ≠ n) ∧ (∀ x ∈ p2, x.1 ≠ n) := by
  have hm : (n, e) ∈ p1 ++ (n, e) :: p2 := by simp
  have hN := hG.nod
  rw [List.map_append, List.map_cons, List.nodup_append] at hN
  obtain ⟨n1, n2, n3⟩ := hN
  rw [List.nodup_cons] at n2
  refine ⟨hG.len _ hm, ?_, ?_, ?_, fun x hx he => ?_, fun x hx he => ?_⟩
  · cases p1 with
    | nil => exact .inl rfl
    | cons x r => exact .inr ((hG.hd _ _ rfl).2 (n, e) (by simp)).2
  · cases p1 with
    | nil => exact .inl ⟨rfl, (hG.hd _ _ rfl).1⟩
    | cons x r => exact .inr ⟨by simp, ((hG.hd _ _ rfl).2 (n, e) (by simp)).1⟩
  · cases p1 with
    | nil => exact (hG.hd _ _ rfl).2
    | cons x r => exact fun y hy => (hG.hd _ _ rfl).2 y (by simp [hy])
  · exact n3 _ (List.mem_map.2 ⟨x, hx, rfl⟩) n (by simp) he
  · exact n2.1 (List.mem_map.2 ⟨x, hx, he⟩)
/-- One chunk changed. -/
theorem good_change {p1 : List Pt} {n : Int} {e e' : List Int} {p2 : List Pt} (hG : GoodC (p1 ++ (n, e) :: p2)) (hl : e'.length ≤ 4) (hne : p1 = [] ∨ e' ≠ []) (hr : (idsP (p1 ++ (n, e') :: p2)).Pairwise (· < ·)) (hn : ∀ y ∈ idsP (p1 ++ (n, e') :: p2), 0 ≤ y) :
    GoodC (p1 ++ (n, e') :: p2) := by
  refine ⟨?_, fun x r hx => ?_, fun x hx => ?_, hr, hn⟩
  · have := hG.nod
    simpa using this
  · cases p1 with
    | nil =>
      have h := hG.hd _ _ rfl
      simp only [List.nil_append, List.cons.injEq] at hx
      rw [← hx.1, ← hx.2]
      exact h
    | cons y q =>
      have h := hG.hd _ _ rfl
      simp only [List.cons_append, List.cons.injEq] at hx
      rw [← hx.1, ← hx.2]
      refine ⟨h.1, fun z hz => ?_⟩
      rcases List.mem_append.1 hz with hz | hz
      · exact h.2 z (List.mem_append_left _ hz)
      · rcases List.mem_cons.1 hz with rfl | hz
        · exact ⟨(h.2 (n, e) (by simp)).1, hne.resolve_left (by simp)⟩
        · exact h.2 z (by simp [hz])
  · rcases List.mem_append.1 hx with hx | hx
    · exact hG.len x (List.mem_append_left _ hx)
    · rcases List.mem_cons.1 hx with rfl | hx
      · exact hl
      · exact hG.len x (by simp [hx])
theorem apply_change {p1 : List Pt} {n : Int} {e e' : List Int} {p2 : List Pt} (hG : GoodC (p1 ++ (n, e) :: p2)) (hG' : GoodC (p1 ++ (n, e') :: p2)) :
    applyK (mkC (p1 ++ (n, e) :: p2)) [(n, e', hdN p2 0, false)] = mkC (p1 ++ (n, e') :: p2) := by
  obtain ⟨_, _, _, _, h1, h2⟩ := place_part hG
  refine apply_eq hG hG' (by simp) (by simp [nosC]) fun c hc => ?_
  have hne : ∀ (q : List Pt) (h : Int), (∀ x ∈ q, x.1 ≠ n) → c ∈ mkN q h → c.1 ∉ nosC [(n, e', hdN p2 0, false)] := fun q h hq hcq he => by
    have : c.1 ∈ q.map (·.1) := by rw [← nosC_mkN q h]; exact List.mem_map.2 ⟨c, hcq, rfl⟩
    obtain ⟨x, hx, ex⟩ := List.mem_map.1 this
    exact hq x hx (by rw [ex]; simpa [nosC] using he)
  rw [mkC_split] at hc ⊢
  rcases List.mem_append.1 hc with hc | hc
  · exact .inr ⟨List.mem_append_left _ hc, hne p1 n h1 hc⟩
  · rcases List.mem_cons.1 hc with rfl | hc
    · exact .inl (by simp)
    · exact .inr ⟨List.mem_append_right _ (List.mem_cons_of_mem _ hc), hne p2 0 h2 (by rwa [mkC_N] at hc)⟩
theorem apply_two {p1 : List Pt} {n k : Int} {e e1 e2 : List Int} {p2 : List Pt} (hG : GoodC (p1 ++ (n, e) :: p2)) (hG' : GoodC (p1 ++ (n, e1) :: (k, e2) :: p2)) (hk : k ∉ nosC (mkC (p1 ++ (n, e) :: p2))) :
    applyK (mkC (p1 ++ (n, e) :: p2)) [(n, e1, k, false), (k, e2, hdN p2 0, false)] = mkC (p1 ++ (n, e1) :: (k, e2) :: p2) := by
  obtain ⟨_, _, _, _, h1, h2⟩ := place_part hG
  rw [nosC_mkC] at hk
  have hkn : n ≠ k := fun e => hk (by simp [e])
  refine apply_eq hG hG' (by simp) (by simp [nosC, hkn]) fun c hc => ?_
  have hne : ∀ (q : List Pt) (h : Int), (∀ x ∈ q, x.1 ≠ n) → (∀ x ∈ q, x.1 ≠ k) → c ∈ mkN q h → c.1 ∉ nosC [(n, e1, k, false), (k, e2, hdN p2 0, false)] := fun q h hq hq2 hcq he => by
    have : c.1 ∈ q.map (·.1) := by rw [← nosC_mkN q h]; exact List.mem_map.2 ⟨c, hcq, rfl⟩
    obtain ⟨x, hx, ex⟩ := List.mem_map.1 this
    have he : c.1 = n ∨ c.1 = k := by simpa [nosC] using he
    rcases he with he | he
    · exact hq x hx (by rw [ex]; exact he)
    · exact hq2 x hx (by rw [ex]; exact he)
  have hk1 : ∀ x ∈ p1, x.1 ≠ k := fun x hx e => hk (by rw [← e]; exact List.mem_map.2 ⟨x, by simp [hx], rfl⟩)
  have hk2 : ∀ x ∈ p2, x.1 ≠ k := fun x hx e => hk (by rw [← e]; exact List.mem_map.2 ⟨x, by simp [hx], rfl⟩)
  rw [mkC_split] at hc ⊢
  rcases List.mem_append.1 hc with hc | hc
  · exact .inr ⟨List.mem_append_left _ hc, hne p1 n h1 hk1 hc⟩
  · rcases List.mem_cons.1 hc with rfl | hc
    · exact .inl (by simp [hdN])
    · rw [mkC_N, mkN] at hc
      rcases List.mem_cons.1 hc with rfl | hc
      · exact .inl (by simp)
      · exact .inr ⟨List.mem_append_right _ (List.mem_cons_of_mem _ (by rw [mkC_N]; exact hc)), hne p2 0 h2 hk2 hc⟩
theorem good_two {p1 : List Pt} {n k : Int} {e e1 e2 : List Int} {p2 : List Pt} (hG : GoodC (p1 ++ (n, e) :: p2)) (l1 : e1.length ≤ 4) (l2 : e2.length ≤ 4) (n1 : e1 ≠ []) (n2 : e2 ≠ []) (k0 : 0 < k) (hk : k ∉ nosC (mkC (p1 ++ (n, e) :: p2)))
    (hr : (idsP (p1 ++ (n, e1) :: (k, e2) :: p2)).Pairwise (· < ·)) (hn : ∀ y ∈ idsP (p1 ++ (n, e1) :: (k, e2) :: p2), 0 ≤ y) : GoodC (p1 ++ (n, e1) :: (k, e2) :: p2) := by
  rw [nosC_mkC] at hk
  refine ⟨?_, fun x r hx => ?_, fun x hx => ?_, hr, hn⟩
  · have h1 := hG.nod
    have e1 : (p1 ++ (n, e1) :: (k, e2) :: p2).map (·.1) = (p1.map (·.1) ++ [n]) ++ k :: p2.map (·.1) := by simp
    have e2 : (p1 ++ (n, e) :: p2).map (·.1) = (p1.map (·.1) ++ [n]) ++ p2.map (·.1) := by simp
    rw [e2] at h1 hk
    rw [e1, List.Perm.nodup_iff List.perm_middle, List.nodup_cons]
    exact ⟨hk, h1⟩
  · cases p1 with
    | nil =>
      have h := hG.hd _ _ rfl
      simp only [List.nil_append, List.cons.injEq] at hx
      rw [← hx.1, ← hx.2]
      refine ⟨h.1, fun z hz => ?_⟩
      rcases List.mem_cons.1 hz with rfl | hz
      · exact ⟨k0, n2⟩
      · exact h.2 z hz
    | cons y q =>
      have h := hG.hd _ _ rfl
      simp only [List.cons_append, List.cons.injEq] at hx
      rw [← hx.1, ← hx.2]
      refine ⟨h.1, fun z hz => ?_⟩
      rcases List.mem_append.1 hz with hz | hz
      · exact h.2 z (List.mem_append_left _ hz)
      · rcases List.mem_cons.1 hz with rfl | hz
        · exact ⟨(h.2 (n, e) (by simp)).1, n1⟩
        · rcases List.mem_cons.1 hz with rfl | hz
          · exact ⟨k0, n2⟩
          · exact h.2 z (by simp [hz])
  · rcases List.mem_append.1 hx with hx | hx
    · exact hG.len x (List.mem_append_left _ hx)
    · rcases List.mem_cons.1 hx with rfl | hx
      · exact l1
      · rcases List.mem_cons.1 hx with rfl | hx
        · exact l2
        · exact hG.len x (by simp [hx])
theorem keep_split {p1 : List Pt} {n : Int} {e : List Int} {p2 : List Pt} {ch X : List Ck} (hn : n ∈ nosC ch) (h1 : ∀ c ∈ mkN p1 n, c ∈ X) (h2 : ∀ c ∈ mkC p2, c ∈ X) : ∀ c ∈ mkC (p1 ++ (n, e) :: p2), c.1 ∉ nosC ch → c ∈ X := by
  intro c hc hcn
  rw [mkC_split] at hc
  rcases List.mem_append.1 hc with hc | hc
  · exact h1 c hc
  · rcases List.mem_cons.1 hc with rfl | hc
    · exact (hcn hn).elim
    · exact h2 c hc
theorem insK_apply {p : List Pt} (hG : GoodC p) {id : Int} (h0 : 0 ≤ id) (h1 : id < 1099511627776) (hn : id ∉ idsP p) :
    ∃ ch p', insK (mkC p) id = (ch, 0) ∧ (1 ≤ ch.length ∧ ch.length ≤ 2 ∧ ∀ c ∈ ch, c.2.1.length ≤ 4) ∧ applyK (mkC p) ch = mkC p' ∧ GoodC p' ∧ idsP p' = insS (idsP p) id ∧ ∀ c ∈ mkC p, c.1 ∉ nosC ch → c ∈ mkC p' := by
  have hR := hG.right
  have hA : ¬ (id < 0 ∨ 1099511627776 ≤ id) := by omega
  have hC : ¬ (idsC (mkC p)).contains id = true := by rw [idsC_mkC]; simpa using hn
  by_cases hp : p = []
  · subst hp
    refine ⟨[(0, [id], 0, false)], [(0, [id])], ?_, ⟨by simp, by simp, by simp⟩, rfl, ⟨by simp, ?_, by simp, by simp [idsP], by simpa [idsP] using h0⟩, rfl, fun c hc => by cases hc⟩
    · unfold insK
      rw [if_pos hR, if_neg hA, if_neg hC]; rfl
    · intro x r hx
      simp only [List.cons.injEq] at hx
      rw [← hx.1, ← hx.2]
      exact ⟨rfl, fun y hy => by cases hy⟩
  · obtain ⟨p1, n, e, p2, rfl, hpl, hlo, hhi⟩ := place_split hG hp id
    obtain ⟨he4, _, _, _, _, _⟩ := place_part hG
    have hE : ¬ (mkC (p1 ++ (n, e) :: p2)).isEmpty = true := by rw [mkC_split]; simp
    have hgd := getD_split p1 n e p2
    have hI : insK (mkC (p1 ++ (n, e) :: p2)) id = if (insS e id).length ≤ 4 then ([(n, insS e id, hdN p2 0, false)], 0)
        else ([(n, (insS e id).take 3, (freeN (nosC (mkC (p1 ++ (n, e) :: p2))) : Int), false), ((freeN (nosC (mkC (p1 ++ (n, e) :: p2))) : Int), (insS e id).drop 3, hdN p2 0, false)], 0) := by
      unfold insK
      rw [if_pos hR, if_neg hA, if_neg hC, if_neg hE, hpl]
      simp only [hgd]
      rfl
    have hids : idsP (p1 ++ (n, e) :: p2) = idsP p1 ++ (e ++ idsP p2) := by rw [idsP_app, idsP_cons]
    have hnew : insS (idsP (p1 ++ (n, e) :: p2)) id = idsP p1 ++ (insS e id ++ idsP p2) := by rw [hids, insS_app hlo hhi]
    have hris := rise_insS hG.ris hn
    have hnn : ∀ y ∈ insS (idsP (p1 ++ (n, e) :: p2)) id, 0 ≤ y := fun y hy => by
      rcases (mem_insS _ _ _).1 hy with rfl | hy
      · exact h0
      · exact hG.nn y hy
    have hlen := insS_length e id
    by_cases h4 : (insS e id).length ≤ 4
    · have hids' : idsP (p1 ++ (n, insS e id) :: p2) = insS (idsP (p1 ++ (n, e) :: p2)) id := by rw [hnew, idsP_app, idsP_cons]
      have hG' := good_change hG h4 (.inr (by intro h; rw [h] at hlen; simp at hlen)) (by rw [hids']; exact hris) (by rw [hids']; exact hnn)
      refine ⟨_, p1 ++ (n, insS e id) :: p2, by rw [hI, if_pos h4], ⟨by simp, by simp, by simpa using h4⟩, apply_change hG hG', hG', hids', ?_⟩
      refine keep_split (by simp [nosC]) (fun c hc => ?_) (fun c hc => ?_)
      · rw [mkC_split]; exact List.mem_append_left _ hc
      · rw [mkC_split]; exact List.mem_append_right _ (List.mem_cons_of_mem _ hc)
    · obtain ⟨f1, f2, _⟩ := freeN_spec (nosC (mkC (p1 ++ (n, e) :: p2)))
      generalize freeN (nosC (mkC (p1 ++ (n, e) :: p2))) = k at *
      have hids' : idsP (p1 ++ (n, (insS e id).take 3) :: ((k : Int), (insS e id).drop 3) :: p2) = insS (idsP (p1 ++ (n, e) :: p2)) id := by
        rw [hnew, idsP_app, idsP_cons, idsP_cons, ← List.append_assoc (List.take 3 (insS e id)), List.take_append_drop]
      have l1 : ((insS e id).take 3).length = 3 := by rw [List.length_take]; omega
      have l2 : ((insS e id).drop 3).length = 2 := by rw [List.length_drop]; omega
      have hG' := good_two (k := (k : Int)) (e1 := (insS e id).take 3) (e2 := (insS e id).drop 3) hG (by omega) (by omega) (fun h => by rw [h] at l1; cases l1) (fun h => by rw [h] at l2; cases l2) (by omega) f2 (by rw [hids']; exact hris) (by rw [hids']; exact hnn)
      refine ⟨_, _, by rw [hI, if_neg h4], ⟨by simp, by simp, ?_⟩, apply_two hG hG' f2, hG', hids', ?_⟩
      · intro c hc
        rcases List.mem_cons.1 hc with rfl | hc
        · show ((insS e id).take 3).length ≤ 4; omega
        · rw [List.mem_singleton] at hc
          rw [hc]
          show ((insS e id).drop 3).length ≤ 4; omega
      · refine keep_split (by simp [nosC]) (fun c hc => ?_) (fun c hc => ?_)
        · rw [mkC_split]; exact List.mem_append_left _ hc
        · rw [mkC_split]
          refine List.mem_append_right _ (List.mem_cons_of_mem _ ?_)
          rw [mkC]; exact List.mem_cons_of_mem _ hc
theorem insK_twice {p : List Pt} (hG : GoodC p) {id : Int} (h0 : 0 ≤ id) (h1 : id < 1099511627776) (hn : id ∈ idsP p) : insK (mkC p) id = ([], 31) := by
  have hA : ¬ (id < 0 ∨ 1099511627776 ≤ id) := by omega
  have hC : (idsC (mkC p)).contains id = true := by rw [idsC_mkC]; simpa using hn
  unfold insK
  rw [if_pos hG.right, if_neg hA, if_pos hC]
/-! ### Remove -/
theorem good_sub {x : Pt} {r r' : List Pt} (hG : GoodC (x :: r)) (hs : List.Sublist r' r) (hr : (idsP (x :: r')).Pairwise (· < ·)) (hn : ∀ y ∈ idsP (x :: r'), 0 ≤ y) : GoodC (x :: r') := by
  refine ⟨?_, fun y q hq => ?_, fun y hy => ?_, hr, hn⟩
  · exact List.Nodup.sublist ((List.Sublist.cons_cons x hs).map _) hG.nod
  · have h := hG.hd x r rfl
    simp only [List.cons.injEq] at hq
    rw [← hq.1, ← hq.2]
    exact ⟨h.1, fun z hz => h.2 z (hs.subset hz)⟩
  · rcases List.mem_cons.1 hy with rfl | hy
    · exact hG.len _ (by simp)
    · exact hG.len y (List.mem_cons_of_mem _ (hs.subset hy))
theorem remK_apply {p : List Pt} (hG : GoodC p) {id : Int} (hm : id ∈ idsP p) :
    ∃ ch p', remK (mkC p) id = (ch, 0) ∧ (1 ≤ ch.length ∧ ch.length ≤ 2 ∧ ∀ c ∈ ch, c.2.1.length ≤ 4) ∧ applyK (mkC p) ch = mkC p' ∧ GoodC p' ∧ idsP p' = remS (idsP p) id := by
  have hR := hG.right
  have hp : p ≠ [] := by rintro rfl; cases hm
  obtain ⟨p1, n, e, p2, rfl, hpl, hlo, hhi⟩ := place_split hG hp id
  obtain ⟨he4, _, hn0, _, g1, g2⟩ := place_part hG
  have hids : idsP (p1 ++ (n, e) :: p2) = idsP p1 ++ (e ++ idsP p2) := by rw [idsP_app, idsP_cons]
  have m1 : id ∉ idsP p1 := fun h => by have := hlo id h; omega
  have m2 : id ∉ idsP p2 := fun h => by have := hhi id h; omega
  have hme : id ∈ e := by
    rw [hids] at hm
    rcases List.mem_append.1 hm with h | h
    · exact (m1 h).elim
    · rcases List.mem_append.1 h with h | h
      · exact h
      · exact (m2 h).elim
  have hgd := getD_split p1 n e p2
  have hI : remK (mkC (p1 ++ (n, e) :: p2)) id = if 0 < (remS e id).length ∨ p1.length = 0 then ([(n, remS e id, hdN p2 0, false)], 0)
      else ([(((mkC (p1 ++ (n, e) :: p2)).getD (p1.length - 1) ck0).1, ((mkC (p1 ++ (n, e) :: p2)).getD (p1.length - 1) ck0).2.1, hdN p2 0, ((mkC (p1 ++ (n, e) :: p2)).getD (p1.length - 1) ck0).2.2.2), (n, [], 0, true)], 0) := by
    unfold remK
    rw [if_pos hR, hpl]
    simp only [hgd]
    rw [if_pos (by simpa using hme)]
    rfl
  have hnew : remS (idsP (p1 ++ (n, e) :: p2)) id = idsP p1 ++ (remS e id ++ idsP p2) := by rw [hids, remS_app m1 m2]
  have hris := rise_remS (s := id) hG.ris
  have hnn : ∀ y ∈ remS (idsP (p1 ++ (n, e) :: p2)) id, 0 ≤ y := fun y hy => hG.nn y ((mem_remS _ _ _).1 hy).1
  have hle : (remS e id).length ≤ 4 := Nat.le_trans (List.length_filter_le _ _) he4
  by_cases hc : 0 < (remS e id).length ∨ p1.length = 0
  · have hids' : idsP (p1 ++ (n, remS e id) :: p2) = remS (idsP (p1 ++ (n, e) :: p2)) id := by rw [hnew, idsP_app, idsP_cons]
    have hG' := good_change hG hle (hc.elim (fun h => .inr (List.length_pos_iff.1 h)) (fun h => .inl (List.eq_nil_of_length_eq_zero h))) (by rw [hids']; exact hris) (by rw [hids']; exact hnn)
    exact ⟨_, p1 ++ (n, remS e id) :: p2, by rw [hI, if_pos hc], ⟨by simp, by simp, by simpa using hle⟩, apply_change hG hG', hG', hids'⟩
  · have hz : remS e id = [] := List.eq_nil_of_length_eq_zero (by omega)
    have hp1 : p1 ≠ [] := fun h => hc (.inr (by rw [h]; rfl))
    obtain ⟨q, ⟨m, f⟩, rfl⟩ : ∃ q x, p1 = q ++ [x] := ⟨p1.dropLast, p1.getLast hp1, (List.dropLast_concat_getLast hp1).symm⟩
    have ep : q ++ [(m, f)] ++ (n, e) :: p2 = q ++ (m, f) :: (n, e) :: p2 := by simp
    have hgd2 := getD_split q m f ((n, e) :: p2)
    have hlq : (q ++ [(m, f)]).length - 1 = q.length := by simp
    rw [hlq] at hI
    rw [hz] at hnew
    rw [ep] at hI hG hnew hris hnn ⊢
    rw [hgd2] at hI
    have hids' : idsP (q ++ (m, f) :: p2) = remS (idsP (q ++ (m, f) :: (n, e) :: p2)) id := by rw [hnew, idsP_app, idsP_app, idsP_cons]; simp [idsP]
    have hG' : GoodC (q ++ (m, f) :: p2) := by
      cases q with
      | nil => exact good_sub hG (List.sublist_cons_self _ _) (by rw [← hids'] at hris; exact hris) (by rw [← hids'] at hnn; exact hnn)
      | cons y q => exact good_sub hG (List.Sublist.append (List.Sublist.refl q) (List.Sublist.cons_cons _ (List.sublist_cons_self _ _))) (by rw [← hids'] at hris; exact hris) (by rw [← hids'] at hnn; exact hnn)
    obtain ⟨hf4, _, _, _, k1, k2⟩ := place_part hG
    have hmn : m ≠ n := fun h => k2 (n, e) (by simp) h.symm
    refine ⟨_, q ++ (m, f) :: p2, by rw [hI, if_neg hc], ⟨by simp, by simp, ?_⟩, ?_, hG', hids'⟩
    · intro c hc
      rcases List.mem_cons.1 hc with rfl | hc
      · exact hf4
      · rw [List.mem_singleton] at hc
        rw [hc]; simp
    · refine apply_eq hG hG' (by simp) (by simp [nosC, hmn]) fun c hc => ?_
      have hne : ∀ (q : List Pt) (h : Int), (∀ x ∈ q, x.1 ≠ m) → (∀ x ∈ q, x.1 ≠ n) → c ∈ mkN q h → c.1 ∉ nosC [(m, f, hdN p2 0, false), (n, [], 0, true)] := fun q h hq hq2 hcq he => by
        have : c.1 ∈ q.map (·.1) := by rw [← nosC_mkN q h]; exact List.mem_map.2 ⟨c, hcq, rfl⟩
        obtain ⟨x, hx, ex⟩ := List.mem_map.1 this
        have he : c.1 = m ∨ c.1 = n := by simpa [nosC] using he
        rcases he with he | he
        · exact hq x hx (by rw [ex]; exact he)
        · exact hq2 x hx (by rw [ex]; exact he)
      rw [mkC_split] at hc ⊢
      rcases List.mem_append.1 hc with hc | hc
      · exact .inr ⟨List.mem_append_left _ hc, hne q m k1 (fun x hx => g1 x (List.mem_append_left _ hx)) hc⟩
      · rcases List.mem_cons.1 hc with rfl | hc
        · exact .inl (by simp)
        · refine .inr ⟨List.mem_append_right _ (List.mem_cons_of_mem _ ?_), hne p2 0 (fun x hx => k2 x (List.mem_cons_of_mem _ hx)) g2 (by rwa [mkC_N] at hc)⟩
          rw [mkC]; exact List.mem_cons_of_mem _ hc
end Go.AL
