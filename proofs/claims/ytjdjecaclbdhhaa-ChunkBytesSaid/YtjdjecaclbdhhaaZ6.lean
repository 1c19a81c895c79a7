/-
  The texts Co, Cj, Yd, Yf, Yh, Yi, Yk, Yo, Cx, Ck, Cl, Cy, Cp of this seat, one behind the other.
-/
import Derived.Test.YtjdjecaclbdhhaaZ5
import Derived.Lib.ConvBytes
import Derived.Laws.ResultCell
import Derived.KernelRfl

section
namespace Go.AL
set_option linter.unusedSimpArgs false
set_option linter.unusedVariables false

/-! ### Numbers in order -/
def insS (l : List Int) (s : Int) : List Int := insL l (posI l s) s
theorem posI_app (a b : List Int) (s : Int) : posI (a ++ b) s = posI a s + posI b s := by simp [posI]
theorem posI_len (l : List Int) (s : Int) : posI l s ≤ l.length := List.length_filter_le _ _
theorem posI_all {a : List Int} {s : Int} (h : ∀ x ∈ a, x < s) : posI a s = a.length := by
  unfold posI
  rw [List.filter_eq_self.2 fun x hx => by simpa using h x hx]
theorem posI_none {a : List Int} {s : Int} (h : ∀ x ∈ a, s < x) : posI a s = 0 := by
  unfold posI
  rw [List.filter_eq_nil_iff.2 fun x hx => by have := h x hx; simp; omega]; rfl
theorem insS_nil (s : Int) : insS [] s = [s] := rfl
theorem insS_cons (x : Int) (l : List Int) (s : Int) (hp : (x :: l).Pairwise (· < ·)) (hs : s ∉ x :: l) : insS (x :: l) s = if x < s then x :: insS l s else s :: x :: l := by
  by_cases h : x < s
  · rw [if_pos h]
    have e : posI (x :: l) s = posI l s + 1 := by simp [posI, h]
    simp [insS, insL, e]
  · rw [if_neg h]
    have e : posI (x :: l) s = 0 := posI_none fun y hy => by
      obtain ⟨h1, _⟩ := List.pairwise_cons.1 hp
      have hx : s ≠ x := fun e => hs (by simp [e])
      rcases List.mem_cons.1 hy with hy' | hy'
      · omega
      · have := h1 y hy'; omega
    simp [insS, insL, e]
theorem mem_insS (l : List Int) (s x : Int) : x ∈ insS l s ↔ x = s ∨ x ∈ l := by
  unfold insS insL
  generalize posI l s = n
  rw [List.mem_append, List.mem_cons]
  conv => rhs; rw [← List.take_append_drop n l, List.mem_append]
  constructor
  · rintro (h | h | h)
    · exact .inr (.inl h)
    · exact .inl h
    · exact .inr (.inr h)
  · rintro (h | h | h)
    · exact .inr (.inl h)
    · exact .inl h
    · exact .inr (.inr h)
theorem insS_length (l : List Int) (s : Int) : (insS l s).length = l.length + 1 := by
  have := posI_len l s
  unfold insS insL
  simp
  omega
theorem rise_insS : ∀ {l : List Int} {s : Int}, l.Pairwise (· < ·) → s ∉ l → (insS l s).Pairwise (· < ·)
  | [], s, _, _ => by simp [insS_nil]
  | x :: l, s, hp, hs => by
    rw [insS_cons x l s hp hs]
    obtain ⟨h1, h2⟩ := List.pairwise_cons.1 hp
    split
    · refine List.pairwise_cons.2 ⟨fun y hy => ?_, rise_insS h2 fun h => hs (List.mem_cons_of_mem _ h)⟩
      rcases (mem_insS l s y).1 hy with rfl | hy
      · assumption
      · exact h1 y hy
    · have hx : x ≠ s := fun e => hs (by simp [e])
      refine List.pairwise_cons.2 ⟨fun y hy => ?_, hp⟩
      rcases List.mem_cons.1 hy with rfl | hy
      · omega
      · have := h1 y hy; omega
theorem insS_app {A e B : List Int} {s : Int} (hA : ∀ x ∈ A, x < s) (hB : ∀ x ∈ B, s < x) : insS (A ++ (e ++ B)) s = A ++ (insS e s ++ B) := by
  unfold insS insL
  have hl := posI_len e s
  rw [posI_app, posI_app, posI_all hA, posI_none hB, Nat.add_zero, List.take_length_add_append, List.drop_length_add_append, List.take_append_of_le_length hl, List.drop_append_of_le_length hl]
  simp
def remS (l : List Int) (s : Int) : List Int := l.filter fun x => decide (x ≠ s)
theorem remS_none {l : List Int} {s : Int} (h : s ∉ l) : remS l s = l := List.filter_eq_self.2 fun x hx => by
  have : x ≠ s := fun e => h (e ▸ hx)
  simpa using this
theorem remS_app {A e B : List Int} {s : Int} (hA : s ∉ A) (hB : s ∉ B) : remS (A ++ (e ++ B)) s = A ++ (remS e s ++ B) := by
  have h1 := remS_none hA
  have h2 := remS_none hB
  unfold remS at *
  rw [List.filter_append, List.filter_append, h1, h2]
theorem remS_insS {l : List Int} {s : Int} (h : s ∉ l) : remS (insS l s) s = l := by
  unfold insS insL
  generalize posI l s = n
  have e : remS [s] s = [] := by simp [remS]
  have := remS_app (A := l.take n) (e := [s]) (B := l.drop n) (s := s) (fun hm => h (List.mem_of_mem_take hm)) (fun hm => h (List.mem_of_mem_drop hm))
  rw [e] at this
  simpa using this
theorem mem_remS (l : List Int) (s x : Int) : x ∈ remS l s ↔ x ∈ l ∧ x ≠ s := by simp [remS]
theorem rise_remS {l : List Int} {s : Int} (h : l.Pairwise (· < ·)) : (remS l s).Pairwise (· < ·) := List.Pairwise.sublist List.filter_sublist h
theorem rise_ext : ∀ {a b : List Int}, a.Pairwise (· < ·) → b.Pairwise (· < ·) → (∀ x, x ∈ a ↔ x ∈ b) → a = b
  | [], [], _, _, _ => rfl
  | [], y :: b, _, _, h => by have := (h y).2 (by simp); cases this
  | x :: a, [], _, _, h => by have := (h x).1 (by simp); cases this
  | x :: a, y :: b, ha, hb, h => by
    obtain ⟨a1, a2⟩ := List.pairwise_cons.1 ha
    obtain ⟨b1, b2⟩ := List.pairwise_cons.1 hb
    have hxy : x = y := by
      rcases List.mem_cons.1 ((h x).1 (by simp)) with h1 | h1
      · exact h1
      · rcases List.mem_cons.1 ((h y).2 (by simp)) with h2 | h2
        · exact h2.symm
        · have := a1 y h2; have := b1 x h1; omega
    subst hxy
    rw [rise_ext a2 b2 fun z => ?_]
    constructor
    · intro hz
      rcases List.mem_cons.1 ((h z).1 (List.mem_cons_of_mem _ hz)) with h1 | h1
      · have := a1 z hz; omega
      · exact h1
    · intro hz
      rcases List.mem_cons.1 ((h z).2 (List.mem_cons_of_mem _ hz)) with h1 | h1
      · have := b1 z hz; omega
      · exact h1

/-! ### Chains with what follows -/
def hdN (p : List Pt) (h : Int) : Int := match p with | [] => h | x :: _ => x.1
def mkN : List Pt → Int → List Ck
  | [], _ => []
  | x :: r, h => (x.1, x.2, hdN r h, false) :: mkN r h
theorem mkC_N : ∀ p : List Pt, mkC p = mkN p 0
  | [] => rfl
  | x :: r => by rw [mkC, mkN, mkC_N r]; cases r <;> rfl
theorem hdN_app (p q : List Pt) (h : Int) : hdN (p ++ q) h = hdN p (hdN q h) := by cases p <;> rfl
theorem mkN_app (p q : List Pt) (h : Int) : mkN (p ++ q) h = mkN p (hdN q h) ++ mkN q h := by
  induction p with
  | nil => rfl
  | cons x r ih => rw [List.cons_append, mkN, mkN, ih, hdN_app]; rfl
theorem nosC_mkN (p : List Pt) (h : Int) : nosC (mkN p h) = p.map (·.1) := by
  induction p with
  | nil => rfl
  | cons x r ih => rw [mkN, List.map_cons, ← ih]; rfl
theorem mkC_split (p1 : List Pt) (n : Int) (e : List Int) (p2 : List Pt) : mkC (p1 ++ (n, e) :: p2) = mkN p1 n ++ (n, e, hdN p2 0, false) :: mkC p2 := by
  rw [mkC_N, mkN_app, mkC_N]; rfl
theorem mkN_length (p : List Pt) (h : Int) : (mkN p h).length = p.length := by
  have := congrArg List.length (nosC_mkN p h)
  simpa [nosC] using this
theorem getD_split (p1 : List Pt) (n : Int) (e : List Int) (p2 : List Pt) : (mkC (p1 ++ (n, e) :: p2)).getD p1.length ck0 = (n, e, hdN p2 0, false) := by
  rw [mkC_split, List.getD_eq_getElem?_getD, List.getElem?_append_right (by rw [mkN_length]; exact Nat.le_refl _), mkN_length, Nat.sub_self]
  rfl
theorem idsP_app (p q : List Pt) : idsP (p ++ q) = idsP p ++ idsP q := List.flatMap_append
theorem idsP_cons (x : Pt) (q : List Pt) : idsP (x :: q) = x.2 ++ idsP q := rfl
theorem mem_idsP {p : List Pt} {x : Int} : x ∈ idsP p ↔ ∃ y ∈ p, x ∈ y.2 := by simp [idsP]

/-- What holds of a chain's parts, by its head and the others. -/
def goodT (r : List Pt) : Prop := ∀ x ∈ r, 0 < x.1 ∧ x.2 ≠ []
structure GoodC (p : List Pt) : Prop where
  nod : (p.map (·.1)).Nodup
  hd : ∀ x r, p = x :: r → x.1 = 0 ∧ goodT r
  len : ∀ x ∈ p, x.2.length ≤ 4
  ris : (idsP p).Pairwise (· < ·)
  nn : ∀ y ∈ idsP p, 0 ≤ y
theorem good_of {p : List Pt} (h : ChP p) : GoodC p := by
  obtain ⟨r1, r2⟩ := (riseF_iff _ _).1 h.ris
  refine ⟨h.nod, ?_, fun x hx => ?_, r2, fun y hy => by have := r1 y hy; omega⟩
  · rintro x r rfl
    refine ⟨((h.pos 0 (by simp)).2).2 rfl, fun y hy => ?_⟩
    obtain ⟨j, hj, rfl⟩ := List.getElem_of_mem hy
    have h1 := h.pos (j + 1) (by simpa using hj)
    have h2 := h.len (j + 1) (by simpa using hj)
    simp only [List.getElem_cons_succ] at h1 h2
    refine ⟨?_, h2.2 (by omega)⟩
    have : r[j].1 ≠ 0 := fun e => by have := h1.2.1 e; omega
    omega
  · obtain ⟨j, hj, rfl⟩ := List.getElem_of_mem hx
    exact (h.len j hj).1
theorem GoodC.chp {p : List Pt} (h : GoodC p) : ChP p := by
  refine ⟨h.nod, fun i hi => ?_, fun i hi => ⟨h.len _ (List.getElem_mem hi), fun h0 => ?_⟩, (riseF_iff _ _).2 ⟨fun x hx => by have := h.nn x hx; omega, h.ris⟩⟩
  · cases p with
    | nil => simp at hi
    | cons x r =>
      obtain ⟨h1, h2⟩ := h.hd x r rfl
      cases i with
      | zero => simp [h1]
      | succ i =>
        have hi' : i < r.length := by simpa using hi
        have := (h2 r[i] (List.getElem_mem hi')).1
        simp only [List.getElem_cons_succ]
        omega
  · cases p with
    | nil => simp at hi
    | cons x r =>
      obtain ⟨h1, h2⟩ := h.hd x r rfl
      cases i with
      | zero => omega
      | succ i =>
        have hi' : i < r.length := by simpa using hi
        exact (h2 r[i] (List.getElem_mem hi')).2
theorem good_nil : GoodC [] := ⟨by simp, by simp, by simp, by simp [idsP], by simp [idsP]⟩
theorem GoodC.right {p : List Pt} (h : GoodC p) : rightC (mkC p) = true := (right_mkC p).2 h.chp
theorem good_right {l : List Ck} (h : rightC l = true) : ∃ p, GoodC p ∧ l = mkC p := ⟨ptsC l, good_of (.pts h), right_pts h⟩
theorem GoodC.short {p : List Pt} (h : GoodC p) : p.length ≤ (idsP p).length + 1 := by
  cases p with
  | nil => simp
  | cons x r =>
    have h2 := (h.hd x r rfl).2
    clear h
    have : r.length ≤ (idsP r).length := by
      induction r with
      | nil => simp
      | cons y r ih =>
        have := ih fun z hz => h2 z (List.mem_cons_of_mem _ hz)
        have h3 := List.length_pos_iff.2 (h2 y (by simp)).2
        rw [idsP_cons, List.length_append, List.length_cons]
        omega
    rw [idsP_cons, List.length_append, List.length_cons]
    omega

/-! ### The place of an id -/
def isP (id : Int) (c : Ck) : Prop := c.2.1 ≠ [] ∧ c.2.1.getD 0 0 ≤ id
theorem placeF_spec (id : Int) : ∀ (l : List Ck) (i a : Nat), (placeF id l i a = a ∧ ∀ c ∈ l, ¬ isP id c) ∨ ∃ l1 c l2, l = l1 ++ c :: l2 ∧ isP id c ∧ (∀ d ∈ l2, ¬ isP id d) ∧ placeF id l i a = i + l1.length
  | [], i, a => .inl ⟨rfl, by simp⟩
  | c :: r, i, a => by
    rcases placeF_spec id r (i + 1) (if c.2.1 ≠ [] ∧ c.2.1.getD 0 0 ≤ id then i else a) with ⟨h1, h2⟩ | ⟨l1, d, l2, h1, h2, h3, h4⟩
    · by_cases hc : isP id c
      · exact .inr ⟨[], c, r, rfl, hc, h2, by rw [placeF, h1]; exact if_pos hc⟩
      · refine .inl ⟨by rw [placeF, h1]; exact if_neg hc, fun d hd => ?_⟩
        rcases List.mem_cons.1 hd with rfl | hd
        · exact hc
        · exact h2 d hd
    · exact .inr ⟨c :: l1, d, l2, by rw [h1]; rfl, h2, h3, by rw [placeF, h4]; simp; omega⟩
theorem first_le {e : List Int} (h : e.Pairwise (· < ·)) {x : Int} (hx : x ∈ e) : e.getD 0 0 ≤ x := by
  cases e with
  | nil => cases hx
  | cons y r =>
    show y ≤ x
    rcases List.mem_cons.1 hx with rfl | hx
    · exact Int.le_refl _
    · have := (List.pairwise_cons.1 h).1 x hx; omega
theorem first_mem {e : List Int} (h : e ≠ []) : e.getD 0 0 ∈ e := by
  cases e with
  | nil => exact (h rfl).elim
  | cons y r => simp
theorem ris_part {p : List Pt} (h : (idsP p).Pairwise (· < ·)) {y : Pt} (hy : y ∈ p) : y.2.Pairwise (· < ·) := by
  obtain ⟨a, b, rfl⟩ := List.append_of_mem hy
  rw [idsP_app, idsP_cons] at h
  exact (List.pairwise_append.1 (List.pairwise_append.1 h).2.1).1
/-- Ids ahead of the place are smaller, those behind it greater. -/
theorem place_split {p : List Pt} (hG : GoodC p) (hp : p ≠ []) (id : Int) : ∃ p1 n e p2, p = p1 ++ (n, e) :: p2 ∧ placeC (mkC p) id = p1.length ∧ (∀ x ∈ idsP p1, x < id) ∧ ∀ x ∈ idsP p2, id < x := by
  have behind : ∀ q : List Pt, (∀ y ∈ q, y ∈ p) → goodT q → (∀ c ∈ mkC q, ¬ isP id c) → ∀ x ∈ idsP q, id < x := fun q hq hT hc x hx => by
    obtain ⟨y, hy, hxy⟩ := mem_idsP.1 hx
    have h1 := (hT y hy).2
    have hm : y ∈ ptsC (mkC q) := by rw [ptsC_mkC]; exact hy
    obtain ⟨c, hcm, rfl⟩ := List.mem_map.1 hm
    have h2 := hc c hcm
    have h3 := first_le (ris_part hG.ris (hq _ hy)) hxy
    have h4 : ¬ c.2.1.getD 0 0 ≤ id := fun h => h2 ⟨h1, h⟩
    have h3 : c.2.1.getD 0 0 ≤ x := h3
    omega
  rcases placeF_spec id (mkC p) 0 0 with ⟨h1, h2⟩ | ⟨l1, c, l2, h1, h2, h3, h4⟩
  · obtain ⟨x, r, rfl⟩ := List.exists_cons_of_ne_nil hp
    refine ⟨[], x.1, x.2, r, rfl, h1, by simp [idsP], behind r (fun y hy => List.mem_cons_of_mem _ hy) (hG.hd x r rfl).2 fun c hc => h2 c (by rw [mkC]; exact List.mem_cons_of_mem _ hc)⟩
  · have hpp : p = ptsC l1 ++ (c.1, c.2.1) :: ptsC l2 := by
      rw [← ptsC_mkC p, h1]; simp [ptsC]
    have hr := hG.ris
    have hsub : ∀ y ∈ ptsC l2, y ∈ p := fun y hy => by rw [hpp]; exact List.mem_append_right _ (List.mem_cons_of_mem _ hy)
    have hC2 : mkC (ptsC l2) = l2 := by
      have := h1
      rw [hpp, mkC_split] at this
      have hl : (mkN (ptsC l1) c.1).length = l1.length := by rw [mkN_length]; simp [ptsC]
      exact (List.cons.inj (List.append_inj this hl).2).2
    have hT : goodT (ptsC l2) := by
      cases l1 with
      | nil => exact (hG.hd _ _ hpp).2
      | cons d l1 =>
        have := (hG.hd _ _ hpp).2
        intro y hy
        exact this y (List.mem_append_right _ (List.mem_cons_of_mem _ hy))
    refine ⟨ptsC l1, c.1, c.2.1, ptsC l2, hpp, ?_, fun x hx => ?_, behind _ hsub hT (by rw [hC2]; exact h3)⟩
    · unfold placeC; rw [h4]; simp [ptsC]
    · rw [hpp, idsP_app, idsP_cons] at hr
      have := (List.pairwise_append.1 hr).2.2 x hx _ (List.mem_append_left _ (first_mem h2.1))
      have h5 : c.2.1.getD 0 0 ≤ id := h2.2
      have this : x < c.2.1.getD 0 0 := this
      omega

/-! ### Apply -/
variable {β : Type}
theorem getI_delI {k j : Int} (h : j ≠ k) : ∀ m : List (Int × β), getI (delI k m) j = getI m j
  | [] => rfl
  | x :: r => by
    rw [delI]
    split
    · rename_i e
      rw [getI_cons, if_neg (fun e2 => h (by rw [← e2, e]))]
    · rw [getI_cons, getI_cons, getI_delI h r]
theorem delI_length {k : Int} {v : β} : ∀ {m : List (Int × β)}, getI m k = some v → (delI k m).length + 1 = m.length
  | [], h => by cases h
  | x :: r, h => by
    rw [delI]
    split
    · rfl
    · rename_i e
      rw [getI_cons, if_neg e] at h
      rw [List.length_cons, List.length_cons, delI_length h]
theorem walk_mkC : ∀ (p : List Pt) (m : List (Int × Ck)) (f : Nat), p ≠ [] → (p.map (·.1)).Nodup → (∀ x ∈ p.tail, x.1 ≠ 0) → (∀ c ∈ mkC p, getI m c.1 = some c) → m.length < f → walkF f m (hdN p 0) = mkC p
  | [], _, _, h, _, _, _, _ => (h rfl).elim
  | _ :: _, _, 0, _, _, _, _, hf => by omega
  | x :: r, m, f + 1, _, hn, ht, hm, hf => by
    have hx := hm (x.1, x.2, (r.headD (0, [])).1, false) (by simp [mkC])
    have hl : (delI x.1 m).length + 1 = m.length := delI_length hx
    show walkF (f + 1) m x.1 = _
    rw [walkF]
    simp only at hx
    rw [hx]
    show (x.1, x.2, (r.headD (0, [])).1, false) :: _ = _
    rw [mkC]
    congr 1
    cases r with
    | nil => rfl
    | cons y r =>
      have hy : y.1 ≠ 0 := ht y (by simp)
      show (if y.1 = 0 then [] else walkF f (delI x.1 m) y.1) = _
      rw [if_neg hy]
      rw [List.map_cons, List.nodup_cons] at hn
      refine walk_mkC (y :: r) (delI x.1 m) f (by simp) hn.2 (fun z hz => ht z (List.mem_cons_of_mem _ hz)) (fun c hc => ?_) (by omega)
      rw [getI_delI (fun e => hn.1 ?_), hm c (by rw [mkC]; exact List.mem_cons_of_mem _ hc)]
      rw [← e, ← nosC_mkC]
      exact List.mem_map.2 ⟨c, hc, rfl⟩
def putAll (m : List (Int × Ck)) (l : List Ck) : List (Int × Ck) := l.foldl (fun m c => putI c.1 c m) m
theorem putAll_not : ∀ (l : List Ck) (m : List (Int × Ck)) {n : Int}, n ∉ nosC l → getI (putAll m l) n = getI m n
  | [], m, n, _ => rfl
  | d :: r, m, n, h => by
    show getI (putAll (putI d.1 d m) r) n = _
    rw [putAll_not r _ fun hm => h (List.mem_cons_of_mem _ hm), getI_putI, if_neg fun e => h (by simp [nosC, e])]
theorem putAll_mem : ∀ (l : List Ck) (m : List (Int × Ck)) {c : Ck}, (nosC l).Nodup → c ∈ l → getI (putAll m l) c.1 = some c
  | [], m, c, _, h => by cases h
  | d :: r, m, c, hn, h => by
    have hn2 : d.1 ∉ nosC r ∧ (nosC r).Nodup := List.nodup_cons.1 hn
    show getI (putAll (putI d.1 d m) r) c.1 = _
    rcases List.mem_cons.1 h with rfl | h
    · rw [putAll_not r _ hn2.1, getI_putI, if_pos rfl]
    · exact putAll_mem r _ hn2.2 h
theorem byNo_app (l ch : List Ck) : byNo (l ++ ch) = putAll (byNo l) ch := by
  unfold byNo putAll; rw [List.foldl_append]
theorem apply_eq {p p' : List Pt} {ch : List Ck} (hG : GoodC p) (hG' : GoodC p') (hp' : p' ≠ []) (hn : (nosC ch).Nodup) (h : ∀ c ∈ mkC p', c ∈ ch ∨ c ∈ mkC p ∧ c.1 ∉ nosC ch) : applyK (mkC p) ch = mkC p' := by
  obtain ⟨x, r, rfl⟩ := List.exists_cons_of_ne_nil hp'
  obtain ⟨h0, hT⟩ := hG'.hd x r rfl
  unfold applyK
  have := walk_mkC (x :: r) (byNo (mkC p ++ ch)) ((byNo (mkC p ++ ch)).length + 1) hp' hG'.nod (fun y hy => by have := (hT y hy).1; omega) (fun c hc => ?_) (by omega)
  · have e : hdN (x :: r) 0 = 0 := h0
    rwa [e] at this
  · rw [byNo_app]
    rcases h c hc with h1 | ⟨h1, h2⟩
    · exact putAll_mem ch _ hn h1
    · rw [putAll_not ch _ h2]
      exact putAll_mem (mkC p) [] (by rw [nosC_mkC]; exact hG.nod) h1
/-! ### Insert -/
theorem place_part {p1 : List Pt} {n : Int} {e : List Int} {p2 : List Pt} (hG : GoodC (p1 ++ (n, e) :: p2)) : e.length ≤ 4 ∧ (p1 = [] ∨ e ≠ []) ∧ (p1 = [] ∧ n = 0 ∨ p1 ≠ [] ∧ 0 < n) ∧ goodT p2 ∧ (∀ x ∈ p1, x.1 ≠ n) ∧ (∀ x ∈ p2, x.1 ≠ n) := by
  have hm : (n, e) ∈ p1 ++ (n, e) :: p2 := by simp
  have hN := hG.nod
  rw [List.map_append, List.map_cons, List.nodup_append] at hN
  obtain ⟨n1, n2, n3⟩ := hN
  rw [List.nodup_cons] at n2
  refine ⟨hG.len _ hm, ?_, ?_, ?_, fun x hx he => ?_, fun x hx he => ?_⟩
  · cases p1 with
    | nil => exact .inl rfl
    | cons x r => exact .inr ((hG.hd _ _ rfl).2 (n, e) (by simp)).2
  · cases p1 with
    | nil => exact .inl ⟨rfl, (hG.hd _ _ rfl).1⟩
    | cons x r => exact .inr ⟨by simp, ((hG.hd _ _ rfl).2 (n, e) (by simp)).1⟩
  · cases p1 with
    | nil => exact (hG.hd _ _ rfl).2
    | cons x r => exact fun y hy => (hG.hd _ _ rfl).2 y (by simp [hy])
  · exact n3 _ (List.mem_map.2 ⟨x, hx, rfl⟩) n (by simp) he
  · exact n2.1 (List.mem_map.2 ⟨x, hx, he⟩)
/-- One chunk changed. -/
theorem good_change {p1 : List Pt} {n : Int} {e e' : List Int} {p2 : List Pt} (hG : GoodC (p1 ++ (n, e) :: p2)) (hl : e'.length ≤ 4) (hne : p1 = [] ∨ e' ≠ []) (hr : (idsP (p1 ++ (n, e') :: p2)).Pairwise (· < ·)) (hn : ∀ y ∈ idsP (p1 ++ (n, e') :: p2), 0 ≤ y) :
    GoodC (p1 ++ (n, e') :: p2) := by
  refine ⟨?_, fun x r hx => ?_, fun x hx => ?_, hr, hn⟩
  · have := hG.nod
    simpa using this
  · cases p1 with
    | nil =>
      have h := hG.hd _ _ rfl
      simp only [List.nil_append, List.cons.injEq] at hx
      rw [← hx.1, ← hx.2]
      exact h
    | cons y q =>
      have h := hG.hd _ _ rfl
      simp only [List.cons_append, List.cons.injEq] at hx
      rw [← hx.1, ← hx.2]
      refine ⟨h.1, fun z hz => ?_⟩
      rcases List.mem_append.1 hz with hz | hz
      · exact h.2 z (List.mem_append_left _ hz)
      · rcases List.mem_cons.1 hz with rfl | hz
        · exact ⟨(h.2 (n, e) (by simp)).1, hne.resolve_left (by simp)⟩
        · exact h.2 z (by simp [hz])
  · rcases List.mem_append.1 hx with hx | hx
    · exact hG.len x (List.mem_append_left _ hx)
    · rcases List.mem_cons.1 hx with rfl | hx
      · exact hl
      · exact hG.len x (by simp [hx])
theorem apply_change {p1 : List Pt} {n : Int} {e e' : List Int} {p2 : List Pt} (hG : GoodC (p1 ++ (n, e) :: p2)) (hG' : GoodC (p1 ++ (n, e') :: p2)) :
    applyK (mkC (p1 ++ (n, e) :: p2)) [(n, e', hdN p2 0, false)] = mkC (p1 ++ (n, e') :: p2) := by
  obtain ⟨_, _, _, _, h1, h2⟩ := place_part hG
  refine apply_eq hG hG' (by simp) (by simp [nosC]) fun c hc => ?_
  have hne : ∀ (q : List Pt) (h : Int), (∀ x ∈ q, x.1 ≠ n) → c ∈ mkN q h → c.1 ∉ nosC [(n, e', hdN p2 0, false)] := fun q h hq hcq he => by
    have : c.1 ∈ q.map (·.1) := by rw [← nosC_mkN q h]; exact List.mem_map.2 ⟨c, hcq, rfl⟩
    obtain ⟨x, hx, ex⟩ := List.mem_map.1 this
    exact hq x hx (by rw [ex]; simpa [nosC] using he)
  rw [mkC_split] at hc ⊢
  rcases List.mem_append.1 hc with hc | hc
  · exact .inr ⟨List.mem_append_left _ hc, hne p1 n h1 hc⟩
  · rcases List.mem_cons.1 hc with rfl | hc
    · exact .inl (by simp)
    · exact .inr ⟨List.mem_append_right _ (List.mem_cons_of_mem _ hc), hne p2 0 h2 (by rwa [mkC_N] at hc)⟩
theorem apply_two {p1 : List Pt} {n k : Int} {e e1 e2 : List Int} {p2 : List Pt} (hG : GoodC (p1 ++ (n, e) :: p2)) (hG' : GoodC (p1 ++ (n, e1) :: (k, e2) :: p2)) (hk : k ∉ nosC (mkC (p1 ++ (n, e) :: p2))) :
    applyK (mkC (p1 ++ (n, e) :: p2)) [(n, e1, k, false), (k, e2, hdN p2 0, false)] = mkC (p1 ++ (n, e1) :: (k, e2) :: p2) := by
  obtain ⟨_, _, _, _, h1, h2⟩ := place_part hG
  rw [nosC_mkC] at hk
  have hkn : n ≠ k := fun e => hk (by simp [e])
  refine apply_eq hG hG' (by simp) (by simp [nosC, hkn]) fun c hc => ?_
  have hne : ∀ (q : List Pt) (h : Int), (∀ x ∈ q, x.1 ≠ n) → (∀ x ∈ q, x.1 ≠ k) → c ∈ mkN q h → c.1 ∉ nosC [(n, e1, k, false), (k, e2, hdN p2 0, false)] := fun q h hq hq2 hcq he => by
    have : c.1 ∈ q.map (·.1) := by rw [← nosC_mkN q h]; exact List.mem_map.2 ⟨c, hcq, rfl⟩
    obtain ⟨x, hx, ex⟩ := List.mem_map.1 this
    have he : c.1 = n ∨ c.1 = k := by simpa [nosC] using he
    rcases he with he | he
    · exact hq x hx (by rw [ex]; exact he)
    · exact hq2 x hx (by rw [ex]; exact he)
  have hk1 : ∀ x ∈ p1, x.1 ≠ k := fun x hx e => hk (by rw [← e]; exact List.mem_map.2 ⟨x, by simp [hx], rfl⟩)
  have hk2 : ∀ x ∈ p2, x.1 ≠ k := fun x hx e => hk (by rw [← e]; exact List.mem_map.2 ⟨x, by simp [hx], rfl⟩)
  rw [mkC_split] at hc ⊢
  rcases List.mem_append.1 hc with hc | hc
  · exact .inr ⟨List.mem_append_left _ hc, hne p1 n h1 hk1 hc⟩
  · rcases List.mem_cons.1 hc with rfl | hc
    · exact .inl (by simp [hdN])
    · rw [mkC_N, mkN] at hc
      rcases List.mem_cons.1 hc with rfl | hc
      · exact .inl (by simp)
      · exact .inr ⟨List.mem_append_right _ (List.mem_cons_of_mem _ (by rw [mkC_N]; exact hc)), hne p2 0 h2 hk2 hc⟩
theorem good_two {p1 : List Pt} {n k : Int} {e e1 e2 : List Int} {p2 : List Pt} (hG : GoodC (p1 ++ (n, e) :: p2)) (l1 : e1.length ≤ 4) (l2 : e2.length ≤ 4) (n1 : e1 ≠ []) (n2 : e2 ≠ []) (k0 : 0 < k) (hk : k ∉ nosC (mkC (p1 ++ (n, e) :: p2)))
    (hr : (idsP (p1 ++ (n, e1) :: (k, e2) :: p2)).Pairwise (· < ·)) (hn : ∀ y ∈ idsP (p1 ++ (n, e1) :: (k, e2) :: p2), 0 ≤ y) : GoodC (p1 ++ (n, e1) :: (k, e2) :: p2) := by
  rw [nosC_mkC] at hk
  refine ⟨?_, fun x r hx => ?_, fun x hx => ?_, hr, hn⟩
  · have h1 := hG.nod
    have e1 : (p1 ++ (n, e1) :: (k, e2) :: p2).map (·.1) = (p1.map (·.1) ++ [n]) ++ k :: p2.map (·.1) := by simp
    have e2 : (p1 ++ (n, e) :: p2).map (·.1) = (p1.map (·.1) ++ [n]) ++ p2.map (·.1) := by simp
    rw [e2] at h1 hk
    rw [e1, List.Perm.nodup_iff List.perm_middle, List.nodup_cons]
    exact ⟨hk, h1⟩
  · cases p1 with
    | nil =>
      have h := hG.hd _ _ rfl
      simp only [List.nil_append, List.cons.injEq] at hx
      rw [← hx.1, ← hx.2]
      refine ⟨h.1, fun z hz => ?_⟩
      rcases List.mem_cons.1 hz with rfl | hz
      · exact ⟨k0, n2⟩
      · exact h.2 z hz
    | cons y q =>
      have h := hG.hd _ _ rfl
      simp only [List.cons_append, List.cons.injEq] at hx
      rw [← hx.1, ← hx.2]
      refine ⟨h.1, fun z hz => ?_⟩
      rcases List.mem_append.1 hz with hz | hz
      · exact h.2 z (List.mem_append_left _ hz)
      · rcases List.mem_cons.1 hz with rfl | hz
        · exact ⟨(h.2 (n, e) (by simp)).1, n1⟩
        · rcases List.mem_cons.1 hz with rfl | hz
          · exact ⟨k0, n2⟩
          · exact h.2 z (by simp [hz])
  · rcases List.mem_append.1 hx with hx | hx
    · exact hG.len x (List.mem_append_left _ hx)
    · rcases List.mem_cons.1 hx with rfl | hx
      · exact l1
      · rcases List.mem_cons.1 hx with rfl | hx
        · exact l2
        · exact hG.len x (by simp [hx])
theorem keep_split {p1 : List Pt} {n : Int} {e : List Int} {p2 : List Pt} {ch X : List Ck} (hn : n ∈ nosC ch) (h1 : ∀ c ∈ mkN p1 n, c ∈ X) (h2 : ∀ c ∈ mkC p2, c ∈ X) : ∀ c ∈ mkC (p1 ++ (n, e) :: p2), c.1 ∉ nosC ch → c ∈ X := by
  intro c hc hcn
  rw [mkC_split] at hc
  rcases List.mem_append.1 hc with hc | hc
  · exact h1 c hc
  · rcases List.mem_cons.1 hc with rfl | hc
    · exact (hcn hn).elim
    · exact h2 c hc
theorem insK_apply {p : List Pt} (hG : GoodC p) {id : Int} (h0 : 0 ≤ id) (h1 : id < 1099511627776) (hn : id ∉ idsP p) :
    ∃ ch p', insK (mkC p) id = (ch, 0) ∧ (1 ≤ ch.length ∧ ch.length ≤ 2 ∧ ∀ c ∈ ch, c.2.1.length ≤ 4) ∧ applyK (mkC p) ch = mkC p' ∧ GoodC p' ∧ idsP p' = insS (idsP p) id ∧ ∀ c ∈ mkC p, c.1 ∉ nosC ch → c ∈ mkC p' := by
  have hR := hG.right
  have hA : ¬ (id < 0 ∨ 1099511627776 ≤ id) := by omega
  have hC : ¬ (idsC (mkC p)).contains id = true := by rw [idsC_mkC]; simpa using hn
  by_cases hp : p = []
  · subst hp
    refine ⟨[(0, [id], 0, false)], [(0, [id])], ?_, ⟨by simp, by simp, by simp⟩, rfl, ⟨by simp, ?_, by simp, by simp [idsP], by simpa [idsP] using h0⟩, rfl, fun c hc => by cases hc⟩
    · unfold insK
      rw [if_pos hR, if_neg hA, if_neg hC]; rfl
    · intro x r hx
      simp only [List.cons.injEq] at hx
      rw [← hx.1, ← hx.2]
      exact ⟨rfl, fun y hy => by cases hy⟩
  · obtain ⟨p1, n, e, p2, rfl, hpl, hlo, hhi⟩ := place_split hG hp id
    obtain ⟨he4, _, _, _, _, _⟩ := place_part hG
    have hE : ¬ (mkC (p1 ++ (n, e) :: p2)).isEmpty = true := by rw [mkC_split]; simp
    have hgd := getD_split p1 n e p2
    have hI : insK (mkC (p1 ++ (n, e) :: p2)) id = if (insS e id).length ≤ 4 then ([(n, insS e id, hdN p2 0, false)], 0)
        else ([(n, (insS e id).take 3, (freeN (nosC (mkC (p1 ++ (n, e) :: p2))) : Int), false), ((freeN (nosC (mkC (p1 ++ (n, e) :: p2))) : Int), (insS e id).drop 3, hdN p2 0, false)], 0) := by
      unfold insK
      rw [if_pos hR, if_neg hA, if_neg hC, if_neg hE, hpl]
      simp only [hgd]
      rfl
    have hids : idsP (p1 ++ (n, e) :: p2) = idsP p1 ++ (e ++ idsP p2) := by rw [idsP_app, idsP_cons]
    have hnew : insS (idsP (p1 ++ (n, e) :: p2)) id = idsP p1 ++ (insS e id ++ idsP p2) := by rw [hids, insS_app hlo hhi]
    have hris := rise_insS hG.ris hn
    have hnn : ∀ y ∈ insS (idsP (p1 ++ (n, e) :: p2)) id, 0 ≤ y := fun y hy => by
      rcases (mem_insS _ _ _).1 hy with rfl | hy
      · exact h0
      · exact hG.nn y hy
    have hlen := insS_length e id
    by_cases h4 : (insS e id).length ≤ 4
    · have hids' : idsP (p1 ++ (n, insS e id) :: p2) = insS (idsP (p1 ++ (n, e) :: p2)) id := by rw [hnew, idsP_app, idsP_cons]
      have hG' := good_change hG h4 (.inr (by intro h; rw [h] at hlen; simp at hlen)) (by rw [hids']; exact hris) (by rw [hids']; exact hnn)
      refine ⟨_, p1 ++ (n, insS e id) :: p2, by rw [hI, if_pos h4], ⟨by simp, by simp, by simpa using h4⟩, apply_change hG hG', hG', hids', ?_⟩
      refine keep_split (by simp [nosC]) (fun c hc => ?_) (fun c hc => ?_)
      · rw [mkC_split]; exact List.mem_append_left _ hc
      · rw [mkC_split]; exact List.mem_append_right _ (List.mem_cons_of_mem _ hc)
    · obtain ⟨f1, f2, _⟩ := freeN_spec (nosC (mkC (p1 ++ (n, e) :: p2)))
      generalize freeN (nosC (mkC (p1 ++ (n, e) :: p2))) = k at *
      have hids' : idsP (p1 ++ (n, (insS e id).take 3) :: ((k : Int), (insS e id).drop 3) :: p2) = insS (idsP (p1 ++ (n, e) :: p2)) id := by
        rw [hnew, idsP_app, idsP_cons, idsP_cons, ← List.append_assoc (List.take 3 (insS e id)), List.take_append_drop]
      have l1 : ((insS e id).take 3).length = 3 := by rw [List.length_take]; omega
      have l2 : ((insS e id).drop 3).length = 2 := by rw [List.length_drop]; omega
      have hG' := good_two (k := (k : Int)) (e1 := (insS e id).take 3) (e2 := (insS e id).drop 3) hG (by omega) (by omega) (fun h => by rw [h] at l1; cases l1) (fun h => by rw [h] at l2; cases l2) (by omega) f2 (by rw [hids']; exact hris) (by rw [hids']; exact hnn)
      refine ⟨_, _, by rw [hI, if_neg h4], ⟨by simp, by simp, ?_⟩, apply_two hG hG' f2, hG', hids', ?_⟩
      · intro c hc
        rcases List.mem_cons.1 hc with rfl | hc
        · show ((insS e id).take 3).length ≤ 4; omega
        · rw [List.mem_singleton] at hc
          rw [hc]
          show ((insS e id).drop 3).length ≤ 4; omega
      · refine keep_split (by simp [nosC]) (fun c hc => ?_) (fun c hc => ?_)
        · rw [mkC_split]; exact List.mem_append_left _ hc
        · rw [mkC_split]
          refine List.mem_append_right _ (List.mem_cons_of_mem _ ?_)
          rw [mkC]; exact List.mem_cons_of_mem _ hc
theorem insK_twice {p : List Pt} (hG : GoodC p) {id : Int} (h0 : 0 ≤ id) (h1 : id < 1099511627776) (hn : id ∈ idsP p) : insK (mkC p) id = ([], 31) := by
  have hA : ¬ (id < 0 ∨ 1099511627776 ≤ id) := by omega
  have hC : (idsC (mkC p)).contains id = true := by rw [idsC_mkC]; simpa using hn
  unfold insK
  rw [if_pos hG.right, if_neg hA, if_pos hC]
/-! ### Remove -/
theorem good_sub {x : Pt} {r r' : List Pt} (hG : GoodC (x :: r)) (hs : List.Sublist r' r) (hr : (idsP (x :: r')).Pairwise (· < ·)) (hn : ∀ y ∈ idsP (x :: r'), 0 ≤ y) : GoodC (x :: r') := by
  refine ⟨?_, fun y q hq => ?_, fun y hy => ?_, hr, hn⟩
  · exact List.Nodup.sublist ((List.Sublist.cons_cons x hs).map _) hG.nod
  · have h := hG.hd x r rfl
    simp only [List.cons.injEq] at hq
    rw [← hq.1, ← hq.2]
    exact ⟨h.1, fun z hz => h.2 z (hs.subset hz)⟩
  · rcases List.mem_cons.1 hy with rfl | hy
    · exact hG.len _ (by simp)
    · exact hG.len y (List.mem_cons_of_mem _ (hs.subset hy))
theorem remK_apply {p : List Pt} (hG : GoodC p) {id : Int} (hm : id ∈ idsP p) :
    ∃ ch p', remK (mkC p) id = (ch, 0) ∧ (1 ≤ ch.length ∧ ch.length ≤ 2 ∧ ∀ c ∈ ch, c.2.1.length ≤ 4) ∧ applyK (mkC p) ch = mkC p' ∧ GoodC p' ∧ idsP p' = remS (idsP p) id := by
  have hR := hG.right
  have hp : p ≠ [] := by rintro rfl; cases hm
  obtain ⟨p1, n, e, p2, rfl, hpl, hlo, hhi⟩ := place_split hG hp id
  obtain ⟨he4, _, hn0, _, g1, g2⟩ := place_part hG
  have hids : idsP (p1 ++ (n, e) :: p2) = idsP p1 ++ (e ++ idsP p2) := by rw [idsP_app, idsP_cons]
  have m1 : id ∉ idsP p1 := fun h => by have := hlo id h; omega
  have m2 : id ∉ idsP p2 := fun h => by have := hhi id h; omega
  have hme : id ∈ e := by
    rw [hids] at hm
    rcases List.mem_append.1 hm with h | h
    · exact (m1 h).elim
    · rcases List.mem_append.1 h with h | h
      · exact h
      · exact (m2 h).elim
  have hgd := getD_split p1 n e p2
  have hI : remK (mkC (p1 ++ (n, e) :: p2)) id = if 0 < (remS e id).length ∨ p1.length = 0 then ([(n, remS e id, hdN p2 0, false)], 0)
      else ([(((mkC (p1 ++ (n, e) :: p2)).getD (p1.length - 1) ck0).1, ((mkC (p1 ++ (n, e) :: p2)).getD (p1.length - 1) ck0).2.1, hdN p2 0, ((mkC (p1 ++ (n, e) :: p2)).getD (p1.length - 1) ck0).2.2.2), (n, [], 0, true)], 0) := by
    unfold remK
    rw [if_pos hR, hpl]
    simp only [hgd]
    rw [if_pos (by simpa using hme)]
    rfl
  have hnew : remS (idsP (p1 ++ (n, e) :: p2)) id = idsP p1 ++ (remS e id ++ idsP p2) := by rw [hids, remS_app m1 m2]
  have hris := rise_remS (s := id) hG.ris
  have hnn : ∀ y ∈ remS (idsP (p1 ++ (n, e) :: p2)) id, 0 ≤ y := fun y hy => hG.nn y ((mem_remS _ _ _).1 hy).1
  have hle : (remS e id).length ≤ 4 := Nat.le_trans (List.length_filter_le _ _) he4
  by_cases hc : 0 < (remS e id).length ∨ p1.length = 0
  · have hids' : idsP (p1 ++ (n, remS e id) :: p2) = remS (idsP (p1 ++ (n, e) :: p2)) id := by rw [hnew, idsP_app, idsP_cons]
    have hG' := good_change hG hle (hc.elim (fun h => .inr (List.length_pos_iff.1 h)) (fun h => .inl (List.eq_nil_of_length_eq_zero h))) (by rw [hids']; exact hris) (by rw [hids']; exact hnn)
    exact ⟨_, p1 ++ (n, remS e id) :: p2, by rw [hI, if_pos hc], ⟨by simp, by simp, by simpa using hle⟩, apply_change hG hG', hG', hids'⟩
  · have hz : remS e id = [] := List.eq_nil_of_length_eq_zero (by omega)
    have hp1 : p1 ≠ [] := fun h => hc (.inr (by rw [h]; rfl))
    obtain ⟨q, ⟨m, f⟩, rfl⟩ : ∃ q x, p1 = q ++ [x] := ⟨p1.dropLast, p1.getLast hp1, (List.dropLast_concat_getLast hp1).symm⟩
    have ep : q ++ [(m, f)] ++ (n, e) :: p2 = q ++ (m, f) :: (n, e) :: p2 := by simp
    have hgd2 := getD_split q m f ((n, e) :: p2)
    have hlq : (q ++ [(m, f)]).length - 1 = q.length := by simp
    rw [hlq] at hI
    rw [hz] at hnew
    rw [ep] at hI hG hnew hris hnn ⊢
    rw [hgd2] at hI
    have hids' : idsP (q ++ (m, f) :: p2) = remS (idsP (q ++ (m, f) :: (n, e) :: p2)) id := by rw [hnew, idsP_app, idsP_app, idsP_cons]; simp [idsP]
    have hG' : GoodC (q ++ (m, f) :: p2) := by
      cases q with
      | nil => exact good_sub hG (List.sublist_cons_self _ _) (by rw [← hids'] at hris; exact hris) (by rw [← hids'] at hnn; exact hnn)
      | cons y q => exact good_sub hG (List.Sublist.append (List.Sublist.refl q) (List.Sublist.cons_cons _ (List.sublist_cons_self _ _))) (by rw [← hids'] at hris; exact hris) (by rw [← hids'] at hnn; exact hnn)
    obtain ⟨hf4, _, _, _, k1, k2⟩ := place_part hG
    have hmn : m ≠ n := fun h => k2 (n, e) (by simp) h.symm
    refine ⟨_, q ++ (m, f) :: p2, by rw [hI, if_neg hc], ⟨by simp, by simp, ?_⟩, ?_, hG', hids'⟩
    · intro c hc
      rcases List.mem_cons.1 hc with rfl | hc
      · exact hf4
      · rw [List.mem_singleton] at hc
        rw [hc]; simp
    · refine apply_eq hG hG' (by simp) (by simp [nosC, hmn]) fun c hc => ?_
      have hne : ∀ (q : List Pt) (h : Int), (∀ x ∈ q, x.1 ≠ m) → (∀ x ∈ q, x.1 ≠ n) → c ∈ mkN q h → c.1 ∉ nosC [(m, f, hdN p2 0, false), (n, [], 0, true)] := fun q h hq hq2 hcq he => by
        have : c.1 ∈ q.map (·.1) := by rw [← nosC_mkN q h]; exact List.mem_map.2 ⟨c, hcq, rfl⟩
        obtain ⟨x, hx, ex⟩ := List.mem_map.1 this
        have he : c.1 = m ∨ c.1 = n := by simpa [nosC] using he
        rcases he with he | he
        · exact hq x hx (by rw [ex]; exact he)
        · exact hq2 x hx (by rw [ex]; exact he)
      rw [mkC_split] at hc ⊢
      rcases List.mem_append.1 hc with hc | hc
      · exact .inr ⟨List.mem_append_left _ hc, hne q m k1 (fun x hx => g1 x (List.mem_append_left _ hx)) hc⟩
      · rcases List.mem_cons.1 hc with rfl | hc
        · exact .inl (by simp)
        · refine .inr ⟨List.mem_append_right _ (List.mem_cons_of_mem _ ?_), hne p2 0 (fun x hx => k2 x (List.mem_cons_of_mem _ hx)) g2 (by rwa [mkC_N] at hc)⟩
          rw [mkC]; exact List.mem_cons_of_mem _ hc
end Go.AL
end

section
namespace Go.Proofs.Ytjdjecaclbdhhaa
open Go.AL
set_option linter.unusedSimpArgs false
set_option linter.unusedVariables false
set_option maxHeartbeats 2000000
set_option maxRecDepth 20000

theorem own_push (σ : Sto) (n : Nat) : (σ.pushOwn n).own σ.nown = some n := by simp [Sto.pushOwn]
theorem own_set (σ : Sto) (p n : Nat) : (σ.setOwn p n).own p = some n := by simp [Sto.setOwn]
theorem ckv_one (o : List Ck) (x : Ck) : ckv o ++ [ckV x] = ckv (o ++ [x]) := by simp [ckv]
theorem keys_mk (m : List (Int × Ck)) : keysOk Try.prog 3 (mi ckV m) = true := keysOk_mi rfl _ _
theorem noRef_mk (k : Nat) (m : List (Int × Ck)) : AObj.noRef k (.map (mi ckV m)) = true := by
  simp only [AObj.noRef, mi, List.all_map, List.all_eq_true]
  intro x _
  simp [ckV, AVal.noRef, noRefL]
theorem cloneC_ok : EntOk Try.prog cloneCE := by
  intro xs σ; simp only [cloneCE]; split
  · rename_i es s t
    intro hc
    simp only [Bool.and_eq_true] at hc
    obtain ⟨h1, h2, h3⟩ := hc
    have h3 := lenM_of h3
    have hl : (ckv (es.map ckOf)).length = es.length := by simp
    refine ACall.args (args := [.slice (ckv (es.map ckOf)) 4 .ro]) ?_ (.cons (wk_cks t h1 h2) (.refl _))
    refine ACall.growRes (n := 4) ?_
    refine cloneC_i σ (es.map ckOf) _ (.of_none rfl) ?_
    simp only [hold_eq, true_and]
    intro b hb _
    refine brV_by (fun h => ?_) (fun h => ?_)
    · have hb1 : b = true := by simpa using h
      have : ckv (es.map ckOf) = [] := List.isEmpty_iff.1 (hb hb1)
      rw [this]
      exact .inl ⟨0, rfl, rfl, rfl⟩
    · refine gb_by (by simp only [true_or, true_and, and_true, decide_eq_true_eq, Nat.zero_add]; omega) (.inr (.inr ⟨by rw [List.nil_append], by rw [Nat.zero_add]⟩))
  · trivial

theorem byNo_take (a : List Ck) (i : Nat) (h : i < a.length) : byNo (a.take (i + 1)) = putI a[i].1 a[i] (byNo (a.take i)) := by
  rw [List.take_succ_eq_append_getElem h]
  unfold byNo
  rw [List.foldl_append]; rfl
theorem delI_len {β : Type} (k : Int) : ∀ m : List (Int × β), (delI k m).length ≤ m.length
  | [] => Nat.le_refl _
  | x :: r => by
    rw [delI]
    split
    · simp
    · rw [List.length_cons, List.length_cons]; have := delI_len k r; omega
/-- The chunks that a map holds are not too long. -/
def mapM (m : List (Int × Ck)) : Prop := ∀ n c, getI m n = some c → c.2.1.length ≤ 1000000
theorem mapM_del {m : List (Int × Ck)} (h : mapM m) : ∀ k, ∀ x ∈ delI k m, x ∈ m := by
  intro k
  clear h
  induction m with
  | nil => intro x hx; cases hx
  | cons y r ih =>
    intro x hx
    rw [delI] at hx
    split at hx
    · exact List.mem_cons_of_mem _ hx
    · rcases List.mem_cons.1 hx with rfl | hx
      · simp
      · exact List.mem_cons_of_mem _ (ih x hx)
theorem mem_putI {m : List (Int × Ck)} {k : Int} {v : Ck} : ∀ x ∈ putI k v m, x = (k, v) ∨ x ∈ m := by
  induction m with
  | nil => intro x hx; rw [putI] at hx; exact .inl (List.mem_singleton.1 hx)
  | cons y r ih =>
    intro x hx
    rw [putI] at hx
    split at hx
    · rcases List.mem_cons.1 hx with h | h
      · exact .inl h
      · exact .inr (List.mem_cons_of_mem _ h)
    · rcases List.mem_cons.1 hx with h | h
      · exact .inr (by rw [h]; simp)
      · rcases ih x h with h | h
        · exact .inl h
        · exact .inr (List.mem_cons_of_mem _ h)
theorem mem_byNo : ∀ (a : List Ck) (i : Nat), ∀ x ∈ byNo (a.take i), x.2 ∈ a
  | a, 0, x, hx => by simp [byNo] at hx
  | a, i + 1, x, hx => by
    by_cases h : i < a.length
    · rw [byNo_take a i h] at hx
      rcases mem_putI x hx with rfl | hx
      · exact List.getElem_mem h
      · exact mem_byNo a i x hx
    · rw [List.take_of_length_le (by omega), ← List.take_of_length_le (show a.length ≤ i by omega)] at hx
      exact mem_byNo a i x hx
theorem putI_len {m : List (Int × Ck)} {k : Int} {v : Ck} : (putI k v m).length ≤ m.length + 1 := by
  induction m with
  | nil => simp [putI]
  | cons y r ih =>
    rw [putI]
    split
    · simp
    · simp only [List.length_cons]; omega
theorem byNo_len : ∀ (a : List Ck) (i : Nat), (byNo (a.take i)).length ≤ i
  | a, 0 => by simp [byNo]
  | a, i + 1 => by
    by_cases h : i < a.length
    · rw [byNo_take a i h]
      have := byNo_len a i
      have := putI_len (m := byNo (a.take i)) (k := a[i].1) (v := a[i])
      omega
    · rw [List.take_of_length_le (by omega), ← List.take_of_length_le (show a.length ≤ i by omega)]
      have := byNo_len a i
      omega
theorem apply_c (l ch : List Ck) (h1 : l.length ≤ 1000000) (h2 : ch.length ≤ 1000000) (h3 : ∀ c ∈ l, c.2.1.length ≤ 1000000) (h4 : ∀ c ∈ ch, c.2.1.length ≤ 1000000) :
    ACall Try.prog 10 [.slice (ckv l) 4 .ro, .slice (ckv ch) 4 .ro] Sto.empty fun r _ => Wk r (.slice (ckv (applyK l ch)) 4 .ro) := by
  refine apply_i l ch _ (.of [cloneCE, ownSE] rfl ⟨cloneC_ok, ownS_ok, trivial⟩) ?_
  have hl1 : (ckv l).length = l.length := ckv_length l
  have hl2 : (ckv ch).length = ch.length := ckv_length ch
  simp only [hold_eq, map_ckOf, true_and, and_true, ← ckv_append]
  refine gb_by (and_tt (ckv_is _) (lenM_mk (by omega))) (gb_by (dt (dt (by omega))) ?_)
  have hA : ∀ c ∈ l ++ ch, c.2.1.length ≤ 1000000 := fun c hc => (List.mem_append.1 hc).elim (h3 c) (h4 c)
  have hAl : (l ++ ch).length ≤ 2000000 := by rw [List.length_append]; omega
  have hav : (ckv (l ++ ch)).length = (l ++ ch).length := ckv_length _
  unfold applyK
  generalize l ++ ch = a at *
  clear h3 h4
  refine loopV_intro (α := Nat × List (Int × Ck) × Sto) (fun s => applyL_S a s.2.1 (ckv a).length s.1 s.2.2) (fun s => s.1 ≤ a.length ∧ s.2.1 = byNo (a.take s.1)) (fun s => a.length - s.1) ?_ (0, [], _) ⟨Nat.zero_le _, rfl⟩
  rintro ⟨i, m, σ⟩ ⟨hi, hm⟩ L hL
  simp only at hi hm
  refine Eq.mpr (applyL_r a m (ckv a).length i σ L _) ?_
  simp only [hold_eq]
  refine brV_by (fun h => ?_) (fun h => ?_)
  · have hlt : i < a.length := by have := of_decide_eq_true h; omega
    rw [elemAt_ckv a i hlt]
    refine gb_by (dt (by omega)) (gb_by rfl (gb_by ?_ (gb_by ?_ ?_)))
    · rw [noRef_mk]; decide
    · rw [keys_mk]; rfl
    · have e : mapPut (.int .i64 a[i].1) (ckV a[i]) (mi ckV m) = mi ckV (putI a[i].1 a[i] m) := mapPut_mi _ _ _ _
      have := hL (i + 1, putI a[i].1 a[i] m, σ) ⟨hlt, by simp only; rw [byNo_take a i hlt, hm]⟩ (by simp only; omega)
      rw [i64_succ hlt (by omega)]
      unfold applyL_S at this
      rw [← e] at this
      exact this
  · have hi' : i = a.length := by have := of_decide_eq_false h; omega
    rw [hi', List.take_length] at hm
    have hlen : m.length ≤ 2000000 := by
      have := byNo_len a a.length
      rw [List.take_length, ← hm] at this; omega
    have hM : ∀ x ∈ m, x.2.2.1.length ≤ 1000000 := fun x hx => by
      refine hA _ (mem_byNo a a.length x ?_)
      rw [List.take_length, ← hm]; exact hx
    rw [← hm]
    clear hm hL
    refine leaveTo (toCut (Eq.mpr (applyA_r m σ _) (toCut ?_)))
    refine loopV_intro (α := List (Int × Ck) × List Ck × Int × Nat × Sto) (fun s => applyM_S s.1 s.2.1 s.2.2.1 s.2.2.2.1 s.2.2.2.2)
      (fun s => s.2.1 ++ walkF (s.1.length + 1) s.1 s.2.2.1 = walkF (m.length + 1) m 0 ∧ s.1.length + s.2.1.length ≤ 2000000 ∧ (∀ x ∈ s.1, x.2.2.1.length ≤ 1000000) ∧ s.2.2.2.2.own s.2.2.2.1 = some s.2.1.length) (fun s => s.1.length) ?_ (m, [], 0, _, _) ⟨rfl, by simpa using hlen, hM, own_push σ 0⟩
    rintro ⟨m', o, no, p, τ⟩ ⟨g1, g2, g3, g4⟩ L hL
    simp only at g1 g2 g3 g4
    refine Eq.mpr (applyM_r m' o no p τ L _) ?_
    have hol : (ckv o).length = o.length := ckv_length o
    have hnr : AObj.noRef 10 (.map (mi ckV m')) = true := noRef_mk _ _
    have hk := keys_mk m'
    simp only [hold_eq, mapFindS_mi, mapVal_mi, mapDel_mi, hnr, hk]
    cases hg : getI m' no with
    | none =>
      have hw : walkF (m'.length + 1) m' no = [] := by rw [walkF, hg]
      rw [hw, List.append_nil] at g1
      refine gb_by rfl (gb_by (by decide) (brV_by' (fun h => by cases h) fun _ => ?_))
      rw [← g1]
      exact Wk.ro _ _ _
    | some c =>
      have hcm := g3 _ (getI_mem hg)
      have hdl := delI_length hg
      refine gb_by rfl (gb_by (by decide) (brV_by' (fun _ => ?_) fun h => by cases h))
      refine brV_by (fun h => ?_) (fun h => ?_)
      · have h : c.2.2.2 = true := h
        have hw : walkF (m'.length + 1) m' no = [] := by rw [walkF, hg]; simp only [h, if_true]
        rw [hw, List.append_nil] at g1
        rw [← g1]
        exact Wk.ro _ _ _
      · have h : c.2.2.2 = false := h
        have hw : walkF (m'.length + 1) m' no = c :: (if c.2.2.1 = 0 then [] else walkF m'.length (delI no m') c.2.2.1) := by rw [walkF, hg]; simp only [h, Bool.false_eq_true, if_false]
        rw [hw] at g1
        have e : ckv o ++ [.agg [.int .i64 c.1, .slice (iv ((iv c.2.1).map AVal.intOf)) 1 .ro, .int .i64 c.2.2.1, .bool c.2.2.2]] = ckv (o ++ [c]) := by
          rw [map_intOf_iv]; exact ckv_one o c
        refine gb_by (ckM_mk (c := c) hcm) (gb_by (dtt (dt ⟨trivial, by rw [g4, hol], by omega, by omega⟩)) (gb_by (by decide) (brV_by (fun h0 => ?_) (fun h0 => ?_))))
        · have h0 : c.2.2.1 = 0 := by have h0 : (c.2.2.1 == 0) = true := h0
                                      simpa using h0
          rw [if_pos h0] at g1
          rw [← g1]
          exact e ▸ Wk.ro _ _ _
        · have h0 : c.2.2.1 ≠ 0 := by have h0 : (c.2.2.1 == 0) = false := h0
                                      simpa using h0
          rw [if_neg h0] at g1
          have := hL (delI no m', o ++ [c], c.2.2.1, p, τ.setOwn p ((ckv o).length + 1)) ⟨?_, ?_, fun x hx => g3 x (mapM_del (fun n d hd => g3 _ (getI_mem hd)) no x hx), ?_⟩ (by simp only; omega)
          · unfold applyM_S at this
            simp only [← e] at this
            exact this
          · simp only; rw [← g1, hdl]; simp
          · simp only [List.length_append, List.length_singleton]; omega
          · simp only [own_set, hol, List.length_append, List.length_singleton]
theorem apply_ok : EntOk Try.prog applyE := by
  intro xs σ; simp only [applyE]; split
  · rename_i es s t fs s' t'
    intro hc
    simp only [Bool.and_eq_true] at hc
    obtain ⟨h1, h2, h3, h4, h5, h6, h7, h8⟩ := hc
    have h5 := lenM_of h5; have h6 := lenM_of h6
    exact pcall_of (.cons (wk_cks t h1 h3) (.cons (wk_cks t' h2 h4) (.refl _))) (apply_c _ _ (by simpa using h5) (by simpa using h6) (ckM_of h7) (ckM_of h8)) (by simp only [noOutL, AVal.noOut, ckv_noOut, Bool.and_true]) (by simp only [noTokL, AVal.noTok, ckv_noTok, Bool.and_true, Tag.below]) (by simp only [AVal.noOut, ckv_noOut]) (by simp only [AVal.noTok, ckv_noTok, Bool.and_true, Tag.below])
  · trivial
end Go.Proofs.Ytjdjecaclbdhhaa
end

section
namespace Go.Proofs.Ytjdjecaclbdhhaa
open Go.AL Yj
set_option linter.unusedSimpArgs false
set_option linter.unusedVariables false
set_option maxHeartbeats 4000000
set_option maxRecDepth 20000

theorem fits_ok : EntOk Try.prog fitsE := by
  intro xs σ; simp only [fitsE]; split
  · rename_i n
    intro _
    refine pcall_of (.refl _) (fits_i n _ (.of_none rfl) ?_) rfl rfl rfl rfl
    simp only [hold_eq, fitsN]
    refine brV_by (fun h => ?_) (fun h => ?_)
    · rw [show decide (0 ≤ n ∧ n < 1099511627776) = decide (n < 1099511627776) from by simp [of_decide_eq_true h]]; exact Wk.refl _
    · rw [show decide (0 ≤ n ∧ n < 1099511627776) = false from by simp [of_decide_eq_false h]]; exact Wk.refl _
  · trivial
theorem bytes1_ok : EntOk Try.prog bytes1E := by
  intro xs σ; simp only [bytes1E]; split
  · rename_i n
    intro _
    refine pcall_of (.refl _) (bytes1_i n _ (.of [fitsE] rfl ⟨fits_ok, trivial⟩) ?_) rfl rfl rfl rfl
    simp only [hold_eq]
    exact Wk.refl _
  · trivial
theorem findN_at {l : List Int} {i : Nat} (h : i < l.length) (hp : ∀ y ∈ l.take i, fitsN y = true) (hx : fitsN l[i] = false) : findN l = (i : Int) := by
  have ha : ¬ l.all fitsN = true := by
    intro ha
    rw [List.all_eq_true] at ha
    rw [ha _ (List.getElem_mem h)] at hx
    cases hx
  have hi : l.findIdx (fun n => !fitsN n) = i := by
    rw [List.findIdx_eq h]
    refine ⟨by rw [hx]; rfl, fun j hj => ?_⟩
    rw [hp l[j] (List.mem_take_iff_getElem.2 ⟨j, by omega, rfl⟩)]
    rfl
  unfold findN
  rw [if_neg ha, hi]
theorem indexB_c (l : List Int) (hl : l.length ≤ 1000000) : ACall Try.prog 51 [.slice (iv l) 1 .ro, .func (.func 42) [] []] Sto.empty fun r _ => Wk r (.int .i64 (findN l)) := by
  refine indexB_i l _ (.of [bytes1E] rfl ⟨bytes1_ok, trivial⟩) ?_
  have hn : (iv l).length = l.length := iv_length l
  rw [hn]
  refine loopV_intro (α := Nat) (fun i => indexBL_S l l.length i) (fun i => i ≤ l.length ∧ ∀ y ∈ l.take i, fitsN y = true) (fun i => l.length - i) ?_ 0 ⟨Nat.zero_le _, fun x hx => by simp at hx⟩
  rintro i ⟨hi, hpre⟩ L hL
  refine Eq.mpr (indexBL_r l l.length i L _) ?_
  simp only [hold_eq]
  refine brV_by (fun h => ?_) (fun h => ?_)
  · have hlt : i < l.length := by have := of_decide_eq_true h; omega
    rw [i64_succ hlt (by omega), elemAt_iv l i hlt]
    refine gb_by (dt (by omega)) (gb_by rfl (brV_by (fun h => ?_) (fun h => ?_)))
    · have hx : fitsN l[i] = false := by
        have h : (!fitsN l[i]) = true := h
        simpa using h
      show Wk (.int .i64 (i : Int)) _
      rw [findN_at hlt hpre hx]
      exact Wk.refl _
    · have hx : fitsN l[i] = true := by
        have h : (!fitsN l[i]) = false := h
        simpa using h
      refine hL (i + 1) ⟨hlt, fun y hy => ?_⟩ (by omega)
      rw [List.take_succ_eq_append_getElem hlt] at hy
      rcases List.mem_append.1 hy with h1 | h1
      · exact hpre y h1
      · rw [List.mem_singleton] at h1; rw [h1]; exact hx
  · have hge : ¬ i < l.length := by have := of_decide_eq_false h; omega
    rw [List.take_of_length_le (by omega)] at hpre
    have ha : l.all fitsN = true := List.all_eq_true.2 hpre
    show Wk (.int .i64 (-1 : Int)) _
    unfold findN
    rw [if_pos ha]
    exact Wk.refl _
theorem indexB_ok : EntOk Try.prog indexBE := by
  intro xs σ; simp only [indexBE]; split
  · rename_i es s t g
    intro hc
    simp only [Bool.and_eq_true] at hc
    obtain ⟨hg, h1, h2, h3⟩ := hc
    have hg : g = 42 := Nat.eq_of_beq_eq_true hg
    subst hg
    exact pcall_of (.cons (wk_iv t h1 h2) (.refl _)) (indexB_c _ (by simpa using lenM_of h3)) (by simp only [noOutL, AVal.noOut, iv_noOut, Bool.and_true, Bool.and_self]) (by simp only [noTokL, AVal.noTok, iv_noTok, Bool.and_true, Tag.below, Bool.and_self]) rfl rfl
  · trivial
theorem findN_nonneg (l : List Int) : decide (0 ≤ findN l) = !l.all fitsN := by
  unfold findN
  by_cases h : l.all fitsN = true
  · rw [if_pos h, h]; rfl
  · rw [if_neg h]
    rw [Bool.not_eq_true] at h
    rw [h]
    simp
theorem containsB_c (l : List Int) (hl : l.length ≤ 1000000) : ACall Try.prog 41 [.slice (iv l) 1 .ro, .func (.func 42) [] []] Sto.empty fun r _ => Wk r (.bool (!l.all fitsN)) := by
  refine containsB_i l _ (.of [indexBE] rfl ⟨indexB_ok, trivial⟩) ?_
  intro y hy
  have hn : (iv l).length = l.length := iv_length l
  refine gb_by (and_tt (iv_isI64 l) (lenM_mk (by omega))) ?_
  rw [hold_eq, hy, map_intOf_iv, findN_nonneg]
  exact Wk.refl _
theorem containsB_ok : EntOk Try.prog containsBE := by
  intro xs σ; simp only [containsBE]; split
  · rename_i es s t g
    intro hc
    simp only [Bool.and_eq_true] at hc
    obtain ⟨hg, h1, h2, h3⟩ := hc
    have hg : g = 42 := Nat.eq_of_beq_eq_true hg
    subst hg
    rw [hold_eq]
    exact pcall_of (.cons (wk_iv t h1 h2) (.refl _)) (containsB_c _ (by simpa using lenM_of h3)) (by simp only [noOutL, AVal.noOut, iv_noOut, Bool.and_true, Bool.and_self]) (by simp only [noTokL, AVal.noTok, iv_noTok, Bool.and_true, Tag.below, Bool.and_self]) rfl rfl
  · trivial
theorem cloneO_ok : EntOk Try.prog cloneOE := by
  intro xs σ; simp only [cloneOE]; split
  · rename_i es s t
    intro hc
    simp only [Bool.and_eq_true] at hc
    obtain ⟨h1, h2, h3⟩ := hc
    have h3 := lenM_of h3
    have hl : (iv (es.map AVal.intOf)).length = es.length := by simp
    refine ACall.args (args := [.slice (iv (es.map AVal.intOf)) 1 .ro]) ?_ (.cons (wk_iv t h1 h2) (.refl _))
    refine ACall.growRes (n := 1) ?_
    refine cloneO_i σ (es.map AVal.intOf) _ (.of_none rfl) ?_
    simp only [hold_eq, true_and]
    intro b hb _
    refine brV_by (fun h => ?_) (fun h => ?_)
    · have hb1 : b = true := by simpa using h
      have : iv (es.map AVal.intOf) = [] := List.isEmpty_iff.1 (hb hb1)
      rw [this]
      exact .inl ⟨0, rfl, rfl, rfl⟩
    · refine gb_by (by simp only [true_or, true_and, and_true, decide_eq_true_eq, Nat.zero_add]; omega) (.inr (.inr ⟨by rw [List.nil_append], by rw [Nat.zero_add]⟩))
  · trivial
/-! ### Five bytes of a number -/
theorem u8_wrap (n : Int) : IntKind.u8.wrap n = n % 256 := by
  simp only [IntKind.wrap]
  first | rfl | (simp [IntKind.signed, IntKind.bits]) | omega
theorem u8_lit (n : Int) : AVal.int .u8 (IntKind.u8.wrap n) = ofByte (UInt8.ofNat (n % 256).toNat) := by
  rw [u8_wrap]
  unfold ofByte
  have h0 : 0 ≤ n % 256 := Int.emod_nonneg _ (by decide)
  have h1 : n % 256 < 256 := Int.emod_lt_of_pos _ (by decide)
  have : ((UInt8.ofNat (n % 256).toNat).toNat : Int) = n % 256 := by
    rw [UInt8.toNat_ofNat']
    omega
  rw [this]
theorem enc5_bw (n : Int) : [AVal.int .u8 (IntKind.u8.wrap (Int.fdiv n 4294967296)), .int .u8 (IntKind.u8.wrap (Int.fdiv n 16777216)), .int .u8 (IntKind.u8.wrap (Int.fdiv n 65536)), .int .u8 (IntKind.u8.wrap (Int.fdiv n 256)), .int .u8 (IntKind.u8.wrap n)] = bw (enc5 n) := by
  rw [u8_lit, u8_lit, u8_lit, u8_lit, u8_lit]
  simp only [Int.fdiv_eq_ediv_of_nonneg _ (show (0 : Int) ≤ 4294967296 by decide), Int.fdiv_eq_ediv_of_nonneg _ (show (0 : Int) ≤ 16777216 by decide), Int.fdiv_eq_ediv_of_nonneg _ (show (0 : Int) ≤ 65536 by decide), Int.fdiv_eq_ediv_of_nonneg _ (show (0 : Int) ≤ 256 by decide)]
  rfl
theorem enc5_str {n : Int} (h0 : 0 ≤ n) (h1 : n < 1099511627776) : [AVal.int .u8 (IntKind.u8.wrap (IntKind.i64.wrap (Int.tdiv n 4294967296))), .int .u8 (IntKind.u8.wrap (IntKind.i64.wrap (Int.tdiv n 16777216))), .int .u8 (IntKind.u8.wrap (IntKind.i64.wrap (Int.tdiv n 65536))), .int .u8 (IntKind.u8.wrap (IntKind.i64.wrap (Int.tdiv n 256))), .int .u8 (IntKind.u8.wrap n)].map AL.byteOf = enc5 n := by
  have t : ∀ d : Int, 0 < d → IntKind.i64.wrap (Int.tdiv n d) = Int.fdiv n d := fun d hd => by
    rw [Int.tdiv_eq_ediv_of_nonneg h0, Int.fdiv_eq_ediv_of_nonneg _ (by omega)]
    have a1 : 0 ≤ n / d := Int.ediv_nonneg h0 (by omega)
    have a2 : n / d ≤ n := Int.ediv_le_self _ h0
    exact wrap_i64 (by omega) (by omega)
  rw [t _ (by decide), t _ (by decide), t _ (by decide), t _ (by decide), enc5_bw, map_byteOf_bw]
theorem encL_take (l : List Int) (i : Nat) (h : i < l.length) : encL (l.take (i + 1)) = encL (l.take i) ++ enc5 l[i] := by
  unfold encL
  rw [List.take_succ_eq_append_getElem h, List.flatMap_append]
  simp
theorem encL_len : ∀ l : List Int, (encL l).length = 5 * l.length
  | [] => rfl
  | x :: r => by
    have := encL_len r
    show (enc5 x ++ encL r).length = _
    rw [List.length_append, this, List.length_cons]
    show 5 + _ = _
    omega
/-! ### Bytes -/
theorem bytes_c (c : Ck) (hl : c.2.1.length ≤ 1000000) : ACall Try.prog 24 [ckV c] Sto.empty fun r _ => Wk r (.tuple [.str (bytesK c).1, .int .i64 (bytesK c).2]) := by
  refine bytes_i c _ (.of [cloneOE, containsBE] rfl ⟨cloneO_ok, containsB_ok, trivial⟩) ?_
  have hn : (iv c.2.1).length = c.2.1.length := iv_length _
  refine gb_by (and_tt (iv_isI64 _) (lenM_mk (by omega))) ?_
  rw [map_intOf_iv]
  refine gb_by (by simp only [true_or, true_and, and_true, decide_eq_true_eq]; omega) ?_
  rw [setOwn_e1]
  have e1 : iv c.2.1 ++ [.int .i64 c.2.2.1] = iv (c.2.1 ++ [c.2.2.1]) := by rw [iv_append]; rfl
  rw [e1]
  obtain ⟨a, ha⟩ : ∃ a, c.2.1 ++ [c.2.2.1] = a := ⟨_, rfl⟩
  have hal : a.length = c.2.1.length + 1 := by rw [← ha]; simp
  rw [ha]
  refine toCut (Eq.mpr (bytesC_r c a ((iv c.2.1).length + 1) _) ?_)
  have hbad : bytesOk c = false → Wk (.tuple [.str [], .int .i64 2]) (.tuple [.str (bytesK c).1, .int .i64 (bytesK c).2]) := fun hb => by
    unfold bytesK
    rw [hb]
    exact Wk.refl _
  have han : (iv a).length = a.length := iv_length _
  refine brV_by' (fun hg => ?_) (fun hg => ?_)
  · simp only [hold_eq]
    refine brV_by' (fun h => ?_) (fun h => ?_)
    · have h4 : c.2.1.length ≤ 4 := by have := of_decide_eq_false h; omega
      refine gb_by (and_tt (iv_isI64 _) (lenM_mk (by omega))) ?_
      rw [map_intOf_iv]
      refine brV_by (fun hf => ?_) (fun hf => ?_)
      · refine hbad ?_
        unfold bytesOk
        rw [ha]
        have : a.all fitsN = false := by simpa using hf
        rw [this]; simp
      · have hf : a.all fitsN = true := by simpa using hf
        have hok : bytesOk c = true := by
          unfold bytesOk
          rw [ha, hf, hg]
          simp [h4]
        show loopV _ _ _ (bytesL_S a [] (iv a).length 0 1 (Sto.pushOwn (Sto.pushOwn Sto.empty ((iv c.2.1).length + 1)) 0))
        rw [han]
        refine loopV_intro (α := Nat) (fun i => bytesL_S a (encL (a.take i)) a.length i 1 (Sto.pushOwn (Sto.pushOwn Sto.empty ((iv c.2.1).length + 1)) (encL (a.take i)).length)) (fun i => i ≤ a.length) (fun i => a.length - i) ?_ 0 (Nat.zero_le _)
        intro i hi L hL
        refine Eq.mpr (bytesL_r a (encL (a.take i)) a.length i 1 _ L _) ?_
        simp only [hold_eq]
        refine brV_by (fun h => ?_) (fun h => ?_)
        · have hlt : i < a.length := by have := of_decide_eq_true h; omega
          have hel : (encL (a.take i)).length = 5 * i := by rw [encL_len, List.length_take]; omega
          have hes : (encL (a.take (i + 1))).length = (encL (a.take i)).length + 5 := by rw [encL_len, List.length_take, hel]; omega
          have hbl : (bw (encL (a.take i))).length = (encL (a.take i)).length := bw_length _
          rw [elemAt_iv a i hlt, i64_succ hlt (by omega)]
          refine gb_by (dt (by omega)) (gb_by rfl (gb_by ?_ ?_))
          · rw [hbl]
            simp only [own_e21, true_and, and_true, decide_eq_true_eq]
            omega
          · rw [setOwn_e21, hbl]
            have e2 : AVal.intOf (List.getD [AVal.int .i64 a[i]] 0 .undef) = a[i] := rfl
            rw [e2, enc5_bw, ← bw_append, ← encL_take a i hlt, ← hes]
            exact hL (i + 1) hlt (by omega)
        · have hi' : i = a.length := by have := of_decide_eq_false h; omega
          subst hi'
          rw [List.take_length]
          refine leaveTo (toCut (Eq.mpr (bytesF_r (encL a) 1 _ _) ?_))
          refine gb_by (dt (bw_isU8 _)) ?_
          rw [map_byteOf_bw]
          unfold bytesK
          rw [if_pos hok, ha]
          exact Wk.refl _
    · refine hbad ?_
      unfold bytesOk
      have : ¬ c.2.1.length ≤ 4 := by have := of_decide_eq_true h; omega
      simp [this]
  · refine hbad ?_
    unfold bytesOk
    rw [hg]; rfl
theorem bytes_ok : EntOk Try.prog bytesE := by
  intro xs σ; simp only [bytesE]; split
  · rename_i v
    intro hc
    have h2 : ckIs v = true ∧ lenM (ckOf v).2.1.length = true := by simpa only [ckM, Bool.and_eq_true] using hc
    exact pcall_of (.cons (wk_ck h2.1) (.refl _)) (bytes_c _ (lenM_of h2.2)) (by simp only [noOutL, ck_noOut, Bool.and_true]) (by simp only [noTokL, ck_noTok, Bool.and_true]) rfl rfl
  · trivial
theorem bytesR_c (c : Ck) (hl : c.2.1.length ≤ 1000000) : ACall Try.prog 25 [ckV c] Sto.empty fun r _ => Wk r (.tuple [.str (bytesK c).1, .bool ((bytesK c).2 == 0)]) := by
  refine bytesR_i c _ (.of_none rfl) ?_
  have hn : (iv c.2.1).length = c.2.1.length := iv_length _
  have hbad : bytesOk c = false → Wk (.tuple [.str [], .bool false]) (.tuple [.str (bytesK c).1, .bool ((bytesK c).2 == 0)]) := fun hb => by
    unfold bytesK
    rw [hb]
    exact Wk.refl _
  refine brV_by' (fun hg => ?_) (fun hg => ?_)
  · simp only [hold_eq]
    refine brV_by (fun h => ?_) (fun h => ?_)
    · refine hbad ?_
      unfold bytesOk
      have : ¬ c.2.1.length ≤ 4 := by have := of_decide_eq_true h; omega
      simp [this]
    · have h4 : c.2.1.length ≤ 4 := by have := of_decide_eq_false h; omega
      refine gb_by (by simp only [true_or, true_and, and_true, decide_eq_true_eq]; omega) (gb_by (by simp only [true_or, true_and, and_true, decide_eq_true_eq, List.nil_append, Nat.zero_add]; omega) ?_)
      rw [setOwn_e1]
      have e1 : [] ++ iv c.2.1 ++ [.int .i64 c.2.2.1] = iv (c.2.1 ++ [c.2.2.1]) := by rw [iv_append, List.nil_append]; rfl
      rw [e1]
      obtain ⟨a, ha⟩ : ∃ a, c.2.1 ++ [c.2.2.1] = a := ⟨_, rfl⟩
      have hal : a.length = c.2.1.length + 1 := by rw [← ha]; simp
      rw [ha]
      obtain ⟨m, hm⟩ : ∃ m, ([] ++ iv c.2.1).length + 1 = m := ⟨_, rfl⟩
      rw [hm]
      refine toCut (Eq.mpr (bytesRC_r a m _) ?_)
      have han : (iv a).length = a.length := iv_length _
      refine loopV_intro (α := Nat) (fun i => bytesRL_S a (encL (a.take i)) m i) (fun i => i ≤ a.length ∧ ∀ y ∈ a.take i, fitsN y = true) (fun i => a.length - i) ?_ 0 ⟨Nat.zero_le _, fun x hx => by simp at hx⟩
      rintro i ⟨hi, hpre⟩ L hL
      refine Eq.mpr (bytesRL_r a (encL (a.take i)) m i L _) ?_
      simp only [hold_eq]
      refine brV_by (fun h => ?_) (fun h => ?_)
      · have hlt : i < a.length := by have := of_decide_eq_true h; omega
        have hel : (encL (a.take i)).length = 5 * i := by rw [encL_len, List.length_take]; omega
        rw [elemAt_iv a i hlt, i64_succ hlt (by omega)]
        refine gb_by (dt (by omega)) (gb_by rfl ?_)
        intro x hx
        have hx : x = a[i] := hx
        have hno : fitsN x = false → bytesOk c = false := fun hf => by
          unfold bytesOk
          rw [ha]
          have : a.all fitsN = false := by
            rw [List.all_eq_false]
            exact ⟨x, by rw [hx]; exact List.getElem_mem hlt, by rw [hf]; simp⟩
          rw [this]; simp
        refine brV_by' (fun h0 => ?_) (fun h0 => ?_)
        · refine brV_by (fun h1 => ?_) (fun h1 => ?_)
          · exact hbad (hno (by have := of_decide_eq_true h1; unfold fitsN; rw [decide_eq_false_iff_not]; omega))
          · have g0 : 0 ≤ x := by have := of_decide_eq_false h0; omega
            have g1 : x < 1099511627776 := by have := of_decide_eq_false h1; omega
            refine gb_by (dt (by omega)) ?_
            rw [enc5_str g0 g1, hx, ← encL_take a i hlt]
            refine hL (i + 1) ⟨hlt, fun y hy => ?_⟩ (by omega)
            rw [List.take_succ_eq_append_getElem hlt] at hy
            rcases List.mem_append.1 hy with h2 | h2
            · exact hpre y h2
            · rw [List.mem_singleton] at h2
              rw [h2, ← hx]
              unfold fitsN
              exact dt ⟨g0, g1⟩
        · exact hbad (hno (by have := of_decide_eq_true h0; unfold fitsN; rw [decide_eq_false_iff_not]; omega))
      · have hi' : i = a.length := by have := of_decide_eq_false h; omega
        subst hi'
        rw [List.take_length] at hpre
        rw [List.take_length]
        refine leaveTo (toCut (Eq.mpr (bytesRF_r (encL a) m _) ?_))
        have hok : bytesOk c = true := by
          unfold bytesOk
          rw [ha, List.all_eq_true.2 hpre, hg]
          simp [h4]
        unfold bytesK
        rw [if_pos hok, ha]
        exact Wk.refl _
  · refine hbad ?_
    unfold bytesOk
    rw [hg]; rfl
theorem bytesR_ok : EntOk Try.prog bytesRE := by
  intro xs σ; simp only [bytesRE]; split
  · rename_i v
    intro hc
    have h2 : ckIs v = true ∧ lenM (ckOf v).2.1.length = true := by simpa only [ckM, Bool.and_eq_true] using hc
    rw [hold_eq]
    exact pcall_of (.cons (wk_ck h2.1) (.refl _)) (bytesR_c _ (lenM_of h2.2)) (by simp only [noOutL, ck_noOut, Bool.and_true]) (by simp only [noTokL, ck_noTok, Bool.and_true]) rfl rfl
  · trivial
end Go.Proofs.Ytjdjecaclbdhhaa
end

section
namespace Go.Proofs.Ytjdjecaclbdhhaa
open Go.AL Yk
set_option linter.unusedSimpArgs false
set_option linter.unusedVariables false
set_option maxHeartbeats 4000000
set_option maxRecDepth 20000

theorem numB_snoc (l : List UInt8) (b : UInt8) : numB (l ++ [b]) = numB l * 256 + (b.toNat : Int) := by simp [numB]
theorem numB_from (l : List UInt8) : ∀ a : Int, 0 ≤ a → 0 ≤ l.foldl (fun n b => n * 256 + (b.toNat : Int)) a ∧ l.foldl (fun n b => n * 256 + (b.toNat : Int)) a < (a + 1) * 256 ^ l.length := by
  induction l with
  | nil => intro a ha; simp; omega
  | cons b l ih =>
    intro a ha
    have hb := u8_lt b
    have h := ih (a * 256 + (b.toNat : Int)) (by omega)
    rw [List.foldl_cons, List.length_cons, Int.pow_succ]
    have hP : (0 : Int) ≤ 256 ^ l.length := Int.pow_nonneg (by decide)
    refine ⟨h.1, Int.lt_of_lt_of_le h.2 ?_⟩
    rw [← Int.mul_assoc, Int.mul_right_comm (a + 1)]
    exact Int.mul_le_mul_of_nonneg_right (by omega) hP
theorem numB_bd (l : List UInt8) : 0 ≤ numB l ∧ numB l < 256 ^ l.length := by
  have h := numB_from l 0 (by omega)
  rw [show (0 : Int) + 1 = 1 from rfl, Int.one_mul] at h
  exact h
theorem numB_bd5 (l : List UInt8) (h : l.length ≤ 5) : 0 ≤ numB l ∧ numB l < 1099511627776 := by
  have h1 := numB_bd l
  have h2 : (256 : Int) ^ l.length ≤ 256 ^ 5 := by
    have : (256 : Nat) ^ l.length ≤ 256 ^ 5 := Nat.pow_le_pow_right (by decide) h
    exact_mod_cast this
  have h3 : (256 : Int) ^ 5 = 1099511627776 := by decide
  omega
theorem take_snoc {α : Type} (l : List α) (i : Nat) (h : i < l.length) : l.take (i + 1) = l.take i ++ [l[i]] := List.take_succ_eq_append_getElem h
theorem nums_len : ∀ (k : Nat) (s : List UInt8), (nums k s).length = k
  | 0, _ => rfl
  | k + 1, s => by rw [nums, List.length_cons, nums_len k]
theorem nums_snoc : ∀ (k : Nat) (s : List UInt8), nums (k + 1) s = nums k s ++ [numB ((s.drop (5 * k)).take 5)]
  | 0, s => by simp [nums]
  | k + 1, s => by
    rw [nums, nums_snoc k, nums, List.cons_append, List.drop_drop]
    have e : 5 + 5 * k = 5 * (k + 1) := by omega
    rw [e]
theorem wrap5 {i n : Nat} (h : i ≤ n) (hn : n ≤ 1000) : IntKind.i64.wrap ((i : Int) + 5) = ((i + 5 : Nat) : Int) := by rw [wrap_i64 (by omega) (by omega)]; rfl
/-- One round's number. -/
theorem numI (s : List UInt8) (i j : Nat) (h : i + j < s.length) (hj : j < 5) (a : Int) (ha : a = numB ((s.drop i).take j)) (hs : s.length ≤ 25) :
    decide (0 ≤ IntKind.i64.wrap ((i : Int) + (j : Int)) ∧ IntKind.i64.wrap ((i : Int) + (j : Int)) < (s.length : Int)) = true ∧
    IntKind.i64.wrap (IntKind.i64.wrap (a * 256) + IntKind.i64.wrap ((s.getD (IntKind.i64.wrap ((i : Int) + (j : Int))).toNat 0).toNat : Int)) = numB ((s.drop i).take (j + 1)) := by
  have e1 : IntKind.i64.wrap ((i : Int) + (j : Int)) = ((i + j : Nat) : Int) := by rw [wrap_i64 (by omega) (by omega)]; rfl
  rw [e1]
  refine ⟨dt (by omega), ?_⟩
  have hlt : j < (s.drop i).length := by rw [List.length_drop]; omega
  have hb := numB_bd5 ((s.drop i).take j) (by rw [List.length_take]; omega)
  have e2 : s.getD ((i + j : Nat) : Int).toNat 0 = (s.drop i)[j] := by
    rw [Int.toNat_natCast, List.getElem_drop, List.getD_eq_getElem?_getD, List.getElem?_eq_getElem h]; rfl
  rw [e2, take_snoc _ j hlt, numB_snoc, ← ha] 
  rw [← ha] at hb
  have hu := u8_lt (s.drop i)[j]
  rw [wrap_i64 (n := a * 256) (by omega) (by omega), wrap_i64 (n := (((s.drop i)[j]).toNat : Int)) (by omega) (by omega), wrap_i64 (by omega) (by omega)]
theorem wk_ckT {v : AVal} {l : List Int} (no nx : Int) (b : Bool) (h : Wk v (.slice (iv l) 1 .ro)) : Wk (.tuple [.agg [.int .i64 no, v, .int .i64 nx, .bool false], .bool b]) (.tuple [ckV (no, l, nx, false), .bool b]) :=
  Wk.tuple (.cons (Wk.agg (.cons (.refl _) (.cons h (.refl _)))) (.refl _))
noncomputable def parseRS (s : List UInt8) (no nx : Int) (i : Nat) (l : List Int) : St := match l with
  | [] => parseRNL_S s no nx i
  | x :: r => parseROL_S s no nx i (x :: r) (x :: r).length
def lastN (s : List UInt8) : Int := numB (s.drop (s.length - 5))
theorem parseR_c (no : Int) (s : List UInt8) (hl : s.length ≤ 1000000) : ACall Try.prog 23 [.int .i64 no, .str s] Sto.empty fun r _ => Wk r (.tuple [ckV (parseK no s).1, .bool ((parseK no s).2 == 0)]) := by
  refine parseR_i no s _ (.of_none rfl) ?_
  have hbad : parseOk s = false → Wk (.tuple [.agg [.int .i64 0, .slice [] 0 .nil, .int .i64 0, .bool false], .bool false]) (.tuple [ckV (parseK no s).1, .bool ((parseK no s).2 == 0)]) := fun hb => by
    unfold parseK
    rw [if_neg (by rw [hb]; simp)]
    exact wk_ckT 0 0 false (Wk.nil 0 1 .nil)
  have hmod : ∀ n : Nat, Int.tmod (n : Int) 5 = ((n % 5 : Nat) : Int) := fun n => by rw [Int.tmod_eq_emod_of_nonneg (by omega)]; rfl
  simp only [hold_eq]
  refine brV_by' (fun h1 => brV_by' (fun h2 => brV_by (fun h3 => ?_) (fun h3 => ?_)) (fun h2 => ?_)) (fun h1 => ?_)
  · refine hbad ?_
    rw [hmod] at h3
    unfold parseOk
    rw [decide_eq_false_iff_not]
    have : ((s.length % 5 : Nat) : Int) ≠ 0 := by simpa using h3
    omega
  · rw [hmod] at h3
    have h3 : s.length % 5 = 0 := by
      have : ((s.length % 5 : Nat) : Int) = 0 := by simpa using h3
      omega
    have h1 : 5 ≤ s.length := by have := of_decide_eq_false h1; omega
    have h2 : s.length ≤ 25 := by have := of_decide_eq_false h2; omega
    have hok : parseOk s = true := dt ⟨by intro e; rw [e] at h1; simp at h1, h3, h2⟩
    obtain ⟨K, hK⟩ : ∃ K, s.length = 5 * (K + 1) := ⟨s.length / 5 - 1, by omega⟩
    have hdiv : s.length / 5 - 1 = K := by omega
    have hfin : parseK no s = ((no, nums K s, lastN s, false), 0) := by
      unfold parseK
      rw [if_pos hok, hdiv]; rfl
    rw [hfin]
    show loopV _ _ _ (parseRS s no 0 0 (nums 0 s))
    refine loopV_intro (α := Nat) (fun k => parseRS s no (if k ≤ K then 0 else lastN s) (5 * k) (nums (min k K) s)) (fun k => k ≤ K + 1) (fun k => K + 1 - k) ?_ 0 (Nat.zero_le _)
    intro k hk L hL
    have hlast : numB ((s.drop (5 * K)).take 5) = lastN s := by
      unfold lastN
      rw [show s.length - 5 = 5 * K by omega, List.take_of_length_le (by rw [List.length_drop]; omega)]
    rcases Nat.lt_or_ge K k with hge | hle
    · -- all have come
      obtain rfl : k = K + 1 := by omega
      rw [if_neg (by omega), Nat.min_eq_right (by omega)]
      have hend : 5 * (K + 1) = s.length := hK.symm
      rw [hend]
      cases hn : nums K s with
      | nil =>
        refine Eq.mpr (parseRNL_r s no (lastN s) s.length L _) ?_
        simp only [hold_eq]
        refine brV_by (fun h => by simp at h) (fun _ => ?_)
        refine leaveTo (toCut (Eq.mpr (parseRNF_r no (lastN s) _) ?_))
        exact wk_ckT no (lastN s) true (Wk.nil 0 1 .nil)
      | cons x r =>
        refine Eq.mpr (parseROL_r s no (lastN s) s.length (x :: r) (x :: r).length L _) ?_
        simp only [hold_eq]
        refine brV_by (fun h => by simp at h) (fun _ => ?_)
        refine leaveTo (toCut (Eq.mpr (parseROF_r no (lastN s) (x :: r) _ _) ?_))
        exact wk_ckT no (lastN s) true (Wk.ro _ _ _)
    · rw [if_pos hle, Nat.min_eq_left hle]
      have hnl := nums_len k s
      have nxt : nums (k + 1) s = nums k s ++ [numB ((s.drop (5 * k)).take 5)] := nums_snoc k s
      have hlt : 5 * k < s.length := by omega
      have hnext := hL (k + 1) (by omega) (by omega)
      have hw5 : IntKind.i64.wrap (((5 * k : Nat) : Int) + 5) = ((5 * (k + 1) : Nat) : Int) := by rw [wrap5 (Nat.le_of_lt hlt) (by omega)]; rfl
      cases hn : nums k s with
      | nil =>
        have hk0 : k = 0 := by rw [hn] at hnl; exact hnl.symm
        refine Eq.mpr (parseRNL_r s no 0 (5 * k) L _) ?_
        simp only [hold_eq]
        refine brV_by (fun _ => ?_) (fun h => by have := of_decide_eq_false h; omega)
        show loopV _ _ _ (parseRNI_S s no 0 (5 * k) 0 (numB ((s.drop (5 * k)).take 0)))
        refine loopV_intro (α := Nat) (fun j => parseRNI_S s no 0 (5 * k) j (numB ((s.drop (5 * k)).take j))) (fun j => j ≤ 5) (fun j => 5 - j) ?_ 0 (Nat.zero_le _)
        intro j hj L2 hL2
        refine Eq.mpr (parseRNI_r s no 0 (5 * k) j (numB ((s.drop (5 * k)).take j)) L2 _) ?_
        simp only [hold_eq]
        refine brV_by (fun h => ?_) (fun h => ?_)
        · have hj5 : j < 5 := by have := of_decide_eq_true h; omega
          have q := numI s (5 * k) j (by omega) hj5 _ rfl h2
          refine gb_by q.1 ?_
          rw [q.2, i64_succ hj5 (by omega)]
          exact hL2 (j + 1) hj5 (by omega)
        · obtain rfl : j = 5 := by have := of_decide_eq_false h; omega
          refine leaveTo (toCut (Eq.mpr (parseRNM_r s no 0 (5 * k) _ _) ?_))
          simp only [hold_eq]
          rw [hw5]
          refine brV_by (fun h => ?_) (fun h => ?_)
          · have hkK : k = K := by have : ((5 * (k + 1) : Nat) : Int) = (s.length : Int) := by simpa using h
                                   omega
            refine inBlock (toCut (Eq.mpr (parseRNP_r s no _ (5 * k) _) (thenN ?_)))
            rw [hw5]
            rw [if_neg (by omega), Nat.min_eq_right (by omega), ← hkK, hn] at hnext
            rw [hkK, hlast, ← hkK]
            exact hnext
          · have hkK : k < K := by
              have : ¬ ((5 * (k + 1) : Nat) : Int) = (s.length : Int) := by simpa using h
              omega
            rw [if_pos (by omega), Nat.min_eq_left (by omega), nxt, hn] at hnext
            refine inBlock (toCut (Eq.mpr (parseROP_r s no 0 (5 * k) [numB ((s.drop (5 * k)).take 5)] 1 _) (thenN ?_)))
            rw [hw5]
            exact hnext
      | cons x r =>
        refine Eq.mpr (parseROL_r s no 0 (5 * k) (x :: r) (x :: r).length L _) ?_
        simp only [hold_eq]
        refine brV_by (fun _ => ?_) (fun h => by have := of_decide_eq_false h; omega)
        show loopV _ _ _ (parseROI_S s no 0 (5 * k) 0 (numB ((s.drop (5 * k)).take 0)) (x :: r) (x :: r).length)
        refine loopV_intro (α := Nat) (fun j => parseROI_S s no 0 (5 * k) j (numB ((s.drop (5 * k)).take j)) (x :: r) (x :: r).length) (fun j => j ≤ 5) (fun j => 5 - j) ?_ 0 (Nat.zero_le _)
        intro j hj L2 hL2
        refine Eq.mpr (parseROI_r s no 0 (5 * k) j (numB ((s.drop (5 * k)).take j)) (x :: r) (x :: r).length L2 _) ?_
        simp only [hold_eq]
        refine brV_by (fun h => ?_) (fun h => ?_)
        · have hj5 : j < 5 := by have := of_decide_eq_true h; omega
          have q := numI s (5 * k) j (by omega) hj5 _ rfl h2
          refine gb_by q.1 ?_
          rw [q.2, i64_succ hj5 (by omega)]
          exact hL2 (j + 1) hj5 (by omega)
        · obtain rfl : j = 5 := by have := of_decide_eq_false h; omega
          refine leaveTo (toCut (Eq.mpr (parseROM_r s no 0 (5 * k) _ (x :: r) (x :: r).length _) ?_))
          simp only [hold_eq]
          rw [hw5]
          have hil : (iv (x :: r)).length = (x :: r).length := iv_length _
          have hxr : (x :: r).length = k := by rw [← hn]; exact hnl
          refine brV_by (fun h => ?_) (fun h => ?_)
          · have hkK : k = K := by have : ((5 * (k + 1) : Nat) : Int) = (s.length : Int) := by simpa using h
                                   omega
            refine inBlock (toCut (Eq.mpr (parseROP_r s no _ (5 * k) _ _ _) (thenN ?_)))
            rw [hw5]
            rw [if_neg (by omega), Nat.min_eq_right (by omega), ← hkK, hn] at hnext
            rw [hkK, hlast, ← hkK]
            exact hnext
          · have hkK : k < K := by
              have : ¬ ((5 * (k + 1) : Nat) : Int) = (s.length : Int) := by simpa using h
              omega
            rw [if_pos (by omega), Nat.min_eq_left (by omega), nxt, hn] at hnext
            refine gb_by (by rw [hil]; simp only [true_and, and_true, decide_eq_true_eq]; exact ⟨by omega, by omega⟩) ?_
            rw [setOwn_e1, hil]
            have e2 : iv (x :: r) ++ [.int .i64 (numB ((s.drop (5 * k)).take 5))] = iv (x :: r ++ [numB ((s.drop (5 * k)).take 5)]) := by rw [iv_append]; rfl
            rw [e2]
            refine inBlock (toCut (Eq.mpr (parseROP_r s no 0 (5 * k) (x :: r ++ [numB ((s.drop (5 * k)).take 5)]) _ _) (thenN ?_)))
            rw [hw5]
            have e3 : (x :: r).length + 1 = (x :: r ++ [numB ((s.drop (5 * k)).take 5)]).length := by simp
            rw [e3]
            exact hnext
  · refine hbad ?_
    unfold parseOk
    rw [decide_eq_false_iff_not]
    have := of_decide_eq_true h2
    omega
  · refine hbad ?_
    unfold parseOk
    rw [decide_eq_false_iff_not]
    have := of_decide_eq_true h1
    intro hh
    have h0 : s.length ≠ 0 := fun e => hh.1 (List.eq_nil_of_length_eq_zero e)
    omega
theorem parseR_ok : EntOk Try.prog parseRE := by
  intro xs σ; simp only [parseRE]; split
  · rename_i no s
    intro hc
    rw [hold_eq]
    exact pcall_of (.refl _) (parseR_c _ _ (lenM_of hc)) rfl rfl (by simp only [AVal.noOut, noOutL, ck_noOut, Bool.and_true]) (by simp only [AVal.noTok, noTokL, ck_noTok, Bool.and_true])
  · trivial
end Go.Proofs.Ytjdjecaclbdhhaa
end

section
namespace Go.Proofs.Ytjdjecaclbdhhaa.Yq
open Go Go.Proofs Go.RowKit Go.Shelf
attribute [local go_sem] Oper.semAt_some
set_option linter.unusedVariables false

theorem shl_or (n : Int) (b : UInt8) (h0 : 0 ≤ n) (h1 : n < 1099511627776) : bits BinOp.or IntKind.i64 (wrap64 (n * 256)) (wrap64 (b.toNat : Int)) = n * 256 + (b.toNat : Int) := by
  obtain ⟨N, rfl⟩ := Int.eq_ofNat_of_zero_le h0
  have hb : b.toNat < 256 := b.toNat_lt
  have e1 : wrap64 ((N : Int) * 256) = ((N * 256 : Nat) : Int) := by unfold wrap64; omega
  have e2 : wrap64 (b.toNat : Int) = (b.toNat : Int) := by unfold wrap64; omega
  rw [e1, e2]
  have o : (N * 256) ||| b.toNat = N * 256 + b.toNat := by
    have := Nat.shiftLeft_add_eq_or_of_lt (i := 8) (b := b.toNat) (by omega) N
    rw [Nat.shiftLeft_eq] at this
    exact this.symm
  have e3 : (BitVec.ofInt 64 ((N * 256 : Nat) : Int) ||| BitVec.ofInt 64 (b.toNat : Int)).toNat = N * 256 + b.toNat := by
    rw [BitVec.toNat_or, BitVec.toNat_ofInt, BitVec.toNat_ofInt, ← o]
    congr 1 <;> omega
  show IntKind.i64.wrap (((BitVec.ofInt 64 ((N * 256 : Nat) : Int) ||| BitVec.ofInt 64 (b.toNat : Int)).toNat : Nat) : Int) = _
  rw [e3, AL.wrap_i64 (by omega) (by omega)]
  omega
/-- What the loop keeps: the box of the row; what lay beside it. -/
def KeepC (h : Nat) (w2 W : World) : Prop := Below (h + 1) w2 W ∧ ∀ k, k < h + 5 → k ≠ h + 1 → W.heap[k]? = w2.heap[k]?
theorem keepC_own (h : Nat) (w2 : World) (hs : w2.heap.size = h + 5) {β : Type} : OwnFrom (h + 5) (fun (_ : β) W => KeepC h w2 W) := by
  rintro s X Y row ⟨h1, h2⟩ hg hr
  refine ⟨h1.grown hg (by have := h1.size; omega) (fun k e => by have := (hr k e).1; omega), fun k hk hne => ?_⟩
  rw [← h2 k hk hne]
  exact hg.block k (by have := h1.size; omega) (fun e => by have := (hr k e.symm).1; omega)
theorem ownsRow_base {W : World} {b b' : Nat} (hb : b' ≤ b) {e : TypeId} {size : Nat} {v : Value} {n : Nat} {xs : List Value} (h : W.ownsRow b e size v n xs) : W.ownsRow b' e size v n xs := by
  obtain ⟨h1, h2 | ⟨g, cap, cur, e1, e2, e3⟩⟩ := h
  · exact ⟨h1, .inl h2⟩
  · exact ⟨h1, .inr ⟨g, cap, cur, e1, Nat.le_trans hb e2, e3⟩⟩
theorem ownsRow_raise {W W1 : World} {b b' : Nat} {e : TypeId} {size n n' : Nat} {v : Value} {xs xs' : List Value} (h : W.ownsRow b e size v n xs) (k : W1.ownsRow b' e size v n' xs') : W.ownsRow b' e size v n xs := by
  obtain ⟨h1, h2 | ⟨g, cap, cur, e1, e2, e3⟩⟩ := h
  · exact ⟨h1, .inl h2⟩
  · obtain ⟨_, ⟨k1, _⟩ | ⟨g', cap', cur', k1, k2, _⟩⟩ := k
    · rw [e1] at k1; cases k1
    · rw [e1] at k1; cases k1
      exact ⟨h1, .inr ⟨g, cap, cur, e1, k2, e3⟩⟩
theorem keepC_app {h : Nat} {w2 W w1 : World} {tmp : Obj} {e : TypeId} {v v' : Value} {k : Nat} {xs : List Value} (hk : KeepC h w2 W) (hs : w2.heap.size = h + 5) (hrow : W.ownsRow (h + 5) e 1 v k xs) (hgrow : (W.alloc tmp).grownBy w1 v.ownBlock) (hb : Below (h + 1) W (w1.setCell ⟨h + 1, 0, none⟩ v')) : KeepC h w2 (w1.setCell ⟨h + 1, 0, none⟩ v') := by
  refine ⟨hk.1.trans hb, fun j hj hne => ?_⟩
  rw [← hk.2 j hj hne]
  have hsz := hk.1.size
  have e1 : (w1.setCell ⟨h + 1, 0, none⟩ v').heap[j]? = w1.heap[j]? := Below.heap_setCell _ _ _ j hne
  have e2 : w1.heap[j]? = (W.alloc tmp).heap[j]? := hgrow.block j (by rw [World.size_alloc]; omega) (fun e => by have := (hrow.lt j e.symm).1; omega)
  have e3 : (W.alloc tmp).heap[j]? = W.heap[j]? := Below.heap_alloc _ _ _ (by omega)
  rw [e1, e2, e3]
theorem infoI : (Try.prog.info? 3).map (fun i => (i.zero, i.size, i.bytes)) = some (some (.int .i64 0), 1, 8) := by kernel_rfl
def num5 (s : List UInt8) (j : Nat) : Int := numB ((s.drop (5 * j)).take 5)

theorem parse_results (tmps : Array Value) (h : Nat) (W : World) (a b c d : Value) (hp : tmps.getD 4 undef = .pointer (some ⟨h, 0, none⟩)) (s0 : W.cell? ⟨h, 0, none⟩ = some a) (s1 : W.cell? ⟨h, 1, none⟩ = some b) (s2 : W.cell? ⟨h, 2, none⟩ = some c) (s3 : W.cell? ⟨h, 3, none⟩ = some d) :
    (results Try.f22 tmps).run Try.prog W = .ok (.tuple #[.agg #[a, b, c, d], tmps.getD 5 undef]) W := by
  rw [results_cell_tmp rfl, hp]
  go_simp
theorem cells4 (W : World) (h : Nat) (a b c d a' b' c' d' : Value) (s0 : W.cell? ⟨h, 0, none⟩ = some a') (s1 : W.cell? ⟨h, 1, none⟩ = some b') (s2 : W.cell? ⟨h, 2, none⟩ = some c') (s3 : W.cell? ⟨h, 3, none⟩ = some d') :
    ((((W.setCell ⟨h, 0, none⟩ a).setCell ⟨h, 1, none⟩ b).setCell ⟨h, 2, none⟩ c).setCell ⟨h, 3, none⟩ d).cell? ⟨h, 0, none⟩ = some a ∧ ((((W.setCell ⟨h, 0, none⟩ a).setCell ⟨h, 1, none⟩ b).setCell ⟨h, 2, none⟩ c).setCell ⟨h, 3, none⟩ d).cell? ⟨h, 1, none⟩ = some b ∧
    ((((W.setCell ⟨h, 0, none⟩ a).setCell ⟨h, 1, none⟩ b).setCell ⟨h, 2, none⟩ c).setCell ⟨h, 3, none⟩ d).cell? ⟨h, 2, none⟩ = some c ∧ ((((W.setCell ⟨h, 0, none⟩ a).setCell ⟨h, 1, none⟩ b).setCell ⟨h, 2, none⟩ c).setCell ⟨h, 3, none⟩ d).cell? ⟨h, 3, none⟩ = some d := by
  have ne : ∀ i j : Nat, i ≠ j → (⟨h, i, none⟩ : Addr) ≠ ⟨h, j, none⟩ := fun i j hij e => by cases e; exact hij rfl
  refine ⟨?_, ?_, ?_, ?_⟩
  · rw [World.cell?_setCell_other _ _ _ _ (ne 3 0 (by decide)), World.cell?_setCell_other _ _ _ _ (ne 2 0 (by decide)), World.cell?_setCell_other _ _ _ _ (ne 1 0 (by decide))]; exact World.cell?_setCell_same _ _ _ s0
  · rw [World.cell?_setCell_other _ _ _ _ (ne 3 1 (by decide)), World.cell?_setCell_other _ _ _ _ (ne 2 1 (by decide))]; exact World.cell?_setCell_same _ _ _ (u := b') (by rw [World.cell?_setCell_other _ _ _ _ (ne 0 1 (by decide)), s1])
  · rw [World.cell?_setCell_other _ _ _ _ (ne 3 2 (by decide))]; exact World.cell?_setCell_same _ _ _ (u := c') (by rw [World.cell?_setCell_other _ _ _ _ (ne 1 2 (by decide)), World.cell?_setCell_other _ _ _ _ (ne 0 2 (by decide)), s2])
  · exact World.cell?_setCell_same _ _ _ (u := d') (by rw [World.cell?_setCell_other _ _ _ _ (ne 2 3 (by decide)), World.cell?_setCell_other _ _ _ _ (ne 1 3 (by decide)), World.cell?_setCell_other _ _ _ _ (ne 0 3 (by decide)), s3])

set_option maxRecDepth 100000 in
set_option maxHeartbeats 4000000 in
theorem parse_good (no : Int) (s : List UInt8) (K : Nat) (hs : s.length = 5 * (K + 1)) (hK : K ≤ 4) (w : World) :
    CallsIn Fence.wide 4 Try.prog 22 #[.int .i64 no, .string ⟨s.toArray⟩] w fun e w' => ∃ g, e = .returned (.tuple #[.agg #[.int .i64 no, .slice (some ⟨g, 0, none⟩) K K, .int .i64 (lastN s), .bool false], .int .i64 0]) ∧ w.heap.size ≤ g ∧
      (∀ j, j < K → w'.cell? ⟨g, j, none⟩ = some (.int .i64 (numB ((s.drop (5 * j)).take 5)))) ∧ Below w.heap.size w w' := by
  refine callsIn_of_wp_marks Try.func22 rfl trivial ?_ rfl
  simp only [Try.ntmps22, List.size_toArray, List.length_cons, List.length_nil, Nat.reduceAdd, Nat.reduceSub, Array.replicate_succ, Array.replicate_zero, List.push_toArray, List.append_toArray, List.nil_append, List.cons_append]
  obtain ⟨i0, hi, hz0, hz1, hz2⟩ := info_parts infoI
  have hz : ¬ (5 * (K + 1) = 0) := by omega
  have hm : (5 * (K + 1)) % 5 = 0 := by omega
  have h25 : 5 * (K + 1) ≤ 25 := by omega
  have h25' : ¬ (25 : Int) < 5 * ((K : Int) + 1) := by omega
  have hz' : (5 * ((K : Int) + 1) == 0) = false := by rw [beq_eq_false_iff_ne]; omega
  have hd25 : decide ((25 : Int) < 5 * ((K : Int) + 1)) = false := decide_eq_false h25'
  have hcv : ∀ W : World, (convert 9 65 (.string ⟨s.toArray⟩)).run Try.prog W = .ok (.slice (some ⟨W.heap.size, 0, none⟩) (5 * (K + 1)) (grownCap W (5 * (K + 1)) 0 5)) (Lib.bytesWorld W 5 ⟨s.toArray⟩) := fun W => by
    have := Lib.run_convert_string_bytes (P := Try.prog) W 9 65 5 ⟨s.toArray⟩ Try.underlying9 Try.underlying65 Try.underlying5
    rw [show (⟨s.toArray⟩ : ByteArray).size = 5 * (K + 1) from hs] at this
    exact this
  gi_wp2
  refine ⟨trivial, ?_⟩
  refine (chunk_in Fence.wide 3 trivial rfl _ _ _ _).mono ?_
  rintro e w1 ⟨rfl, rfl⟩
  gi_wp2
  have hW1 : ((w.alloc (Obj.cells #[Value.int IntKind.i64 0, Value.slice none 0 0, Value.int IntKind.i64 0, Value.bool false] 39)).alloc (Obj.cells #[Value.slice none 0 0] 22)).heap.size = w.heap.size + 2 := by simp
  generalize hcapE : grownCap _ _ _ _ = cap
  have hcap : 5 * (K + 1) ≤ cap := by rw [← hcapE]; exact grownCap_ge _ _ _ _
  clear hcapE
  have hby0 : ∀ j, j < 5 * (K + 1) → (Lib.bytesWorld ((w.alloc (Obj.cells #[Value.int IntKind.i64 0, Value.slice none 0 0, Value.int IntKind.i64 0, Value.bool false] 39)).alloc (Obj.cells #[Value.slice none 0 0] 22)) 5 ⟨s.toArray⟩).cell? ⟨w.heap.size + 2, j, none⟩ = some (.int .u8 (s.getD j 0).toNat) := fun j hj => by
    have := Lib.bytesWorld_cell ((w.alloc (Obj.cells #[Value.int IntKind.i64 0, Value.slice none 0 0, Value.int IntKind.i64 0, Value.bool false] 39)).alloc (Obj.cells #[Value.slice none 0 0] 22)) 5 ⟨s.toArray⟩ j (by show j < s.length; omega)
    rw [hW1] at this
    exact this
  have hsz0 := Lib.bytesWorld_size ((w.alloc (Obj.cells #[Value.int IntKind.i64 0, Value.slice none 0 0, Value.int IntKind.i64 0, Value.bool false] 39)).alloc (Obj.cells #[Value.slice none 0 0] 22)) 5 ⟨s.toArray⟩
  have hold0 : ∀ j, j < w.heap.size + 2 → (Lib.bytesWorld ((w.alloc (Obj.cells #[Value.int IntKind.i64 0, Value.slice none 0 0, Value.int IntKind.i64 0, Value.bool false] 39)).alloc (Obj.cells #[Value.slice none 0 0] 22)) 5 ⟨s.toArray⟩).heap[j]? = _ := fun j hj => Lib.bytesWorld_at_old _ _ _ j (by rw [hW1]; exact hj)
  rw [hW1] at hsz0
  have hB0 : Below w.heap.size w (Lib.bytesWorld ((w.alloc (Obj.cells #[Value.int IntKind.i64 0, Value.slice none 0 0, Value.int IntKind.i64 0, Value.bool false] 39)).alloc (Obj.cells #[Value.slice none 0 0] 22)) 5 ⟨s.toArray⟩) :=
    ⟨rfl, rfl, rfl, by rw [hsz0]; omega, fun k hk => (hold0 k (by omega)).trans ((((Below.refl _ w).alloc (Nat.le_refl _) _).alloc (by simp) _).block k hk)⟩
  have hbox0 : Boxed (Lib.bytesWorld ((w.alloc (Obj.cells #[Value.int IntKind.i64 0, Value.slice none 0 0, Value.int IntKind.i64 0, Value.bool false] 39)).alloc (Obj.cells #[Value.slice none 0 0] 22)) 5 ⟨s.toArray⟩) (w.heap.size + 1) 22 (.slice none 0 0) := by
    have := Boxed.new (w.alloc (Obj.cells #[Value.int IntKind.i64 0, Value.slice none 0 0, Value.int IntKind.i64 0, Value.bool false] 39)) 22 (.slice none 0 0)
    rw [World.size_alloc] at this
    exact (hold0 _ (by omega)).trans this
  have hres0 : (Lib.bytesWorld ((w.alloc (Obj.cells #[Value.int IntKind.i64 0, Value.slice none 0 0, Value.int IntKind.i64 0, Value.bool false] 39)).alloc (Obj.cells #[Value.slice none 0 0] 22)) 5 ⟨s.toArray⟩).heap[w.heap.size]? = some (.cells #[Value.int IntKind.i64 0, Value.slice none 0 0, Value.int IntKind.i64 0, Value.bool false] 39 (0, 0)) := by
    refine (hold0 _ (by omega)).trans ?_
    exact (Below.heap_alloc _ _ _ (by simp)).trans (World.alloc_heap_new w _)
  clear hold0
  generalize Lib.bytesWorld _ _ _ = W2 at *
  clear hW1 hcv
  obtain ⟨h, hh⟩ : ∃ h, w.heap.size = h := ⟨_, rfl⟩
  rw [hh] at hby0 hsz0 hB0 hbox0 hres0 ⊢
  rw [show h + 2 + 1 = h + 3 from rfl] at hsz0
  rw [hsz0, show h + 1 + 1 = h + 2 from rfl, show h + 3 + 1 = h + 4 from rfl]
  obtain ⟨w2, hw2⟩ : ∃ w2, (W2.alloc (Obj.cells #[Value.slice (some ⟨h + 2, 0, none⟩) (5 * (K + 1)) cap] 65)).alloc (Obj.cells #[Value.int IntKind.i64 5] 3) = w2 := ⟨_, rfl⟩
  have hs1 : w2.cell? ⟨h + 3, 0, none⟩ = some (.slice (some ⟨h + 2, 0, none⟩) (5 * (K + 1)) cap) := by
    have := (Boxed.new W2 65 (.slice (some ⟨h + 2, 0, none⟩) (5 * (K + 1)) cap)).alloc (Obj.cells #[Value.int IntKind.i64 5] 3)
    rw [hw2, hsz0] at this
    exact this.cell
  have hn1 : w2.cell? ⟨h + 4, 0, none⟩ = some (.int .i64 5) := by
    have := Boxed.new (W2.alloc (Obj.cells #[Value.slice (some ⟨h + 2, 0, none⟩) (5 * (K + 1)) cap] 65)) 3 (.int .i64 5)
    rw [hw2, World.size_alloc, hsz0] at this
    exact this.cell
  have hbox : Boxed w2 (h + 1) 22 (.slice none 0 0) := by rw [← hw2]; exact (hbox0.alloc _).alloc _
  have hsz : w2.heap.size = h + 5 := by rw [← hw2, World.size_alloc, World.size_alloc, hsz0]
  have hold : ∀ j, j < h + 3 → w2.heap[j]? = W2.heap[j]? := fun j hj => by
    rw [← hw2]
    exact (Below.heap_alloc _ _ _ (by rw [World.size_alloc, hsz0]; omega)).trans (Below.heap_alloc _ _ _ (by rw [hsz0]; exact hj))
  have hby : ∀ j, j < 5 * (K + 1) → w2.cell? ⟨h + 2, j, none⟩ = some (.int .u8 (s.getD j 0).toNat) := fun j hj => by
    rw [← hby0 j hj]
    simp only [World.cell?, hold (h + 2) (by omega)]
  have hres : w2.heap[h]? = some (.cells #[Value.int IntKind.i64 0, Value.slice none 0 0, Value.int IntKind.i64 0, Value.bool false] 39 (0, 0)) := (hold h (by omega)).trans hres0
  have hB : Below h w w2 := by rw [← hw2]; exact (hB0.alloc (by rw [hsz0]; omega) _).alloc (by rw [World.size_alloc, hsz0]; omega) _
  rw [hw2]
  clear hw2 hby0 hsz0 hB0 hbox0 hres0 hold
  refine wpIn_rangeFunc_ownG rfl (by decide) (gf := 52) (lb := #[.pointer (some ⟨h + 3, 0, none⟩), .pointer (some ⟨h + 4, 0, none⟩)]) rfl trivial (enters_of Try.func52 (by kernel_rfl) rfl)
    (chunk_stops Fence.wide (4 - 1) trivial rfl (by decide) (h + 3) (h + 4) (h + 1) (h + 2) (K + 1) cap (by omega) hcap w2 (by omega) (by omega) hs1 hn1) kpC_t (kpC_b (by omega) (by omega) (by omega)) (Below.refl _ _) (fun _ => rfl)
    (fun (pre : List (Fin (K + 1))) W => (∃ v, Boxed W (h + 1) 22 v ∧ W.ownsRow (h + 5) 3 1 v pre.length (pre.map fun x => .int .i64 (num5 s x.val)) ∧ True) ∧ KeepC h w2 W)
    (fun _ _ _ => False)
    (OwnFrom.and (Own.from (holdsRow_own (β := List (Fin (K + 1))) (h + 5) (h + 1) 22 3 1 (fun pre => pre.length) (fun pre => pre.map fun x => Value.int .i64 (num5 s x.val)) (fun pre v => True)) _) (by rw [hsz]; exact keepC_own h w2 hsz))
    (fun _ _ _ _ _ hs _ _ => hs)
    ⟨⟨_, hbox, World.ownsRow_nil _ _ _ _, trivial⟩, ⟨Below.refl _ _, fun _ _ _ => rfl⟩⟩
    (fun x => { tmps := #[.int .i64 no, .string ⟨s.toArray⟩, undef, undef, .pointer (some ⟨h, 0, none⟩), .int .i64 0, .pointer (some ⟨h + 1, 0, none⟩), .slice (some ⟨h + 2, 5 * x.val, none⟩) 5 5, undef, undef, undef, undef, .string ⟨s.toArray⟩, .int .i64 (5 * ((K : Int) + 1)), .bool false, .bool false, .string ⟨s.toArray⟩, .int .i64 (5 * ((K : Int) + 1)), .int .i64 0, .bool false, .bool false, .bool false, .string ⟨s.toArray⟩, .int .i64 (5 * ((K : Int) + 1)), .bool false, .bool false, undef, .string ⟨s.toArray⟩, .slice (some ⟨h + 2, 0, none⟩) (5 * (K + 1)) cap, .func (.func 52) #[] #[.pointer (some ⟨h + 3, 0, none⟩), .pointer (some ⟨h + 4, 0, none⟩)], .slice (some ⟨h + 2, 5 * x.val, none⟩) 5 5, undef, undef, undef, undef, undef, undef, undef, undef, undef, undef, undef, undef, undef, undef, undef, undef, undef, undef, undef, undef, undef, undef, undef, undef, undef, undef, undef, undef, undef], defers := [] }) ?assign ?body ?done ?stop
  case assign =>
    intro l x W K hK
    gi_wp2
    exact hK
  case body =>
    rintro l pre x W ⟨⟨v, hv, hrow, _⟩, hk⟩ hlt
    have hc := hv.cell
    have hx5 : x.val < K + 1 := x.isLt
    have hbc : ∀ j, j < 5 → W.cell? ⟨h + 2, 5 * x.val + j, none⟩ = some (.int .u8 ((s.drop (5 * x.val)).getD j 0).toNat) := fun j hj => by
      have e1 : (s.drop (5 * x.val)).getD j 0 = s.getD (5 * x.val + j) 0 := by simp [List.getD_eq_getElem?_getD, List.getElem?_drop]
      rw [e1, ← hby (5 * x.val + j) (by omega)]
      simp only [World.cell?, hk.2 (h + 2) (by omega) (by omega)]
    gi_wp2_with fail
    gi_loopw [33, 8] (fun i n wr => ∃ j : Nat, j ≤ 5 ∧ i = .int .i64 (j : Int) ∧ n = .int .i64 (numB ((s.drop (5 * x.val)).take j)) ∧ wr = W) (fun i _ _ => 5 - (intOf i).toNat)
    case atStart => exact ⟨0, by omega, rfl, rfl, rfl⟩
    case round =>
      obtain ⟨j, hj, rfl, rfl, rfl⟩ := hrel
      by_cases hj5 : j < 5
      · have hbj := hbc j hj5
        have hlt5 : j < (s.drop (5 * x.val)).length := by rw [List.length_drop]; omega
        have hnb := numB_bd5 ((s.drop (5 * x.val)).take j) (by rw [List.length_take]; omega)
        have hbv : ((s.drop (5 * x.val)).getD j 0) = (s.drop (5 * x.val))[j] := by rw [List.getD_eq_getElem?_getD, List.getElem?_eq_getElem hlt5]; rfl
        rw [hbv] at hbj
        have hstep := shl_or _ (s.drop (5 * x.val))[j] hnb.1 hnb.2
        have hsn : numB ((s.drop (5 * x.val)).take (j + 1)) = numB ((s.drop (5 * x.val)).take j) * 256 + ((s.drop (5 * x.val))[j].toNat : Int) := by rw [take_snoc _ j hlt5, numB_snoc]
        clear hbc
        generalize (s.drop (5 * x.val))[j] = bj at *
        generalize numB ((s.drop (5 * x.val)).take j) = nj at *
        have hw1 : wrap64 (nj * 256) = nj * 256 := by unfold wrap64; omega
        have hstep' : bits BinOp.or IntKind.i64 (nj * 256) (wrap64 (bj.toNat : Int)) = nj * 256 + (bj.toNat : Int) := by have e := hstep; rw [hw1] at e; exact e
        gi_wp2_with fail
        exact ⟨⟨j + 1, by omega, by simp, congrArg (Value.int .i64) ((by first | exact hstep | exact hstep' | rfl : _ = nj * 256 + (bj.toNat : Int)).trans hsn.symm), trivial⟩, by simp [intOf]; omega⟩
      · obtain rfl : j = 5 := by omega
        have hpl : pre.length < 5 := by omega
        have hml : 5 ≤ maxLen := by decide
        gi_wp2_with (gi_at_builtin; refine wpListIn_append_own _ rfl _ _ 22 rfl (h + 5) 3 i0 (.int .i64 0) 1 8 Try.underlying22 hi hz0 hz1 hz2 rfl (by decide) _ _ _ rfl (hrow.alloc _) ⟨wr.heap.size, 0, none⟩ 1 1 [.int .i64 (numB (List.take 5 (List.drop (5 * x.val) s)))] rfl rfl (cell_one_new _ _ _) (by simp [Value.oneCell']) (by omega) (by omega) (by have := hk.1.size; simp; omega) ?_; intro v' w1 hown' hgrow _; obtain ⟨g', cap', rfl⟩ := ownsRow_succ hown'; obtain ⟨hv1, hv2, hr2, hk2, hb2⟩ := hv.appended (by decide) (ownsRow_base (b' := h + 1) (by omega) hrow) (by have := hk.1.size; omega) (Nat.le_refl _) (ownsRow_base (b' := h + 1) (by omega) hown') hgrow; have hc1 := hv1.cell; have hf1 := hv1.frozen)
        have hk3 := keepC_app hk hsz hrow hgrow hb2
        exact ⟨hk2.from _, ⟨hb2, by rw [hk3.2 _ (by omega) (by omega), hk.2 _ (by omega) (by omega)], by rw [hk3.2 _ (by omega) (by omega), hk.2 _ (by omega) (by omega)]⟩, ⟨_, hv2, by simpa [num5] using ownsRow_raise hr2 hown', trivial⟩, hk3⟩
  case done =>
    rintro D ys W hD rfl ⟨⟨v, hv, hrow, _⟩, hk⟩ hK
    have hc := hv.cell
    rw [List.length_finRange] at hrow
    obtain ⟨g, cap2, rfl⟩ := ownsRow_succ hrow
    have hKc : K + 1 ≤ cap2 := by
      obtain ⟨_, ⟨e1, _⟩ | ⟨g1, c1, cur, e1, _, _, e2, _⟩⟩ := hrow
      · cases e1
      · cases e1; exact e2
    have hcs : ∀ j, j < K + 1 → W.cell? ⟨g, j, none⟩ = some (.int .i64 (num5 s j)) := fun j hj => by
      rw [hrow.cellAt j (by omega)]
      simp [hj]
    have hlast : num5 s K = lastN s := by
      unfold num5 lastN
      rw [show s.length - 5 = 5 * K by omega, List.take_of_length_le (by rw [List.length_drop]; omega)]
    have hcK := hcs K (by omega)
    rw [hlast] at hcK
    have hWr : W.heap[h]? = some (.cells #[Value.int IntKind.i64 0, Value.slice none 0 0, Value.int IntKind.i64 0, Value.bool false] 39 (0, 0)) := (hk.1.block h (by omega)).trans hres
    have hr0 : W.cell? ⟨h, 0, none⟩ = some (.int .i64 0) := by simp [World.cell?, hWr]
    have hr1 : W.cell? ⟨h, 1, none⟩ = some (.slice none 0 0) := by simp [World.cell?, hWr]
    have hr2 : W.cell? ⟨h, 2, none⟩ = some (.int .i64 0) := by simp [World.cell?, hWr]
    have hr3 : W.cell? ⟨h, 3, none⟩ = some (.bool false) := by simp [World.cell?, hWr]
    have hf0 : W.frozen? ⟨h, 0, none⟩ = false := by simp [World.frozen?, hWr]
    have hf1 : W.frozen? ⟨h, 1, none⟩ = false := by simp [World.frozen?, hWr]
    have hf2 : W.frozen? ⟨h, 2, none⟩ = false := by simp [World.frozen?, hWr]
    have hf3 : W.frozen? ⟨h, 3, none⟩ = false := by simp [World.frozen?, hWr]
    have hKI : ((K : Int) + 1 - 1).toNat = K := by omega
    gi_wp2_with fail
    gi_region
    gi_wp2
    have hDne : D ≠ h := by omega
    have hK5 : ((((W.setCell { block := h, off := 0 } (Value.int IntKind.i64 no)).setCell { block := h, off := 1 } (Value.slice (some { block := g, off := 0 }) K K)).setCell { block := h, off := 2 } (Value.int IntKind.i64 (lastN s))).setCell { block := h, off := 3 } (Value.bool false)).drew.heap[D]? = some (.deferred (some [])) :=
      (Below.heap_setCell _ _ _ D hDne).trans ((Below.heap_setCell _ _ _ D hDne).trans ((Below.heap_setCell _ _ _ D hDne).trans ((Below.heap_setCell _ _ _ D hDne).trans hK)))
    refine ⟨by simp, .inl ⟨_, _, rfl, run_takeDeferred hK5, ?_⟩⟩
    have hgD : g ≠ D := fun e => by
      obtain ⟨_, ⟨e1, _⟩ | ⟨g1, c1, cur, e1, _, e2, _⟩⟩ := hrow
      · cases e1
      · cases e1; rw [e, hK] at e2; cases e2
    have hgh : g ≠ h := by
      obtain ⟨_, ⟨e1, _⟩ | ⟨g1, c1, cur, e1, e2, _⟩⟩ := hrow
      · cases e1
      · cases e1; omega
    obtain ⟨q0, q1, q2, q3⟩ := cells4 W h (.int .i64 no) (.slice (some { block := g, off := 0 }) K K) (.int .i64 (lastN s)) (.bool false) _ _ _ _ hr0 hr1 hr2 hr3
    have qg : ((((W.setCell { block := h, off := 0 } (Value.int IntKind.i64 no)).setCell { block := h, off := 1 } (Value.slice (some { block := g, off := 0 }) K K)).setCell { block := h, off := 2 } (Value.int IntKind.i64 (lastN s))).setCell { block := h, off := 3 } (Value.bool false)).heap[g]? = W.heap[g]? :=
      (Below.heap_setCell _ _ _ g hgh).trans ((Below.heap_setCell _ _ _ g hgh).trans ((Below.heap_setCell _ _ _ g hgh).trans (Below.heap_setCell _ _ _ g hgh)))
    have qB : Below h W ((((W.setCell { block := h, off := 0 } (Value.int IntKind.i64 no)).setCell { block := h, off := 1 } (Value.slice (some { block := g, off := 0 }) K K)).setCell { block := h, off := 2 } (Value.int IntKind.i64 (lastN s))).setCell { block := h, off := 3 } (Value.bool false)).drew :=
      (((((Below.refl h W).setCell (p := ⟨h, 0, none⟩) (Nat.le_refl _) _).setCell (p := ⟨h, 1, none⟩) (Nat.le_refl _) _).setCell (p := ⟨h, 2, none⟩) (Nat.le_refl _) _).setCell (p := ⟨h, 3, none⟩) (Nat.le_refl _) _).drew
    generalize (((W.setCell { block := h, off := 0 } (Value.int IntKind.i64 no)).setCell { block := h, off := 1 } (Value.slice (some { block := g, off := 0 }) K K)).setCell { block := h, off := 2 } (Value.int IntKind.i64 (lastN s))).setCell { block := h, off := 3 } (Value.bool false) = W5 at *
    have p : ∀ b i, b ≠ D → (W5.drew.putObj D (Obj.deferred none)).cell? ⟨b, i, none⟩ = W5.cell? ⟨b, i, none⟩ := fun b i hb => by
      simp [World.cell?, World.putObj, World.drew, -World.drew_eq, Ne.symm hb]
    have hgge : h ≤ g := by
      obtain ⟨_, ⟨e1, _⟩ | ⟨g1, c1, cur, e1, e2, _⟩⟩ := hrow
      · cases e1
      · cases e1; omega
    refine ⟨_, ?_, g, rfl, by rw [hh]; exact hgge, fun j hj => ?_, ?_⟩
    · have s0 := (p h 0 (Ne.symm hDne)).trans q0
      have s1 := (p h 1 (Ne.symm hDne)).trans q1
      have s2 := (p h 2 (Ne.symm hDne)).trans q2
      have s3 := (p h 3 (Ne.symm hDne)).trans q3
      exact parse_results _ h _ _ _ _ _ rfl s0 s1 s2 s3
    · rw [p g j hgD, show W5.cell? ⟨g, j, none⟩ = W.cell? ⟨g, j, none⟩ from by simp only [World.cell?, qg]]
      exact hcs j (by omega)
    · rw [hh]
      exact (hB.trans ((hk.1.mono (by omega)).trans qB)).trans (belowK_b (w := w) (Nat.le_of_eq hh.symm) _ D _ _ (by omega) hK5 rfl rfl)
  case stop =>
    rintro D c pre W _ _ hx _
    exact hx.elim
end Go.Proofs.Ytjdjecaclbdhhaa.Yq
end

section
namespace Go.Proofs.Ytjdjecaclbdhhaa.Yq
open Go Go.Proofs Go.RowKit Go.Shelf
attribute [local go_sem] Oper.semAt_some
set_option linter.unusedVariables false

theorem bad_results (tmps : Array Value) (w : World) (hp : tmps.getD 4 undef = .pointer (some ⟨w.heap.size, 0, none⟩)) :
    (results Try.f22 tmps).run Try.prog (w.alloc (Obj.cells #[Value.int IntKind.i64 0, Value.slice none 0 0, Value.int IntKind.i64 0, Value.bool false] 39)) = .ok (.tuple #[.agg #[.int .i64 0, .slice none 0 0, .int .i64 0, .bool false], tmps.getD 5 undef]) (w.alloc (Obj.cells #[Value.int IntKind.i64 0, Value.slice none 0 0, Value.int IntKind.i64 0, Value.bool false] 39)) := by
  rw [results_cell_tmp rfl, hp]
  go_simp
set_option maxRecDepth 100000 in
set_option maxHeartbeats 4000000 in
theorem parse_bad (no : Int) (s : List UInt8) (hs : parseOk s = false) (hl : s.length ≤ 1000000) (w : World) :
    CallsIn Fence.wide 4 Try.prog 22 #[.int .i64 no, .string ⟨s.toArray⟩] w fun e w' => e = .returned (.tuple #[.agg #[.int .i64 0, .slice none 0 0, .int .i64 0, .bool false], .int .i64 10]) ∧ Below w.heap.size w w' := by
  refine callsIn_of_wp_marks Try.func22 rfl trivial ?_ rfl
  simp only [Try.ntmps22, List.size_toArray, List.length_cons, List.length_nil, Nat.reduceAdd, Nat.reduceSub, Array.replicate_succ, Array.replicate_zero, List.push_toArray, List.append_toArray, List.nil_append, List.cons_append]
  unfold parseOk at hs
  rw [decide_eq_false_iff_not] at hs
  have hB : Below w.heap.size w (w.alloc (Obj.cells #[Value.int IntKind.i64 0, Value.slice none 0 0, Value.int IntKind.i64 0, Value.bool false] 39)) := (Below.refl _ w).alloc (Nat.le_refl _) _
  have hnil : s.length = 0 ∨ ((s.length : Int) == 0) = false := by rcases Nat.eq_zero_or_pos s.length with h | h; exact .inl h; exact .inr (by rw [beq_eq_false_iff_ne]; omega)
  rcases hnil with h0 | h0
  · obtain rfl := List.eq_nil_of_length_eq_zero h0
    gi_wp2_with fail
    exact ⟨_, bad_results _ w rfl, rfl, hB⟩
  · by_cases h5 : s.length % 5 = 0
    · have h25 : (25 : Int) < (s.length : Int) := by
        have : s ≠ [] := fun e => by rw [e] at h0; cases h0
        have : ¬ s.length ≤ 25 := fun h => hs ⟨this, h5, h⟩
        omega
      gi_wp2_with fail
      exact ⟨_, bad_results _ w rfl, rfl, hB⟩
    · gi_wp2_with fail
      exact ⟨_, bad_results _ w rfl, rfl, hB⟩
end Go.Proofs.Ytjdjecaclbdhhaa.Yq
end

section
namespace Go.AL
theorem Inv.frozeN {γ : Gh} {w : World} {O : Oid → Option AObj} {W : Nat → Option Nat} {no nw : Nat} (h : Inv γ w O W no nw) (b n : Nat) (hb : ∀ o, o < n → ∃ v, w.cell? ⟨b, o, none⟩ = some v) (hm : ¬ Mut γ O W b) :
    Inv { γ with imm := fun c o => γ.imm c o ∨ (c = b ∧ o < n) } w O W no nw ∧ ∀ l, Ext l γ w { γ with imm := fun c o => γ.imm c o ∨ (c = b ∧ o < n) } w := by
  have e : ∀ l, Ext l γ w { γ with imm := fun c o => γ.imm c o ∨ (c = b ∧ o < n) } w := fun l => ⟨fun c o hc => ⟨.inl hc, rfl⟩, fun _ _ _ h => h, fun p => OwnStep.refl _⟩
  refine ⟨⟨fun c o hc => ?_, fun i x hx => ?_, h.inj, fun p n hp => ?_, h.ownInj, h.apart, h.freshO, h.freshW⟩, e⟩
  · rcases hc with hc | ⟨rfl, hc⟩
    · exact h.imm c o hc
    · exact hb o hc
  · rcases h.obj i x hx with h1 | ⟨c, hbk, hok⟩
    · exact .inl h1
    · refine .inr ⟨c, hbk, hok.mono (e _) rfl fun o ho => ?_⟩
      rcases ho with ho | ⟨rfl, _⟩
      · exact hok.notImm o ho
      · exact hm (.inl ⟨i, x, hx, hbk⟩)
  · refine (h.own p n hp).mono (fun _ _ => rfl) fun c o hbk ho => ?_
    rcases ho with ho | ⟨rfl, _⟩
    · exact ho
    · exact (hm (.inr ⟨p, _, hp, hbk⟩)).elim
/-- A contract that yields a value whose row is new, and what was there is as it was. -/
theorem PCall.ofBelowRow {P : Program} {g : FuncId} {xs : List AVal} {v : AVal}
    (h : ∀ γ w vs, RepL γ w false xs vs → Calls P g vs.toArray w fun e w' => ∃ u b n, e = .returned u ∧ Rep { γ with imm := fun c o => γ.imm c o ∨ (c = b ∧ o < n) } w' false v u ∧ w.heap.size ≤ b ∧ (∀ o, o < n → ∃ v, w'.cell? ⟨b, o, none⟩ = some v) ∧ Go.RowKit.Below w.heap.size w w') : PCall P g xs v :=
  fun σ γ w vs hi hr => (h γ w vs hr).mono fun e w' ⟨u, b, n, h1, h2, h3, h4, h5⟩ => by
    have hm : ¬ Mut γ σ.O σ.own b := fun hm => by have := hi.mut_lt hm; omega
    obtain ⟨q1, q2⟩ := (hi.below h5).frozeN b n h4 hm
    have E := Evo.below (O := σ.O) (W := σ.own) (fun b o hm => hi.imm_lt hm) h5
    refine ⟨u, v, _, σ, h1, h2, q1, ⟨E.os, E.tape, E.output, E.size, E.old, E.ext.trans (q2 _), ?_, ?_⟩, rfl, rfl⟩
    · rintro c o (hc | ⟨rfl, _⟩)
      · exact .inl hc
      · exact .inr (.inl h3)
    · rintro c (⟨i, x, hx, hbk⟩ | ⟨p, m, hp, hbk⟩)
      · exact .inl (.inl ⟨i, x, hx, hbk⟩)
      · exact .inl (.inr ⟨p, m, hp, hbk⟩)
end Go.AL
namespace Go.Proofs.Ytjdjecaclbdhhaa
open Go.AL
set_option linter.unusedVariables false
theorem nums_get : ∀ (k : Nat) (s : List UInt8) (j : Nat), j < k → (nums k s)[j]? = some (numB ((s.drop (5 * j)).take 5))
  | 0, _, _, h => absurd h (Nat.not_lt_zero _)
  | k + 1, s, 0, _ => by simp [nums]
  | k + 1, s, j + 1, h => by
    rw [nums, List.getElem?_cons_succ, nums_get k (s.drop 5) j (by omega), List.drop_drop]
    rw [show 5 + 5 * j = 5 * (j + 1) by omega]
theorem repL_iv (γ : Gh) (w : World) : ∀ l : List Int, RepL γ w false (iv l) (l.map (Value.int .i64))
  | [] => .nil _
  | x :: r => .cons (.int _ _ _) (repL_iv γ w r)
theorem parse_ok : EntOk Try.prog parseE := by
  intro xs σ; simp only [parseE]; split
  · rename_i no s
    intro hc
    have hl := lenM_of hc
    refine PCall.ofBelowRow fun γ w vs hr => ?_
    cases hr with
    | cons h1 h2 =>
      cases h1
      obtain ⟨u, rfl, h3⟩ := repL1 h2
      obtain rfl := repStr h3
      cases hok : parseOk s with
      | false =>
        have hk : parseK no s = ((0, [], 0, false), 10) := by unfold parseK; rw [hok]; rfl
        refine (callsIn_wide.1 (Yq.parse_bad no s hok hl w)).mono ?_
        rintro e w' ⟨rfl, hB⟩
        rw [hk]
        exact ⟨_, w.heap.size, 0, rfl, .tuple (vs := [_, _]) (.cons (.agg (vs := [_, _, _, _]) (.cons (.int _ _ _) (.cons (.sliceNil trivial (.inl rfl)) (.cons (.int _ _ _) (.cons (.bool _ _) (.nil _))))) (by simp [Value.oneCell'])) (.cons (.int _ _ _) (.nil _))), Nat.le_refl _, fun o ho => absurd ho (Nat.not_lt_zero o), hB⟩
      | true =>
        have hp : s ≠ [] ∧ s.length % 5 = 0 ∧ s.length ≤ 25 := of_decide_eq_true hok
        have hpos : 0 < s.length := List.length_pos_iff.2 hp.1
        obtain ⟨K, hK⟩ : ∃ K, s.length = 5 * (K + 1) := ⟨s.length / 5 - 1, by omega⟩
        have hk : parseK no s = ((no, nums K s, lastN s, false), 0) := by
          unfold parseK
          rw [if_pos hok, show s.length / 5 - 1 = K by omega]; rfl
        refine (callsIn_wide.1 (Yq.parse_good no s K hK (by omega) w)).mono ?_
        rintro e w' ⟨g, rfl, hg, hcs, hB⟩
        rw [hk]
        have hnl := nums_len K s
        have hrow : Rep { γ with imm := fun c o => γ.imm c o ∨ (c = g ∧ o < K) } w' false (.slice (iv (nums K s)) 1 .ro) (.slice (some ⟨g, 0, none⟩) K K) := by
          cases K with
          | zero => exact .sliceNil trivial (.inr rfl)
          | succ K =>
            have hl : (iv (nums (K + 1) s)).length = K + 1 := by rw [iv_length]; exact hnl
            have hrep := repL_iv { γ with imm := fun c o => γ.imm c o ∨ (c = g ∧ o < K + 1) } w' (nums (K + 1) s)
            have hat : cellsAt { γ with imm := fun c o => γ.imm c o ∨ (c = g ∧ o < K + 1) } w' g 0 ((nums (K + 1) s).map (Value.int .i64)) := by
              intro j v hv
              have hj : j < K + 1 := by
                have := (List.getElem?_eq_some_iff.1 hv).1
                rw [List.length_map, hnl] at this
                exact this
              rw [List.getElem?_map, nums_get _ _ _ hj] at hv
              cases hv
              rw [Nat.zero_add]
              exact ⟨.inr ⟨rfl, hj⟩, hcs j hj⟩
            have hml : K + 1 ≤ maxLen := Nat.le_trans (show K + 1 ≤ 5 by omega) (by decide)
            have this := Rep.sliceRow (l := false) (es := iv (nums (K + 1) s)) (s := 1) (tag := .ro) (cap := K + 1) (by rw [flat_iv]; exact hrep) (fun e he => by obtain ⟨x, _, rfl⟩ := List.mem_map.1 he; rfl) hat (fun v hv => by obtain ⟨x, _, rfl⟩ := List.mem_map.1 hv; rfl) (by omega) hml trivial
            rw [hl] at this
            exact this
        exact ⟨_, g, K, rfl, .tuple (vs := [_, _]) (.cons (.agg (vs := [_, _, _, _]) (.cons (.int _ _ _) (.cons hrow (.cons (.int _ _ _) (.cons (.bool _ _) (.nil _))))) (by simp [Value.oneCell'])) (.cons (.int _ _ _) (.nil _))), hg, fun o ho => ⟨_, hcs o ho⟩, hB⟩
  · trivial
end Go.Proofs.Ytjdjecaclbdhhaa
end

section
set_option maxRecDepth 100000
set_option maxHeartbeats 0
set_option linter.unusedVariables false
namespace Go.Proofs.Ytjdjecaclbdhhaa.Ym
open Go.AL Go.Proofs
noncomputable def cLawB : Cfg := { keep := [0, 1, 2, 3, 6, 7, 8, 9, 10, 11, 12, 13, 14, 15, 16, 29, 62, 81, 83], cut := [(14, [3], [3])], orc := ofList [awakeE, parseE, parseRE, sameE, bytesE, bytesRE] }
noncomputable def code_5_ : Code := (Try.f5.body).getD .skip
noncomputable def code_5_1_1_1_1_1 : Code := codeAt code_5_ [1, 1, 1, 1, 1]
theorem lawB_r (c : Ck) (no : Int) (s : List UInt8) (Q : AVal → Sto → Prop) : vc Try.prog cLawB code_5_ (endK Try.prog Try.f5.results.toList Q) (St.start Try.f5.ntmps [ckV c, .int .i64 no, .str s] (Sto.empty)) =
  (brV (!hold true) false (brV (hold (decide ((50 : Int) < (↑(List.length (iv (Prod.fst (Prod.snd c)))) : Int)))) false (brV (hold (decide ((500 : Int) < (↑(List.length s) : Int)))) true (Q (AVal.bool (hold true)) Sto.empty) (∀ (y : Ck × Int), y = Go.Proofs.Ytjdjecaclbdhhaa.parseK no s → gb (Go.Proofs.Ytjdjecaclbdhhaa.lenM (List.length s)) (∀ (y_1 : Ck × Int), y_1 = Go.Proofs.Ytjdjecaclbdhhaa.parseK no s → gb (Go.Proofs.Ytjdjecaclbdhhaa.lenM (List.length s)) (brV (!hold (hold (Prod.snd y_1 == (0 : Int)) == hold (Prod.snd y == (0 : Int)))) false (brV (!hold (Prod.snd y_1 == (0 : Int))) true (brV (hold (Prod.snd y != (10 : Int))) false (gb (List.all [AVal.agg [AVal.int IntKind.i64 (Prod.fst (Prod.fst y)), AVal.slice (iv (Prod.fst (Prod.snd (Prod.fst y)))) 1 Tag.ro, AVal.int IntKind.i64 (Prod.fst (Prod.snd (Prod.snd (Prod.fst y)))), AVal.bool (Prod.snd (Prod.snd (Prod.snd (Prod.fst y))))]] ckIs && (List.all [AVal.agg [AVal.int IntKind.i64 (Prod.fst (Prod.fst y_1)), AVal.slice (iv (Prod.fst (Prod.snd (Prod.fst y_1)))) 1 Tag.ro, AVal.int IntKind.i64 (Prod.fst (Prod.snd (Prod.snd (Prod.fst y_1)))), AVal.bool (Prod.snd (Prod.snd (Prod.snd (Prod.fst y_1))))]] ckIs && (Go.Proofs.Ytjdjecaclbdhhaa.lenM 1 && List.all [AVal.agg [AVal.int IntKind.i64 (Prod.fst (Prod.fst y)), AVal.slice (iv (Prod.fst (Prod.snd (Prod.fst y)))) 1 Tag.ro, AVal.int IntKind.i64 (Prod.fst (Prod.snd (Prod.snd (Prod.fst y)))), AVal.bool (Prod.snd (Prod.snd (Prod.snd (Prod.fst y))))]] Go.Proofs.Ytjdjecaclbdhhaa.ckM))) (brV (!hold ([(Prod.fst (Prod.fst y), List.map AVal.intOf (iv (Prod.fst (Prod.snd (Prod.fst y)))), Prod.fst (Prod.snd (Prod.snd (Prod.fst y))), Prod.snd (Prod.snd (Prod.snd (Prod.fst y))))] == [(Prod.fst (Prod.fst y_1), List.map AVal.intOf (iv (Prod.fst (Prod.snd (Prod.fst y_1)))), Prod.fst (Prod.snd (Prod.snd (Prod.fst y_1))), Prod.snd (Prod.snd (Prod.snd (Prod.fst y_1))))])) true (Q (AVal.bool false) Sto.empty) (cutV (vc Try.prog cLawB code_5_1_1_1_1_1 (endK Try.prog (Array.toList (Go.Func.results Try.f5)) Q)) (St.mk 102 [(3, AVal.ptr (Oid.loc 3) 0)] [] [(3, AObj.cells [AVal.int IntKind.i64 (Prod.fst c), AVal.slice (iv (Prod.fst (Prod.snd c))) 1 Tag.ro, AVal.int IntKind.i64 (Prod.fst (Prod.snd (Prod.snd c))), AVal.bool (Prod.snd (Prod.snd (Prod.snd c)))])] Sto.empty)))) (Q (AVal.bool false) Sto.empty)) (gb (List.all [AVal.agg [AVal.int IntKind.i64 (Prod.fst (Prod.fst y)), AVal.slice (iv (Prod.fst (Prod.snd (Prod.fst y)))) 1 Tag.ro, AVal.int IntKind.i64 (Prod.fst (Prod.snd (Prod.snd (Prod.fst y)))), AVal.bool (Prod.snd (Prod.snd (Prod.snd (Prod.fst y))))]] ckIs && (List.all [AVal.agg [AVal.int IntKind.i64 (Prod.fst (Prod.fst y_1)), AVal.slice (iv (Prod.fst (Prod.snd (Prod.fst y_1)))) 1 Tag.ro, AVal.int IntKind.i64 (Prod.fst (Prod.snd (Prod.snd (Prod.fst y_1)))), AVal.bool (Prod.snd (Prod.snd (Prod.snd (Prod.fst y_1))))]] ckIs && (Go.Proofs.Ytjdjecaclbdhhaa.lenM 1 && List.all [AVal.agg [AVal.int IntKind.i64 (Prod.fst (Prod.fst y)), AVal.slice (iv (Prod.fst (Prod.snd (Prod.fst y)))) 1 Tag.ro, AVal.int IntKind.i64 (Prod.fst (Prod.snd (Prod.snd (Prod.fst y)))), AVal.bool (Prod.snd (Prod.snd (Prod.snd (Prod.fst y))))]] Go.Proofs.Ytjdjecaclbdhhaa.ckM))) (brV (!hold ([(Prod.fst (Prod.fst y), List.map AVal.intOf (iv (Prod.fst (Prod.snd (Prod.fst y)))), Prod.fst (Prod.snd (Prod.snd (Prod.fst y))), Prod.snd (Prod.snd (Prod.snd (Prod.fst y))))] == [(Prod.fst (Prod.fst y_1), List.map AVal.intOf (iv (Prod.fst (Prod.snd (Prod.fst y_1)))), Prod.fst (Prod.snd (Prod.snd (Prod.fst y_1))), Prod.snd (Prod.snd (Prod.snd (Prod.fst y_1))))])) true (Q (AVal.bool false) Sto.empty) (cutV (vc Try.prog cLawB code_5_1_1_1_1_1 (endK Try.prog (Array.toList (Go.Func.results Try.f5)) Q)) (St.mk 102 [(3, AVal.ptr (Oid.loc 3) 0)] [] [(3, AObj.cells [AVal.int IntKind.i64 (Prod.fst c), AVal.slice (iv (Prod.fst (Prod.snd c))) 1 Tag.ro, AVal.int IntKind.i64 (Prod.fst (Prod.snd (Prod.snd c))), AVal.bool (Prod.snd (Prod.snd (Prod.snd c)))])] Sto.empty))))) (Q (AVal.bool false) Sto.empty))))) (Q (AVal.bool (hold true)) Sto.empty)) (Q (AVal.bool (hold true)) Sto.empty)) := by kernel_rfl
theorem lawB_i (c : Ck) (no : Int) (s : List UInt8) (Q : AVal → Sto → Prop) (ho : OrcOk Try.prog cLawB) (h : brV (!hold true) false (brV (hold (decide ((50 : Int) < (↑(List.length (iv (Prod.fst (Prod.snd c)))) : Int)))) false (brV (hold (decide ((500 : Int) < (↑(List.length s) : Int)))) true (Q (AVal.bool (hold true)) Sto.empty) (∀ (y : Ck × Int), y = Go.Proofs.Ytjdjecaclbdhhaa.parseK no s → gb (Go.Proofs.Ytjdjecaclbdhhaa.lenM (List.length s)) (∀ (y_1 : Ck × Int), y_1 = Go.Proofs.Ytjdjecaclbdhhaa.parseK no s → gb (Go.Proofs.Ytjdjecaclbdhhaa.lenM (List.length s)) (brV (!hold (hold (Prod.snd y_1 == (0 : Int)) == hold (Prod.snd y == (0 : Int)))) false (brV (!hold (Prod.snd y_1 == (0 : Int))) true (brV (hold (Prod.snd y != (10 : Int))) false (gb (List.all [AVal.agg [AVal.int IntKind.i64 (Prod.fst (Prod.fst y)), AVal.slice (iv (Prod.fst (Prod.snd (Prod.fst y)))) 1 Tag.ro, AVal.int IntKind.i64 (Prod.fst (Prod.snd (Prod.snd (Prod.fst y)))), AVal.bool (Prod.snd (Prod.snd (Prod.snd (Prod.fst y))))]] ckIs && (List.all [AVal.agg [AVal.int IntKind.i64 (Prod.fst (Prod.fst y_1)), AVal.slice (iv (Prod.fst (Prod.snd (Prod.fst y_1)))) 1 Tag.ro, AVal.int IntKind.i64 (Prod.fst (Prod.snd (Prod.snd (Prod.fst y_1)))), AVal.bool (Prod.snd (Prod.snd (Prod.snd (Prod.fst y_1))))]] ckIs && (Go.Proofs.Ytjdjecaclbdhhaa.lenM 1 && List.all [AVal.agg [AVal.int IntKind.i64 (Prod.fst (Prod.fst y)), AVal.slice (iv (Prod.fst (Prod.snd (Prod.fst y)))) 1 Tag.ro, AVal.int IntKind.i64 (Prod.fst (Prod.snd (Prod.snd (Prod.fst y)))), AVal.bool (Prod.snd (Prod.snd (Prod.snd (Prod.fst y))))]] Go.Proofs.Ytjdjecaclbdhhaa.ckM))) (brV (!hold ([(Prod.fst (Prod.fst y), List.map AVal.intOf (iv (Prod.fst (Prod.snd (Prod.fst y)))), Prod.fst (Prod.snd (Prod.snd (Prod.fst y))), Prod.snd (Prod.snd (Prod.snd (Prod.fst y))))] == [(Prod.fst (Prod.fst y_1), List.map AVal.intOf (iv (Prod.fst (Prod.snd (Prod.fst y_1)))), Prod.fst (Prod.snd (Prod.snd (Prod.fst y_1))), Prod.snd (Prod.snd (Prod.snd (Prod.fst y_1))))])) true (Q (AVal.bool false) Sto.empty) (cutV (vc Try.prog cLawB code_5_1_1_1_1_1 (endK Try.prog (Array.toList (Go.Func.results Try.f5)) Q)) (St.mk 102 [(3, AVal.ptr (Oid.loc 3) 0)] [] [(3, AObj.cells [AVal.int IntKind.i64 (Prod.fst c), AVal.slice (iv (Prod.fst (Prod.snd c))) 1 Tag.ro, AVal.int IntKind.i64 (Prod.fst (Prod.snd (Prod.snd c))), AVal.bool (Prod.snd (Prod.snd (Prod.snd c)))])] Sto.empty)))) (Q (AVal.bool false) Sto.empty)) (gb (List.all [AVal.agg [AVal.int IntKind.i64 (Prod.fst (Prod.fst y)), AVal.slice (iv (Prod.fst (Prod.snd (Prod.fst y)))) 1 Tag.ro, AVal.int IntKind.i64 (Prod.fst (Prod.snd (Prod.snd (Prod.fst y)))), AVal.bool (Prod.snd (Prod.snd (Prod.snd (Prod.fst y))))]] ckIs && (List.all [AVal.agg [AVal.int IntKind.i64 (Prod.fst (Prod.fst y_1)), AVal.slice (iv (Prod.fst (Prod.snd (Prod.fst y_1)))) 1 Tag.ro, AVal.int IntKind.i64 (Prod.fst (Prod.snd (Prod.snd (Prod.fst y_1)))), AVal.bool (Prod.snd (Prod.snd (Prod.snd (Prod.fst y_1))))]] ckIs && (Go.Proofs.Ytjdjecaclbdhhaa.lenM 1 && List.all [AVal.agg [AVal.int IntKind.i64 (Prod.fst (Prod.fst y)), AVal.slice (iv (Prod.fst (Prod.snd (Prod.fst y)))) 1 Tag.ro, AVal.int IntKind.i64 (Prod.fst (Prod.snd (Prod.snd (Prod.fst y)))), AVal.bool (Prod.snd (Prod.snd (Prod.snd (Prod.fst y))))]] Go.Proofs.Ytjdjecaclbdhhaa.ckM))) (brV (!hold ([(Prod.fst (Prod.fst y), List.map AVal.intOf (iv (Prod.fst (Prod.snd (Prod.fst y)))), Prod.fst (Prod.snd (Prod.snd (Prod.fst y))), Prod.snd (Prod.snd (Prod.snd (Prod.fst y))))] == [(Prod.fst (Prod.fst y_1), List.map AVal.intOf (iv (Prod.fst (Prod.snd (Prod.fst y_1)))), Prod.fst (Prod.snd (Prod.snd (Prod.fst y_1))), Prod.snd (Prod.snd (Prod.snd (Prod.fst y_1))))])) true (Q (AVal.bool false) Sto.empty) (cutV (vc Try.prog cLawB code_5_1_1_1_1_1 (endK Try.prog (Array.toList (Go.Func.results Try.f5)) Q)) (St.mk 102 [(3, AVal.ptr (Oid.loc 3) 0)] [] [(3, AObj.cells [AVal.int IntKind.i64 (Prod.fst c), AVal.slice (iv (Prod.fst (Prod.snd c))) 1 Tag.ro, AVal.int IntKind.i64 (Prod.fst (Prod.snd (Prod.snd c))), AVal.bool (Prod.snd (Prod.snd (Prod.snd c)))])] Sto.empty))))) (Q (AVal.bool false) Sto.empty))))) (Q (AVal.bool (hold true)) Sto.empty)) (Q (AVal.bool (hold true)) Sto.empty)) : ACall Try.prog 5 [ckV c, .int .i64 no, .str s] (Sto.empty) Q :=
  ACall.intro hmix Try.func5 (c := code_5_) (by kernel_rfl) cLawB ho (Nat.le_of_ble_eq_true (by kernel_rfl)) (by rw [lawB_r]; exact h)
noncomputable def lawBF_S (c : Ck) : St := St.mk 102 [(3, .ptr (.loc 3) 0)] [] [(3, .cells (ckC c))] (Sto.empty)
noncomputable abbrev lawBF_C : Code := code_5_1_1_1_1_1
theorem lawBF_r (c : Ck) (Q : AVal → Sto → Prop) : vc Try.prog cLawB code_5_1_1_1_1_1 (endK Try.prog Try.f5.results.toList Q) (St.mk 102 [(3, .ptr (.loc 3) 0)] [] [(3, .cells (ckC c))] (Sto.empty)) =
  (∀ (y : List UInt8 × Int), y = Go.Proofs.Ytjdjecaclbdhhaa.bytesK (Prod.fst c, List.map AVal.intOf (iv (Prod.fst (Prod.snd c))), Prod.fst (Prod.snd (Prod.snd c)), Prod.snd (Prod.snd (Prod.snd c))) → gb (Go.Proofs.Ytjdjecaclbdhhaa.ckM (AVal.agg [AVal.int IntKind.i64 (Prod.fst c), AVal.slice (iv (Prod.fst (Prod.snd c))) 1 Tag.ro, AVal.int IntKind.i64 (Prod.fst (Prod.snd (Prod.snd c))), AVal.bool (Prod.snd (Prod.snd (Prod.snd c)))])) (∀ (y_1 : List UInt8 × Int), y_1 = Go.Proofs.Ytjdjecaclbdhhaa.bytesK (Prod.fst c, List.map AVal.intOf (iv (Prod.fst (Prod.snd c))), Prod.fst (Prod.snd (Prod.snd c)), Prod.snd (Prod.snd (Prod.snd c))) → gb (Go.Proofs.Ytjdjecaclbdhhaa.ckM (AVal.agg [AVal.int IntKind.i64 (Prod.fst c), AVal.slice (iv (Prod.fst (Prod.snd c))) 1 Tag.ro, AVal.int IntKind.i64 (Prod.fst (Prod.snd (Prod.snd c))), AVal.bool (Prod.snd (Prod.snd (Prod.snd c)))])) (brV (!hold (hold (Prod.snd y_1 == (0 : Int)) == hold (Prod.snd y == (0 : Int)))) false (brV (hold !Prod.fst y == Prod.fst y_1) true (Q (AVal.bool false) Sto.empty) (brV (!hold (Prod.snd y_1 == (0 : Int))) true (Q (AVal.bool (hold (Prod.snd y == (2 : Int)))) Sto.empty) (∀ (y_2 : Ck × Int), y_2 = Go.Proofs.Ytjdjecaclbdhhaa.parseK (Prod.fst c) (Prod.fst y) → gb (Go.Proofs.Ytjdjecaclbdhhaa.lenM (List.length (Prod.fst y))) (brV (hold (Prod.snd y_2 == (0 : Int))) true (gb (List.all [AVal.agg [AVal.int IntKind.i64 (Prod.fst (Prod.fst y_2)), AVal.slice (iv (Prod.fst (Prod.snd (Prod.fst y_2)))) 1 Tag.ro, AVal.int IntKind.i64 (Prod.fst (Prod.snd (Prod.snd (Prod.fst y_2)))), AVal.bool (Prod.snd (Prod.snd (Prod.snd (Prod.fst y_2))))]] ckIs && (List.all [AVal.agg [AVal.int IntKind.i64 (Prod.fst c), AVal.slice (iv (Prod.fst (Prod.snd c))) 1 Tag.ro, AVal.int IntKind.i64 (Prod.fst (Prod.snd (Prod.snd c))), AVal.bool (Prod.snd (Prod.snd (Prod.snd c)))]] ckIs && (Go.Proofs.Ytjdjecaclbdhhaa.lenM 1 && List.all [AVal.agg [AVal.int IntKind.i64 (Prod.fst (Prod.fst y_2)), AVal.slice (iv (Prod.fst (Prod.snd (Prod.fst y_2)))) 1 Tag.ro, AVal.int IntKind.i64 (Prod.fst (Prod.snd (Prod.snd (Prod.fst y_2)))), AVal.bool (Prod.snd (Prod.snd (Prod.snd (Prod.fst y_2))))]] Go.Proofs.Ytjdjecaclbdhhaa.ckM))) (Q (AVal.bool (hold ([(Prod.fst (Prod.fst y_2), List.map AVal.intOf (iv (Prod.fst (Prod.snd (Prod.fst y_2)))), Prod.fst (Prod.snd (Prod.snd (Prod.fst y_2))), Prod.snd (Prod.snd (Prod.snd (Prod.fst y_2))))] == [(Prod.fst c, List.map AVal.intOf (iv (Prod.fst (Prod.snd c))), Prod.fst (Prod.snd (Prod.snd c)), Prod.snd (Prod.snd (Prod.snd c)))]))) Sto.empty)) (Q (AVal.bool false) Sto.empty))))) (Q (AVal.bool false) Sto.empty)))) := by kernel_rfl
end Go.Proofs.Ytjdjecaclbdhhaa.Ym
end

section
set_option maxRecDepth 100000
set_option maxHeartbeats 0
set_option linter.unusedVariables false
namespace Go.Proofs.Ytjdjecaclbdhhaa
open Go.AL Go.Proofs
noncomputable def cRem1 : Cfg := { keep := [0, 1, 3], cut := [] }
noncomputable def cIndexD : Cfg := { keep := [0, 1, 4, 5, 7, 8, 9, 16], cut := [(5, [0, 1, 7, 8], [])], orc := ofList [rem1E] }
noncomputable def cDelF : Cfg := { keep := [0, 1, 4, 5, 6, 7, 12, 19, 29], cut := [(11, [0, 1, 5, 6], []), (12, [0, 1, 5, 6], []), (20, [0, 1, 5, 6], []), (22, [0, 5], [])], orc := ofList [rem1E, indexDE] }
noncomputable def cInsert : Cfg := { keep := [0, 1, 4, 5, 6, 7, 9, 10, 14, 21, 26, 58], cut := [], orc := ofList [rightE, idsE, containsIE, placeE, ownME, roE bsE, insIE, freshE, cloneISE] }
noncomputable def cRemove : Cfg := { keep := [0, 1, 3, 4, 5, 6, 7, 8, 11, 28, 46], cut := [], orc := ofList [rightE, placeE, containsIE, ownXE, delFE], frz := [36] }
noncomputable def code_16_ : Code := (Try.f16.body).getD .skip
noncomputable def code_35_ : Code := (Try.f35.body).getD .skip
noncomputable def code_36_ : Code := (Try.f36.body).getD .skip
noncomputable def code_51_ : Code := (Try.f51.body).getD .skip
noncomputable def code_9_ : Code := (Try.f9.body).getD .skip
noncomputable def code_51_1_1 : Code := codeAt code_51_ [1, 1]
noncomputable def code_35_1_1_1_1 : Code := codeAt code_35_ [1, 1, 1, 1]
noncomputable def code_51_1_0_1_0_0 : Code := codeAt code_51_ [1, 0, 1, 0, 0]
noncomputable def code_35_1_1_1_0_1_0_0 : Code := codeAt code_35_ [1, 1, 1, 0, 1, 0, 0]
noncomputable def code_35_1_1_1_0_1_0_0_1_1 : Code := codeAt code_35_ [1, 1, 1, 0, 1, 0, 0, 1, 1]
noncomputable def code_35_1_1_1_0_1_0_0_1_0_0_1_1_0_1 : Code := codeAt code_35_ [1, 1, 1, 0, 1, 0, 0, 1, 0, 0, 1, 1, 0, 1]
theorem rem1_r (a x : Int) (Q : AVal → Sto → Prop) : vc Try.prog cRem1 code_36_ (endK Try.prog Try.f36.results.toList Q) (St.start Try.f36.ntmps [.int .i64 a, .iptr [.int .i64 x]] (Sto.empty)) =
  (Q (AVal.bool (hold (a == x))) Sto.empty) := by kernel_rfl
theorem rem1_i (a x : Int) (Q : AVal → Sto → Prop) (ho : OrcOk Try.prog cRem1) (h : Q (AVal.bool (hold (a == x))) Sto.empty) : ACall Try.prog 36 [.int .i64 a, .iptr [.int .i64 x]] (Sto.empty) Q :=
  ACall.intro hmix Try.func36 (c := code_36_) (by kernel_rfl) cRem1 ho (Nat.le_of_ble_eq_true (by kernel_rfl)) (by rw [rem1_r]; exact h)
theorem indexD_r (cs : List AVal) (n c : Nat) (x : Int) (Q : AVal → Sto → Prop) : vc Try.prog cIndexD code_51_ (endK Try.prog Try.f51.results.toList Q) (St.start Try.f51.ntmps [.arr (.out 0) 0 n c, .func (.func 36) [] [.iptr [.int .i64 x]]] (Sto.one (.cells cs))) =
  (loopV (fun s => St.norm [] [0, 1, 7, 8] [] s) (vc Try.prog cIndexD code_51_1_0_1_0_0) (blockK 0 (thenK (vc Try.prog cIndexD code_51_1_1 (endK Try.prog (Array.toList (Go.Func.results Try.f51)) Q)) (endK Try.prog (Array.toList (Go.Func.results Try.f51)) Q))) (St.mk 19 [(0, AVal.arr (Oid.out 0) 0 n c), (1, AVal.func (Go.Fn.func 36) [] [AVal.iptr [AVal.int IntKind.i64 x]]), (7, AVal.int IntKind.i64 (↑n : Int)), (8, AVal.int IntKind.i64 (0 : Int))] [] [] (Sto.one (AObj.cells cs)))) := by kernel_rfl
theorem indexD_i (cs : List AVal) (n c : Nat) (x : Int) (Q : AVal → Sto → Prop) (ho : OrcOk Try.prog cIndexD) (h : loopV (fun s => St.norm [] [0, 1, 7, 8] [] s) (vc Try.prog cIndexD code_51_1_0_1_0_0) (blockK 0 (thenK (vc Try.prog cIndexD code_51_1_1 (endK Try.prog (Array.toList (Go.Func.results Try.f51)) Q)) (endK Try.prog (Array.toList (Go.Func.results Try.f51)) Q))) (St.mk 19 [(0, AVal.arr (Oid.out 0) 0 n c), (1, AVal.func (Go.Fn.func 36) [] [AVal.iptr [AVal.int IntKind.i64 x]]), (7, AVal.int IntKind.i64 (↑n : Int)), (8, AVal.int IntKind.i64 (0 : Int))] [] [] (Sto.one (AObj.cells cs)))) : ACall Try.prog 51 [.arr (.out 0) 0 n c, .func (.func 36) [] [.iptr [.int .i64 x]]] (Sto.one (.cells cs)) Q :=
  ACall.intro hmix Try.func51 (c := code_51_) (by kernel_rfl) cIndexD ho (Nat.le_of_ble_eq_true (by kernel_rfl)) (by rw [indexD_r]; exact h)
noncomputable def indexDL_S (cs : List AVal) (n c : Nat) (x : Int) (k i : Nat) : St := St.mk 19 [(0, .arr (.out 0) 0 n c), (1, .func (.func 36) [] [.iptr [.int .i64 x]]), (7, .int .i64 (k : Int)), (8, .int .i64 (i : Int))] [] [] (Sto.one (.cells cs))
noncomputable abbrev indexDL_C : Code := code_51_1_0_1_0_0
theorem indexDL_r (cs : List AVal) (n c : Nat) (x : Int) (k i : Nat) (L : St → Prop) (K : Exit → St → Prop) : vc Try.prog cIndexD code_51_1_0_1_0_0 (thenK (fun s => L (St.norm [] [0, 1, 7, 8] [] s)) K) (St.mk 19 [(0, .arr (.out 0) 0 n c), (1, .func (.func 36) [] [.iptr [.int .i64 x]]), (7, .int .i64 (k : Int)), (8, .int .i64 (i : Int))] [] [] (Sto.one (.cells cs))) =
  (brV (hold (decide ((↑i : Int) < (↑k : Int)))) true (gb (decide ((0 : Int) ≤ (↑i : Int) ∧ (↑i : Int) < (↑n : Int))) (gb (decide (0 + Int.toNat (↑i : Int) * 1 + 1 ≤ List.length cs ∧ 0 < 1) && etaOk (Sh.int IntKind.i64) (List.getD cs (0 + Int.toNat (↑i : Int) * 1) AVal.undef)) (brV (hold (AVal.intOf (List.getD cs (0 + Int.toNat (↑i : Int) * 1) AVal.undef) == x)) true (K Exit.ret (St.mk 19 [(0, AVal.arr (Oid.out 0) 0 n c), (1, AVal.func (Go.Fn.func 36) [] [AVal.iptr [AVal.int IntKind.i64 x]]), (7, AVal.int IntKind.i64 (↑k : Int)), (8, AVal.int IntKind.i64 (↑i : Int)), (9, AVal.bool (hold (decide ((↑i : Int) < (↑k : Int))))), (5, AVal.int IntKind.i64 (↑i : Int)), (16, AVal.bool (hold (AVal.intOf (List.getD cs (0 + Int.toNat (↑i : Int) * 1) AVal.undef) == x))), (4, AVal.int IntKind.i64 (↑i : Int))] [] [] (Sto.one (AObj.cells cs)))) (L (St.mk 19 [(0, AVal.arr (Oid.out 0) 0 n c), (1, AVal.func (Go.Fn.func 36) [] [AVal.iptr [AVal.int IntKind.i64 x]]), (7, AVal.int IntKind.i64 (↑k : Int)), (8, AVal.int IntKind.i64 (IntKind.wrap IntKind.i64 ((↑i : Int) + (1 : Int))))] [] [] (Sto.one (AObj.cells cs))))))) (K (Exit.exit 0) (St.mk 19 [(0, AVal.arr (Oid.out 0) 0 n c), (1, AVal.func (Go.Fn.func 36) [] [AVal.iptr [AVal.int IntKind.i64 x]]), (7, AVal.int IntKind.i64 (↑k : Int)), (8, AVal.int IntKind.i64 (↑i : Int)), (9, AVal.bool (hold (decide ((↑i : Int) < (↑k : Int)))))] [] [] (Sto.one (AObj.cells cs))))) := by kernel_rfl
theorem delF_r (cs : List AVal) (n c : Nat) (x : Int) (Q : AVal → Sto → Prop) : vc Try.prog cDelF code_35_ (endK Try.prog Try.f35.results.toList Q) (St.start Try.f35.ntmps [.arr (.out 0) 0 n c, .func (.func 36) [] [.iptr [.int .i64 x]]] (Sto.one (.cells cs))) =
  (∀ (y : Bool), y = List.contains (List.map AVal.intOf (List.take n cs)) x → ∀ (y_1 : Int), (y_1 = if y = true then (↑(List.idxOf x (List.map AVal.intOf (List.take n cs))) : Int) else (-1 : Int)) → gb (isSto (Sto.one (AObj.cells cs)) (Sto.one (AObj.cells cs)) && (List.all (List.take n cs) isI64 && hold (decide (n ≤ List.length cs ∧ n ≤ 1000000)))) (brV (hold (y_1 == (-1 : Int))) true (Q (AVal.arr (Oid.out 0) 0 n c) (Sto.one (AObj.cells cs))) (loopV (fun s => St.norm [] [0, 1, 5, 6] [] s) (vc Try.prog cDelF code_35_1_1_1_0_1_0_0) (blockK 0 (thenK (fun s => cutV (vc Try.prog cDelF code_35_1_1_1_1 (endK Try.prog (Array.toList (Go.Func.results Try.f35)) Q)) (St.norm [] [0, 5] [] s)) (endK Try.prog (Array.toList (Go.Func.results Try.f35)) Q))) (St.mk 42 [(0, AVal.arr (Oid.out 0) 0 n c), (1, AVal.func (Go.Fn.func 36) [] [AVal.iptr [AVal.int IntKind.i64 x]]), (5, AVal.int IntKind.i64 y_1), (6, AVal.int IntKind.i64 (IntKind.wrap IntKind.i64 (y_1 + (1 : Int))))] [] [] (Sto.one (AObj.cells cs)))))) := by kernel_rfl
theorem delF_i (cs : List AVal) (n c : Nat) (x : Int) (Q : AVal → Sto → Prop) (ho : OrcOk Try.prog cDelF) (h : ∀ (y : Bool), y = List.contains (List.map AVal.intOf (List.take n cs)) x → ∀ (y_1 : Int), (y_1 = if y = true then (↑(List.idxOf x (List.map AVal.intOf (List.take n cs))) : Int) else (-1 : Int)) → gb (isSto (Sto.one (AObj.cells cs)) (Sto.one (AObj.cells cs)) && (List.all (List.take n cs) isI64 && hold (decide (n ≤ List.length cs ∧ n ≤ 1000000)))) (brV (hold (y_1 == (-1 : Int))) true (Q (AVal.arr (Oid.out 0) 0 n c) (Sto.one (AObj.cells cs))) (loopV (fun s => St.norm [] [0, 1, 5, 6] [] s) (vc Try.prog cDelF code_35_1_1_1_0_1_0_0) (blockK 0 (thenK (fun s => cutV (vc Try.prog cDelF code_35_1_1_1_1 (endK Try.prog (Array.toList (Go.Func.results Try.f35)) Q)) (St.norm [] [0, 5] [] s)) (endK Try.prog (Array.toList (Go.Func.results Try.f35)) Q))) (St.mk 42 [(0, AVal.arr (Oid.out 0) 0 n c), (1, AVal.func (Go.Fn.func 36) [] [AVal.iptr [AVal.int IntKind.i64 x]]), (5, AVal.int IntKind.i64 y_1), (6, AVal.int IntKind.i64 (IntKind.wrap IntKind.i64 (y_1 + (1 : Int))))] [] [] (Sto.one (AObj.cells cs)))))) : ACall Try.prog 35 [.arr (.out 0) 0 n c, .func (.func 36) [] [.iptr [.int .i64 x]]] (Sto.one (.cells cs)) Q :=
  ACall.intro hmix Try.func35 (c := code_35_) (by kernel_rfl) cDelF ho (Nat.le_of_ble_eq_true (by kernel_rfl)) (by rw [delF_r]; exact h)
noncomputable def delFL_S (cs : List AVal) (n c : Nat) (x : Int) (i j : Nat) : St := St.mk 42 [(0, .arr (.out 0) 0 n c), (1, .func (.func 36) [] [.iptr [.int .i64 x]]), (5, .int .i64 (i : Int)), (6, .int .i64 (j : Int))] [] [] (Sto.one (.cells cs))
noncomputable abbrev delFL_C : Code := code_35_1_1_1_0_1_0_0
theorem delFL_r (cs : List AVal) (n c : Nat) (x : Int) (i j : Nat) (L : St → Prop) (K : Exit → St → Prop) : vc Try.prog cDelF code_35_1_1_1_0_1_0_0 (thenK (fun s => L (St.norm [] [0, 1, 5, 6] [] s)) K) (St.mk 42 [(0, .arr (.out 0) 0 n c), (1, .func (.func 36) [] [.iptr [.int .i64 x]]), (5, .int .i64 (i : Int)), (6, .int .i64 (j : Int))] [] [] (Sto.one (.cells cs))) =
  (brV (hold (decide ((↑j : Int) < (↑n : Int)))) true (gb (decide ((0 : Int) ≤ (↑j : Int) ∧ (↑j : Int) < (↑n : Int))) (gb (decide (0 + Int.toNat (↑j : Int) * 1 + 1 ≤ List.length cs ∧ 0 < 1) && etaOk (Sh.int IntKind.i64) (List.getD cs (0 + Int.toNat (↑j : Int) * 1) AVal.undef)) (brV (!hold (AVal.intOf (List.getD cs (0 + Int.toNat (↑j : Int) * 1) AVal.undef) == x)) true (gb (decide ((0 : Int) ≤ (↑i : Int) ∧ (↑i : Int) < (↑n : Int))) (gb (decide (0 + Int.toNat (↑i : Int) * 1 + 1 ≤ List.length cs ∧ (Oid.isOut (Oid.out 0) = true → noLocL (AVal.cells (St.eval (St.mk 42 [(0, AVal.arr (Oid.out 0) 0 n c), (1, AVal.func (Go.Fn.func 36) [] [AVal.iptr [AVal.int IntKind.i64 x]]), (5, AVal.int IntKind.i64 (↑i : Int)), (6, AVal.int IntKind.i64 (↑j : Int)), (19, AVal.bool (hold (decide ((↑j : Int) < (↑n : Int))))), (7, AVal.int IntKind.i64 (AVal.intOf (List.getD cs (0 + Int.toNat (↑j : Int) * 1) AVal.undef))), (29, AVal.bool !hold (AVal.intOf (List.getD cs (0 + Int.toNat (↑j : Int) * 1) AVal.undef) == x))] [(33, AVal.ptr (Oid.out 0) (0 + Int.toNat (↑i : Int) * 1)), (32, AVal.int IntKind.i64 (AVal.intOf (List.getD cs (0 + Int.toNat (↑j : Int) * 1) AVal.undef))), (31, AVal.int IntKind.i64 (↑i : Int)), (30, AVal.arr (Oid.out 0) 0 n c)] [] (Sto.one (AObj.cells cs))) (Go.Operand.tmp 32))) = true))) (cutV (vc Try.prog cDelF code_35_1_1_1_0_1_0_0_1_0_0_1_1_0_1 (blockK 1 (thenK (fun s => cutV (vc Try.prog cDelF code_35_1_1_1_0_1_0_0_1_1 (thenK (fun s => L (St.norm [] [0, 1, 5, 6] [] s)) K)) (St.norm [] [0, 1, 5, 6] [] s)) (thenK (fun s => L (St.norm [] [0, 1, 5, 6] [] s)) K)))) (St.mk 42 [(0, AVal.arr (Oid.out 0) 0 n c), (1, AVal.func (Go.Fn.func 36) [] [AVal.iptr [AVal.int IntKind.i64 x]]), (5, AVal.int IntKind.i64 (↑i : Int)), (6, AVal.int IntKind.i64 (↑j : Int))] [] [] (Sto.set (Sto.one (AObj.cells cs)) 0 (AObj.cells (setRange cs (0 + Int.toNat (↑i : Int) * 1) [AVal.int IntKind.i64 (AVal.intOf (List.getD cs (0 + Int.toNat (↑j : Int) * 1) AVal.undef))]))))))) (cutV (vc Try.prog cDelF code_35_1_1_1_0_1_0_0_1_1 (thenK (fun s => L (St.norm [] [0, 1, 5, 6] [] s)) K)) (St.mk 42 [(0, AVal.arr (Oid.out 0) 0 n c), (1, AVal.func (Go.Fn.func 36) [] [AVal.iptr [AVal.int IntKind.i64 x]]), (5, AVal.int IntKind.i64 (↑i : Int)), (6, AVal.int IntKind.i64 (↑j : Int))] [] [] (Sto.one (AObj.cells cs))))))) (K (Exit.exit 0) (St.mk 42 [(0, AVal.arr (Oid.out 0) 0 n c), (1, AVal.func (Go.Fn.func 36) [] [AVal.iptr [AVal.int IntKind.i64 x]]), (5, AVal.int IntKind.i64 (↑i : Int)), (6, AVal.int IntKind.i64 (↑j : Int)), (19, AVal.bool (hold (decide ((↑j : Int) < (↑n : Int)))))] [] [] (Sto.one (AObj.cells cs))))) := by kernel_rfl
noncomputable def delFI_S (cs : List AVal) (n c : Nat) (x : Int) (i j : Nat) : St := St.mk 42 [(0, .arr (.out 0) 0 n c), (1, .func (.func 36) [] [.iptr [.int .i64 x]]), (5, .int .i64 (i : Int)), (6, .int .i64 (j : Int))] [] [] (Sto.one (.cells cs))
noncomputable abbrev delFI_C : Code := code_35_1_1_1_0_1_0_0_1_1
theorem delFI_r (cs : List AVal) (n c : Nat) (x : Int) (i j : Nat) (K : Exit → St → Prop) : vc Try.prog cDelF code_35_1_1_1_0_1_0_0_1_1 K (St.mk 42 [(0, .arr (.out 0) 0 n c), (1, .func (.func 36) [] [.iptr [.int .i64 x]]), (5, .int .i64 (i : Int)), (6, .int .i64 (j : Int))] [] [] (Sto.one (.cells cs))) =
  (K Exit.normal (St.mk 42 [(0, AVal.arr (Oid.out 0) 0 n c), (1, AVal.func (Go.Fn.func 36) [] [AVal.iptr [AVal.int IntKind.i64 x]]), (5, AVal.int IntKind.i64 (↑i : Int)), (6, AVal.int IntKind.i64 (IntKind.wrap IntKind.i64 ((↑j : Int) + (1 : Int))))] [] [] (Sto.one (AObj.cells cs)))) := by kernel_rfl
noncomputable def delFJ_S (cs : List AVal) (n c : Nat) (x : Int) (i j : Nat) : St := St.mk 42 [(0, .arr (.out 0) 0 n c), (1, .func (.func 36) [] [.iptr [.int .i64 x]]), (5, .int .i64 (i : Int)), (6, .int .i64 (j : Int))] [] [] (Sto.one (.cells cs))
noncomputable abbrev delFJ_C : Code := code_35_1_1_1_0_1_0_0_1_0_0_1_1_0_1
theorem delFJ_r (cs : List AVal) (n c : Nat) (x : Int) (i j : Nat) (K : Exit → St → Prop) : vc Try.prog cDelF code_35_1_1_1_0_1_0_0_1_0_0_1_1_0_1 K (St.mk 42 [(0, .arr (.out 0) 0 n c), (1, .func (.func 36) [] [.iptr [.int .i64 x]]), (5, .int .i64 (i : Int)), (6, .int .i64 (j : Int))] [] [] (Sto.one (.cells cs))) =
  (K Exit.normal (St.mk 42 [(0, AVal.arr (Oid.out 0) 0 n c), (1, AVal.func (Go.Fn.func 36) [] [AVal.iptr [AVal.int IntKind.i64 x]]), (5, AVal.int IntKind.i64 (IntKind.wrap IntKind.i64 ((↑i : Int) + (1 : Int)))), (6, AVal.int IntKind.i64 (↑j : Int))] [] [] (Sto.one (AObj.cells cs)))) := by kernel_rfl
noncomputable def delFF_S (cs : List AVal) (n c : Nat) (i : Nat) : St := St.mk 42 [(0, .arr (.out 0) 0 n c), (5, .int .i64 (i : Int))] [] [] (Sto.one (.cells cs))
noncomputable abbrev delFF_C : Code := code_35_1_1_1_1
theorem delFF_r (cs : List AVal) (n c : Nat) (i : Nat) (Q : AVal → Sto → Prop) : vc Try.prog cDelF code_35_1_1_1_1 (endK Try.prog Try.f35.results.toList Q) (St.mk 42 [(0, .arr (.out 0) 0 n c), (5, .int .i64 (i : Int))] [] [] (Sto.one (.cells cs))) =
  (gb (decide ((0 : Int) ≤ (↑i : Int) ∧ (↑i : Int) ≤ (↑n : Int) ∧ (↑n : Int) ≤ (↑c : Int))) (gb (decide (decide (0 + Int.toNat (↑i : Int) * 1 + (Int.toNat (↑n : Int) - Int.toNat (↑i : Int)) * 1 ≤ List.length cs ∧ true = true) = true ∧ true = true)) (gb (decide ((0 : Int) ≤ (0 : Int) ∧ (0 : Int) ≤ (↑i : Int) ∧ (↑i : Int) ≤ (↑c : Int))) (Q (AVal.arr (Oid.out 0) 0 (Int.toNat (↑i : Int) - 0) (c - 0)) (Sto.set (Sto.one (AObj.cells cs)) 0 (AObj.cells (setRange cs (0 + Int.toNat (↑i : Int) * 1) (flat (List.replicate (Int.toNat (↑n : Int) - Int.toNat (↑i : Int)) (AVal.int IntKind.i64 (0 : Int))))))))))) := by kernel_rfl
theorem insert_r (l : List Ck) (x : Int) (Q : AVal → Sto → Prop) : vc Try.prog cInsert code_9_ (endK Try.prog Try.f9.results.toList Q) (St.start Try.f9.ntmps [.slice (ckv l) 4 .ro, .int .i64 x] (Sto.empty)) =
  (gb (List.all (ckv l) ckIs && (lenM (List.length (ckv l)) && List.all (ckv l) ckM)) (brV (!hold (rightC (List.map ckOf (ckv l)))) true (Q (AVal.tuple [AVal.slice [] 0 Tag.nil, AVal.int IntKind.i64 (100 : Int)]) Sto.empty) (brV (hold (decide (x < (0 : Int)))) false (brV (hold (decide ((1099511627776 : Int) ≤ x))) true (Q (AVal.tuple [AVal.slice [] 0 Tag.nil, AVal.int IntKind.i64 (2 : Int)]) Sto.empty) (∀ (y : List Int), y = idsC (List.map ckOf (ckv l)) → gb (List.all (ckv l) ckIs && (lenM (List.length (ckv l)) && List.all (ckv l) ckM)) (gb (List.all (iv y) isI64 && lenOk (List.length (iv y))) (brV (hold (List.contains (List.map AVal.intOf (iv y)) x)) true (Q (AVal.tuple [AVal.slice [] 0 Tag.nil, AVal.int IntKind.i64 (31 : Int)]) Sto.empty) (brV (hold ((↑(List.length (ckv l)) : Int) == (0 : Int))) true (Q (AVal.tuple [AVal.slice [AVal.agg [AVal.int IntKind.i64 (0 : Int), AVal.slice [AVal.int IntKind.i64 x] 1 Tag.full, AVal.int IntKind.i64 (0 : Int), AVal.bool false]] 4 Tag.full, AVal.int IntKind.i64 (0 : Int)]) Sto.empty) (∀ (y : Nat), y = placeC (List.map ckOf (ckv l)) x → gb (List.all (ckv l) ckIs && (lenM (List.length (ckv l)) && List.all (ckv l) ckM)) (gb (decide ((0 : Int) ≤ (↑y : Int) ∧ (↑y : Int) < (↑(List.length (ckv l)) : Int))) (gb (decide (4 ≤ List.length (elemAt (ckv l) (↑y : Int)) ∧ 0 < 4) && (etaOk (Sh.int IntKind.i64) (List.getD (elemAt (ckv l) (↑y : Int)) 0 AVal.undef) && (sliceOk 1 (List.getD (elemAt (ckv l) (↑y : Int)) 1 AVal.undef) && (etaOk (Sh.int IntKind.i64) (List.getD (elemAt (ckv l) (↑y : Int)) 2 AVal.undef) && (etaOk Sh.bool (List.getD (elemAt (ckv l) (↑y : Int)) 3 AVal.undef) && true))))) (gb (ckM (AVal.agg [AVal.int IntKind.i64 (AVal.intOf (List.getD (elemAt (ckv l) (↑y : Int)) 0 AVal.undef)), AVal.slice (AVal.elems (List.getD (elemAt (ckv l) (↑y : Int)) 1 AVal.undef)) 1 Tag.ro, AVal.int IntKind.i64 (AVal.intOf (List.getD (elemAt (ckv l) (↑y : Int)) 2 AVal.undef)), AVal.bool (AVal.boolOf (List.getD (elemAt (ckv l) (↑y : Int)) 3 AVal.undef))])) (∀ (y_1 : Nat), y_1 = posI (List.map AVal.intOf (iv (List.map AVal.intOf (AVal.elems (List.getD (elemAt (ckv l) (↑y : Int)) 1 AVal.undef))))) x → ∀ (y_2 : Bool), y_2 = List.contains (List.map AVal.intOf (iv (List.map AVal.intOf (AVal.elems (List.getD (elemAt (ckv l) (↑y : Int)) 1 AVal.undef))))) x → gb (hold (decide (List.length (iv (List.map AVal.intOf (AVal.elems (List.getD (elemAt (ckv l) (↑y : Int)) 1 AVal.undef)))) = List.length (iv (List.map AVal.intOf (AVal.elems (List.getD (elemAt (ckv l) (↑y : Int)) 1 AVal.undef)))))) && (noOutL 0 (iv (List.map AVal.intOf (AVal.elems (List.getD (elemAt (ckv l) (↑y : Int)) 1 AVal.undef)))) && noTokL 0 (iv (List.map AVal.intOf (AVal.elems (List.getD (elemAt (ckv l) (↑y : Int)) 1 AVal.undef))))) && true && (List.all (iv (List.map AVal.intOf (AVal.elems (List.getD (elemAt (ckv l) (↑y : Int)) 1 AVal.undef)))) isI64 && (hold (riseI (List.map AVal.intOf (iv (List.map AVal.intOf (AVal.elems (List.getD (elemAt (ckv l) (↑y : Int)) 1 AVal.undef)))))) && lenOk (List.length (iv (List.map AVal.intOf (AVal.elems (List.getD (elemAt (ckv l) (↑y : Int)) 1 AVal.undef)))))) && true)) (gb (List.all (iv (List.map AVal.intOf (AVal.elems (List.getD (elemAt (ckv l) (↑y : Int)) 1 AVal.undef)))) isI64 && hold (decide (List.length (iv (List.map AVal.intOf (AVal.elems (List.getD (elemAt (ckv l) (↑y : Int)) 1 AVal.undef)))) = List.length (iv (List.map AVal.intOf (AVal.elems (List.getD (elemAt (ckv l) (↑y : Int)) 1 AVal.undef)))) ∧ (0 : Int) ≤ (↑y_1 : Int) ∧ (↑y_1 : Int) ≤ (↑(List.length (iv (List.map AVal.intOf (AVal.elems (List.getD (elemAt (ckv l) (↑y : Int)) 1 AVal.undef))))) : Int) ∧ List.length (iv (List.map AVal.intOf (AVal.elems (List.getD (elemAt (ckv l) (↑y : Int)) 1 AVal.undef)))) ≤ 1000000))) (brV (hold (decide ((↑(List.length (insC (iv (List.map AVal.intOf (AVal.elems (List.getD (elemAt (ckv l) (↑y : Int)) 1 AVal.undef)))) (Int.toNat (↑y_1 : Int)) (AVal.int IntKind.i64 x))) : Int) ≤ (4 : Int)))) true (Q (AVal.tuple [AVal.slice [AVal.agg [AVal.int IntKind.i64 (AVal.intOf (List.getD (elemAt (ckv l) (↑y : Int)) 0 AVal.undef)), AVal.slice (insC (iv (List.map AVal.intOf (AVal.elems (List.getD (elemAt (ckv l) (↑y : Int)) 1 AVal.undef)))) (Int.toNat (↑y_1 : Int)) (AVal.int IntKind.i64 x)) 1 Tag.ro, AVal.int IntKind.i64 (AVal.intOf (List.getD (elemAt (ckv l) (↑y : Int)) 2 AVal.undef)), AVal.bool (AVal.boolOf (List.getD (elemAt (ckv l) (↑y : Int)) 3 AVal.undef))]] 4 Tag.full, AVal.int IntKind.i64 (0 : Int)]) (Sto.del (Sto.pushRow Sto.empty (iv (List.map AVal.intOf (AVal.elems (List.getD (elemAt (ckv l) (↑y : Int)) 1 AVal.undef)))) 1) 0)) (∀ (y_3 : Nat), y_3 = freeN (nosC (List.map ckOf (ckv l))) → gb (List.all (ckv l) ckIs && lenM (List.length (ckv l))) (gb (decide ((0 : Int) ≤ (3 : Int) ∧ (3 : Int) ≤ (↑(List.length (insC (iv (List.map AVal.intOf (AVal.elems (List.getD (elemAt (ckv l) (↑y : Int)) 1 AVal.undef)))) (Int.toNat (↑y_1 : Int)) (AVal.int IntKind.i64 x))) : Int) ∧ (↑(List.length (insC (iv (List.map AVal.intOf (AVal.elems (List.getD (elemAt (ckv l) (↑y : Int)) 1 AVal.undef)))) (Int.toNat (↑y_1 : Int)) (AVal.int IntKind.i64 x))) : Int) ≤ (↑(List.length (insC (iv (List.map AVal.intOf (AVal.elems (List.getD (elemAt (ckv l) (↑y : Int)) 1 AVal.undef)))) (Int.toNat (↑y_1 : Int)) (AVal.int IntKind.i64 x))) : Int))) (gb (List.all (List.take (Int.toNat (↑(List.length (insC (iv (List.map AVal.intOf (AVal.elems (List.getD (elemAt (ckv l) (↑y : Int)) 1 AVal.undef)))) (Int.toNat (↑y_1 : Int)) (AVal.int IntKind.i64 x))) : Int) - 3) (List.drop 3 (insC (iv (List.map AVal.intOf (AVal.elems (List.getD (elemAt (ckv l) (↑y : Int)) 1 AVal.undef)))) (Int.toNat (↑y_1 : Int)) (AVal.int IntKind.i64 x)))) isI64 && hold (decide (List.length (List.take (Int.toNat (↑(List.length (insC (iv (List.map AVal.intOf (AVal.elems (List.getD (elemAt (ckv l) (↑y : Int)) 1 AVal.undef)))) (Int.toNat (↑y_1 : Int)) (AVal.int IntKind.i64 x))) : Int) - 3) (List.drop 3 (insC (iv (List.map AVal.intOf (AVal.elems (List.getD (elemAt (ckv l) (↑y : Int)) 1 AVal.undef)))) (Int.toNat (↑y_1 : Int)) (AVal.int IntKind.i64 x)))) ≤ 1000000))) (gb (decide ((0 : Int) ≤ (0 : Int) ∧ (0 : Int) ≤ (3 : Int) ∧ (3 : Int) ≤ (↑(List.length (insC (iv (List.map AVal.intOf (AVal.elems (List.getD (elemAt (ckv l) (↑y : Int)) 1 AVal.undef)))) (Int.toNat (↑y_1 : Int)) (AVal.int IntKind.i64 x))) : Int) ∧ (3 : Int) = (3 : Int))) (Q (AVal.tuple [AVal.slice [AVal.agg [AVal.int IntKind.i64 (AVal.intOf (List.getD (elemAt (ckv l) (↑y : Int)) 0 AVal.undef)), AVal.slice (List.take 3 (List.drop 0 (insC (iv (List.map AVal.intOf (AVal.elems (List.getD (elemAt (ckv l) (↑y : Int)) 1 AVal.undef)))) (Int.toNat (↑y_1 : Int)) (AVal.int IntKind.i64 x)))) 1 Tag.full, AVal.int IntKind.i64 (↑y_3 : Int), AVal.bool (AVal.boolOf (List.getD (elemAt (ckv l) (↑y : Int)) 3 AVal.undef))], AVal.agg [AVal.int IntKind.i64 (↑y_3 : Int), AVal.slice (List.take (Int.toNat (↑(List.length (insC (iv (List.map AVal.intOf (AVal.elems (List.getD (elemAt (ckv l) (↑y : Int)) 1 AVal.undef)))) (Int.toNat (↑y_1 : Int)) (AVal.int IntKind.i64 x))) : Int) - 3) (List.drop 3 (insC (iv (List.map AVal.intOf (AVal.elems (List.getD (elemAt (ckv l) (↑y : Int)) 1 AVal.undef)))) (Int.toNat (↑y_1 : Int)) (AVal.int IntKind.i64 x)))) 1 Tag.ro, AVal.int IntKind.i64 (AVal.intOf (List.getD (elemAt (ckv l) (↑y : Int)) 2 AVal.undef)), AVal.bool false]] 4 Tag.full, AVal.int IntKind.i64 (0 : Int)]) (Sto.del (Sto.pushRow Sto.empty (iv (List.map AVal.intOf (AVal.elems (List.getD (elemAt (ckv l) (↑y : Int)) 1 AVal.undef)))) 1) 0)))))))))))))))))) (Q (AVal.tuple [AVal.slice [] 0 Tag.nil, AVal.int IntKind.i64 (2 : Int)]) Sto.empty)))) := by kernel_rfl
theorem insert_i (l : List Ck) (x : Int) (Q : AVal → Sto → Prop) (ho : OrcOk Try.prog cInsert) (h : gb (List.all (ckv l) ckIs && (lenM (List.length (ckv l)) && List.all (ckv l) ckM)) (brV (!hold (rightC (List.map ckOf (ckv l)))) true (Q (AVal.tuple [AVal.slice [] 0 Tag.nil, AVal.int IntKind.i64 (100 : Int)]) Sto.empty) (brV (hold (decide (x < (0 : Int)))) false (brV (hold (decide ((1099511627776 : Int) ≤ x))) true (Q (AVal.tuple [AVal.slice [] 0 Tag.nil, AVal.int IntKind.i64 (2 : Int)]) Sto.empty) (∀ (y : List Int), y = idsC (List.map ckOf (ckv l)) → gb (List.all (ckv l) ckIs && (lenM (List.length (ckv l)) && List.all (ckv l) ckM)) (gb (List.all (iv y) isI64 && lenOk (List.length (iv y))) (brV (hold (List.contains (List.map AVal.intOf (iv y)) x)) true (Q (AVal.tuple [AVal.slice [] 0 Tag.nil, AVal.int IntKind.i64 (31 : Int)]) Sto.empty) (brV (hold ((↑(List.length (ckv l)) : Int) == (0 : Int))) true (Q (AVal.tuple [AVal.slice [AVal.agg [AVal.int IntKind.i64 (0 : Int), AVal.slice [AVal.int IntKind.i64 x] 1 Tag.full, AVal.int IntKind.i64 (0 : Int), AVal.bool false]] 4 Tag.full, AVal.int IntKind.i64 (0 : Int)]) Sto.empty) (∀ (y : Nat), y = placeC (List.map ckOf (ckv l)) x → gb (List.all (ckv l) ckIs && (lenM (List.length (ckv l)) && List.all (ckv l) ckM)) (gb (decide ((0 : Int) ≤ (↑y : Int) ∧ (↑y : Int) < (↑(List.length (ckv l)) : Int))) (gb (decide (4 ≤ List.length (elemAt (ckv l) (↑y : Int)) ∧ 0 < 4) && (etaOk (Sh.int IntKind.i64) (List.getD (elemAt (ckv l) (↑y : Int)) 0 AVal.undef) && (sliceOk 1 (List.getD (elemAt (ckv l) (↑y : Int)) 1 AVal.undef) && (etaOk (Sh.int IntKind.i64) (List.getD (elemAt (ckv l) (↑y : Int)) 2 AVal.undef) && (etaOk Sh.bool (List.getD (elemAt (ckv l) (↑y : Int)) 3 AVal.undef) && true))))) (gb (ckM (AVal.agg [AVal.int IntKind.i64 (AVal.intOf (List.getD (elemAt (ckv l) (↑y : Int)) 0 AVal.undef)), AVal.slice (AVal.elems (List.getD (elemAt (ckv l) (↑y : Int)) 1 AVal.undef)) 1 Tag.ro, AVal.int IntKind.i64 (AVal.intOf (List.getD (elemAt (ckv l) (↑y : Int)) 2 AVal.undef)), AVal.bool (AVal.boolOf (List.getD (elemAt (ckv l) (↑y : Int)) 3 AVal.undef))])) (∀ (y_1 : Nat), y_1 = posI (List.map AVal.intOf (iv (List.map AVal.intOf (AVal.elems (List.getD (elemAt (ckv l) (↑y : Int)) 1 AVal.undef))))) x → ∀ (y_2 : Bool), y_2 = List.contains (List.map AVal.intOf (iv (List.map AVal.intOf (AVal.elems (List.getD (elemAt (ckv l) (↑y : Int)) 1 AVal.undef))))) x → gb (hold (decide (List.length (iv (List.map AVal.intOf (AVal.elems (List.getD (elemAt (ckv l) (↑y : Int)) 1 AVal.undef)))) = List.length (iv (List.map AVal.intOf (AVal.elems (List.getD (elemAt (ckv l) (↑y : Int)) 1 AVal.undef)))))) && (noOutL 0 (iv (List.map AVal.intOf (AVal.elems (List.getD (elemAt (ckv l) (↑y : Int)) 1 AVal.undef)))) && noTokL 0 (iv (List.map AVal.intOf (AVal.elems (List.getD (elemAt (ckv l) (↑y : Int)) 1 AVal.undef))))) && true && (List.all (iv (List.map AVal.intOf (AVal.elems (List.getD (elemAt (ckv l) (↑y : Int)) 1 AVal.undef)))) isI64 && (hold (riseI (List.map AVal.intOf (iv (List.map AVal.intOf (AVal.elems (List.getD (elemAt (ckv l) (↑y : Int)) 1 AVal.undef)))))) && lenOk (List.length (iv (List.map AVal.intOf (AVal.elems (List.getD (elemAt (ckv l) (↑y : Int)) 1 AVal.undef)))))) && true)) (gb (List.all (iv (List.map AVal.intOf (AVal.elems (List.getD (elemAt (ckv l) (↑y : Int)) 1 AVal.undef)))) isI64 && hold (decide (List.length (iv (List.map AVal.intOf (AVal.elems (List.getD (elemAt (ckv l) (↑y : Int)) 1 AVal.undef)))) = List.length (iv (List.map AVal.intOf (AVal.elems (List.getD (elemAt (ckv l) (↑y : Int)) 1 AVal.undef)))) ∧ (0 : Int) ≤ (↑y_1 : Int) ∧ (↑y_1 : Int) ≤ (↑(List.length (iv (List.map AVal.intOf (AVal.elems (List.getD (elemAt (ckv l) (↑y : Int)) 1 AVal.undef))))) : Int) ∧ List.length (iv (List.map AVal.intOf (AVal.elems (List.getD (elemAt (ckv l) (↑y : Int)) 1 AVal.undef)))) ≤ 1000000))) (brV (hold (decide ((↑(List.length (insC (iv (List.map AVal.intOf (AVal.elems (List.getD (elemAt (ckv l) (↑y : Int)) 1 AVal.undef)))) (Int.toNat (↑y_1 : Int)) (AVal.int IntKind.i64 x))) : Int) ≤ (4 : Int)))) true (Q (AVal.tuple [AVal.slice [AVal.agg [AVal.int IntKind.i64 (AVal.intOf (List.getD (elemAt (ckv l) (↑y : Int)) 0 AVal.undef)), AVal.slice (insC (iv (List.map AVal.intOf (AVal.elems (List.getD (elemAt (ckv l) (↑y : Int)) 1 AVal.undef)))) (Int.toNat (↑y_1 : Int)) (AVal.int IntKind.i64 x)) 1 Tag.ro, AVal.int IntKind.i64 (AVal.intOf (List.getD (elemAt (ckv l) (↑y : Int)) 2 AVal.undef)), AVal.bool (AVal.boolOf (List.getD (elemAt (ckv l) (↑y : Int)) 3 AVal.undef))]] 4 Tag.full, AVal.int IntKind.i64 (0 : Int)]) (Sto.del (Sto.pushRow Sto.empty (iv (List.map AVal.intOf (AVal.elems (List.getD (elemAt (ckv l) (↑y : Int)) 1 AVal.undef)))) 1) 0)) (∀ (y_3 : Nat), y_3 = freeN (nosC (List.map ckOf (ckv l))) → gb (List.all (ckv l) ckIs && lenM (List.length (ckv l))) (gb (decide ((0 : Int) ≤ (3 : Int) ∧ (3 : Int) ≤ (↑(List.length (insC (iv (List.map AVal.intOf (AVal.elems (List.getD (elemAt (ckv l) (↑y : Int)) 1 AVal.undef)))) (Int.toNat (↑y_1 : Int)) (AVal.int IntKind.i64 x))) : Int) ∧ (↑(List.length (insC (iv (List.map AVal.intOf (AVal.elems (List.getD (elemAt (ckv l) (↑y : Int)) 1 AVal.undef)))) (Int.toNat (↑y_1 : Int)) (AVal.int IntKind.i64 x))) : Int) ≤ (↑(List.length (insC (iv (List.map AVal.intOf (AVal.elems (List.getD (elemAt (ckv l) (↑y : Int)) 1 AVal.undef)))) (Int.toNat (↑y_1 : Int)) (AVal.int IntKind.i64 x))) : Int))) (gb (List.all (List.take (Int.toNat (↑(List.length (insC (iv (List.map AVal.intOf (AVal.elems (List.getD (elemAt (ckv l) (↑y : Int)) 1 AVal.undef)))) (Int.toNat (↑y_1 : Int)) (AVal.int IntKind.i64 x))) : Int) - 3) (List.drop 3 (insC (iv (List.map AVal.intOf (AVal.elems (List.getD (elemAt (ckv l) (↑y : Int)) 1 AVal.undef)))) (Int.toNat (↑y_1 : Int)) (AVal.int IntKind.i64 x)))) isI64 && hold (decide (List.length (List.take (Int.toNat (↑(List.length (insC (iv (List.map AVal.intOf (AVal.elems (List.getD (elemAt (ckv l) (↑y : Int)) 1 AVal.undef)))) (Int.toNat (↑y_1 : Int)) (AVal.int IntKind.i64 x))) : Int) - 3) (List.drop 3 (insC (iv (List.map AVal.intOf (AVal.elems (List.getD (elemAt (ckv l) (↑y : Int)) 1 AVal.undef)))) (Int.toNat (↑y_1 : Int)) (AVal.int IntKind.i64 x)))) ≤ 1000000))) (gb (decide ((0 : Int) ≤ (0 : Int) ∧ (0 : Int) ≤ (3 : Int) ∧ (3 : Int) ≤ (↑(List.length (insC (iv (List.map AVal.intOf (AVal.elems (List.getD (elemAt (ckv l) (↑y : Int)) 1 AVal.undef)))) (Int.toNat (↑y_1 : Int)) (AVal.int IntKind.i64 x))) : Int) ∧ (3 : Int) = (3 : Int))) (Q (AVal.tuple [AVal.slice [AVal.agg [AVal.int IntKind.i64 (AVal.intOf (List.getD (elemAt (ckv l) (↑y : Int)) 0 AVal.undef)), AVal.slice (List.take 3 (List.drop 0 (insC (iv (List.map AVal.intOf (AVal.elems (List.getD (elemAt (ckv l) (↑y : Int)) 1 AVal.undef)))) (Int.toNat (↑y_1 : Int)) (AVal.int IntKind.i64 x)))) 1 Tag.full, AVal.int IntKind.i64 (↑y_3 : Int), AVal.bool (AVal.boolOf (List.getD (elemAt (ckv l) (↑y : Int)) 3 AVal.undef))], AVal.agg [AVal.int IntKind.i64 (↑y_3 : Int), AVal.slice (List.take (Int.toNat (↑(List.length (insC (iv (List.map AVal.intOf (AVal.elems (List.getD (elemAt (ckv l) (↑y : Int)) 1 AVal.undef)))) (Int.toNat (↑y_1 : Int)) (AVal.int IntKind.i64 x))) : Int) - 3) (List.drop 3 (insC (iv (List.map AVal.intOf (AVal.elems (List.getD (elemAt (ckv l) (↑y : Int)) 1 AVal.undef)))) (Int.toNat (↑y_1 : Int)) (AVal.int IntKind.i64 x)))) 1 Tag.ro, AVal.int IntKind.i64 (AVal.intOf (List.getD (elemAt (ckv l) (↑y : Int)) 2 AVal.undef)), AVal.bool false]] 4 Tag.full, AVal.int IntKind.i64 (0 : Int)]) (Sto.del (Sto.pushRow Sto.empty (iv (List.map AVal.intOf (AVal.elems (List.getD (elemAt (ckv l) (↑y : Int)) 1 AVal.undef)))) 1) 0)))))))))))))))))) (Q (AVal.tuple [AVal.slice [] 0 Tag.nil, AVal.int IntKind.i64 (2 : Int)]) Sto.empty)))) : ACall Try.prog 9 [.slice (ckv l) 4 .ro, .int .i64 x] (Sto.empty) Q :=
  ACall.intro hmix Try.func9 (c := code_9_) (by kernel_rfl) cInsert ho (Nat.le_of_ble_eq_true (by kernel_rfl)) (by rw [insert_r]; exact h)
theorem remove_r (l : List Ck) (x : Int) (Q : AVal → Sto → Prop) : vc Try.prog cRemove code_16_ (endK Try.prog Try.f16.results.toList Q) (St.start Try.f16.ntmps [.slice (ckv l) 4 .ro, .int .i64 x] (Sto.empty)) =
  (gb (List.all (ckv l) ckIs && (lenM (List.length (ckv l)) && List.all (ckv l) ckM)) (brV (!hold (rightC (List.map ckOf (ckv l)))) true (Q (AVal.tuple [AVal.slice [] 0 Tag.nil, AVal.int IntKind.i64 (100 : Int)]) Sto.empty) (∀ (y : Nat), y = placeC (List.map ckOf (ckv l)) x → gb (List.all (ckv l) ckIs && (lenM (List.length (ckv l)) && List.all (ckv l) ckM)) (brV (hold (decide ((↑(List.length (ckv l)) : Int) ≤ (↑y : Int)))) false (gb (decide ((0 : Int) ≤ (↑y : Int) ∧ (↑y : Int) < (↑(List.length (ckv l)) : Int))) (gb (decide (1 ≤ List.length (List.drop 1 (elemAt (ckv l) (↑y : Int))) ∧ 0 < 1) && sliceOk 1 (List.getD (List.drop 1 (elemAt (ckv l) (↑y : Int))) 0 AVal.undef)) (gb (List.all (AVal.elems (List.getD (List.drop 1 (elemAt (ckv l) (↑y : Int))) 0 AVal.undef)) isI64 && lenOk (List.length (AVal.elems (List.getD (List.drop 1 (elemAt (ckv l) (↑y : Int))) 0 AVal.undef)))) (brV (!hold (List.contains (List.map AVal.intOf (AVal.elems (List.getD (List.drop 1 (elemAt (ckv l) (↑y : Int))) 0 AVal.undef))) x)) true (Q (AVal.tuple [AVal.slice [] 0 Tag.nil, AVal.int IntKind.i64 (101 : Int)]) Sto.empty) (gb (decide ((0 : Int) ≤ (↑y : Int) ∧ (↑y : Int) < (↑(List.length (ckv l)) : Int))) (gb (decide (4 ≤ List.length (elemAt (ckv l) (↑y : Int)) ∧ 0 < 4) && (etaOk (Sh.int IntKind.i64) (List.getD (elemAt (ckv l) (↑y : Int)) 0 AVal.undef) && (sliceOk 1 (List.getD (elemAt (ckv l) (↑y : Int)) 1 AVal.undef) && (etaOk (Sh.int IntKind.i64) (List.getD (elemAt (ckv l) (↑y : Int)) 2 AVal.undef) && (etaOk Sh.bool (List.getD (elemAt (ckv l) (↑y : Int)) 3 AVal.undef) && true))))) (gb (ckM (AVal.agg [AVal.int IntKind.i64 (AVal.intOf (List.getD (elemAt (ckv l) (↑y : Int)) 0 AVal.undef)), AVal.slice (AVal.elems (List.getD (elemAt (ckv l) (↑y : Int)) 1 AVal.undef)) 1 Tag.ro, AVal.int IntKind.i64 (AVal.intOf (List.getD (elemAt (ckv l) (↑y : Int)) 2 AVal.undef)), AVal.bool (AVal.boolOf (List.getD (elemAt (ckv l) (↑y : Int)) 3 AVal.undef))])) (∀ (y_1 : List Int), y_1 = remI (iv (List.map AVal.intOf (AVal.elems (List.getD (elemAt (ckv l) (↑y : Int)) 1 AVal.undef)))) x → gb (List.all (iv (List.map AVal.intOf (AVal.elems (List.getD (elemAt (ckv l) (↑y : Int)) 1 AVal.undef)))) isI64 && hold (decide (List.length (iv (List.map AVal.intOf (AVal.elems (List.getD (elemAt (ckv l) (↑y : Int)) 1 AVal.undef)))) = List.length (iv (List.map AVal.intOf (AVal.elems (List.getD (elemAt (ckv l) (↑y : Int)) 1 AVal.undef)))) ∧ 0 < List.length (iv (List.map AVal.intOf (AVal.elems (List.getD (elemAt (ckv l) (↑y : Int)) 1 AVal.undef)))) ∧ List.length (iv (List.map AVal.intOf (AVal.elems (List.getD (elemAt (ckv l) (↑y : Int)) 1 AVal.undef)))) ≤ 1000000))) (brV (hold (decide ((0 : Int) < (↑(List.length (iv y_1)) : Int)))) false (brV (hold ((↑y : Int) == (0 : Int))) true (Q (AVal.tuple [AVal.slice [AVal.agg [AVal.int IntKind.i64 (AVal.intOf (List.getD (elemAt (ckv l) (↑y : Int)) 0 AVal.undef)), AVal.slice (iv y_1) 1 Tag.ro, AVal.int IntKind.i64 (AVal.intOf (List.getD (elemAt (ckv l) (↑y : Int)) 2 AVal.undef)), AVal.bool (AVal.boolOf (List.getD (elemAt (ckv l) (↑y : Int)) 3 AVal.undef))]] 4 Tag.full, AVal.int IntKind.i64 (0 : Int)]) (Sto.del (Sto.pushRow Sto.empty (iv (List.map AVal.intOf (AVal.elems (List.getD (elemAt (ckv l) (↑y : Int)) 1 AVal.undef)))) 1) 0)) (gb (decide ((0 : Int) ≤ IntKind.wrap IntKind.i64 ((↑y : Int) - (1 : Int)) ∧ IntKind.wrap IntKind.i64 ((↑y : Int) - (1 : Int)) < (↑(List.length (ckv l)) : Int))) (gb (decide (4 ≤ List.length (elemAt (ckv l) (IntKind.wrap IntKind.i64 ((↑y : Int) - (1 : Int)))) ∧ 0 < 4) && (etaOk (Sh.int IntKind.i64) (List.getD (elemAt (ckv l) (IntKind.wrap IntKind.i64 ((↑y : Int) - (1 : Int)))) 0 AVal.undef) && (sliceOk 1 (List.getD (elemAt (ckv l) (IntKind.wrap IntKind.i64 ((↑y : Int) - (1 : Int)))) 1 AVal.undef) && (etaOk (Sh.int IntKind.i64) (List.getD (elemAt (ckv l) (IntKind.wrap IntKind.i64 ((↑y : Int) - (1 : Int)))) 2 AVal.undef) && (etaOk Sh.bool (List.getD (elemAt (ckv l) (IntKind.wrap IntKind.i64 ((↑y : Int) - (1 : Int)))) 3 AVal.undef) && true))))) (gb (ckM (AVal.agg [AVal.int IntKind.i64 (AVal.intOf (List.getD (elemAt (ckv l) (IntKind.wrap IntKind.i64 ((↑y : Int) - (1 : Int)))) 0 AVal.undef)), AVal.slice (AVal.elems (List.getD (elemAt (ckv l) (IntKind.wrap IntKind.i64 ((↑y : Int) - (1 : Int)))) 1 AVal.undef)) 1 Tag.ro, AVal.int IntKind.i64 (AVal.intOf (List.getD (elemAt (ckv l) (IntKind.wrap IntKind.i64 ((↑y : Int) - (1 : Int)))) 2 AVal.undef)), AVal.bool (AVal.boolOf (List.getD (elemAt (ckv l) (IntKind.wrap IntKind.i64 ((↑y : Int) - (1 : Int)))) 3 AVal.undef))])) (Q (AVal.tuple [AVal.slice [AVal.agg [AVal.int IntKind.i64 (AVal.intOf (List.getD (elemAt (ckv l) (IntKind.wrap IntKind.i64 ((↑y : Int) - (1 : Int)))) 0 AVal.undef)), AVal.slice (iv (List.map AVal.intOf (AVal.elems (List.getD (elemAt (ckv l) (IntKind.wrap IntKind.i64 ((↑y : Int) - (1 : Int)))) 1 AVal.undef)))) 1 Tag.ro, AVal.int IntKind.i64 (AVal.intOf (List.getD (elemAt (ckv l) (↑y : Int)) 2 AVal.undef)), AVal.bool (AVal.boolOf (List.getD (elemAt (ckv l) (IntKind.wrap IntKind.i64 ((↑y : Int) - (1 : Int)))) 3 AVal.undef))], AVal.agg [AVal.int IntKind.i64 (AVal.intOf (List.getD (elemAt (ckv l) (↑y : Int)) 0 AVal.undef)), AVal.slice [] 0 Tag.nil, AVal.int IntKind.i64 (0 : Int), AVal.bool true]] 4 Tag.full, AVal.int IntKind.i64 (0 : Int)]) (Sto.del (Sto.pushRow Sto.empty (iv (List.map AVal.intOf (AVal.elems (List.getD (elemAt (ckv l) (↑y : Int)) 1 AVal.undef)))) 1) 0)))))) (Q (AVal.tuple [AVal.slice [AVal.agg [AVal.int IntKind.i64 (AVal.intOf (List.getD (elemAt (ckv l) (↑y : Int)) 0 AVal.undef)), AVal.slice (iv y_1) 1 Tag.ro, AVal.int IntKind.i64 (AVal.intOf (List.getD (elemAt (ckv l) (↑y : Int)) 2 AVal.undef)), AVal.bool (AVal.boolOf (List.getD (elemAt (ckv l) (↑y : Int)) 3 AVal.undef))]] 4 Tag.full, AVal.int IntKind.i64 (0 : Int)]) (Sto.del (Sto.pushRow Sto.empty (iv (List.map AVal.intOf (AVal.elems (List.getD (elemAt (ckv l) (↑y : Int)) 1 AVal.undef)))) 1) 0))))))))))) (Q (AVal.tuple [AVal.slice [] 0 Tag.nil, AVal.int IntKind.i64 (101 : Int)]) Sto.empty))))) := by kernel_rfl
theorem remove_i (l : List Ck) (x : Int) (Q : AVal → Sto → Prop) (ho : OrcOk Try.prog cRemove) (h : gb (List.all (ckv l) ckIs && (lenM (List.length (ckv l)) && List.all (ckv l) ckM)) (brV (!hold (rightC (List.map ckOf (ckv l)))) true (Q (AVal.tuple [AVal.slice [] 0 Tag.nil, AVal.int IntKind.i64 (100 : Int)]) Sto.empty) (∀ (y : Nat), y = placeC (List.map ckOf (ckv l)) x → gb (List.all (ckv l) ckIs && (lenM (List.length (ckv l)) && List.all (ckv l) ckM)) (brV (hold (decide ((↑(List.length (ckv l)) : Int) ≤ (↑y : Int)))) false (gb (decide ((0 : Int) ≤ (↑y : Int) ∧ (↑y : Int) < (↑(List.length (ckv l)) : Int))) (gb (decide (1 ≤ List.length (List.drop 1 (elemAt (ckv l) (↑y : Int))) ∧ 0 < 1) && sliceOk 1 (List.getD (List.drop 1 (elemAt (ckv l) (↑y : Int))) 0 AVal.undef)) (gb (List.all (AVal.elems (List.getD (List.drop 1 (elemAt (ckv l) (↑y : Int))) 0 AVal.undef)) isI64 && lenOk (List.length (AVal.elems (List.getD (List.drop 1 (elemAt (ckv l) (↑y : Int))) 0 AVal.undef)))) (brV (!hold (List.contains (List.map AVal.intOf (AVal.elems (List.getD (List.drop 1 (elemAt (ckv l) (↑y : Int))) 0 AVal.undef))) x)) true (Q (AVal.tuple [AVal.slice [] 0 Tag.nil, AVal.int IntKind.i64 (101 : Int)]) Sto.empty) (gb (decide ((0 : Int) ≤ (↑y : Int) ∧ (↑y : Int) < (↑(List.length (ckv l)) : Int))) (gb (decide (4 ≤ List.length (elemAt (ckv l) (↑y : Int)) ∧ 0 < 4) && (etaOk (Sh.int IntKind.i64) (List.getD (elemAt (ckv l) (↑y : Int)) 0 AVal.undef) && (sliceOk 1 (List.getD (elemAt (ckv l) (↑y : Int)) 1 AVal.undef) && (etaOk (Sh.int IntKind.i64) (List.getD (elemAt (ckv l) (↑y : Int)) 2 AVal.undef) && (etaOk Sh.bool (List.getD (elemAt (ckv l) (↑y : Int)) 3 AVal.undef) && true))))) (gb (ckM (AVal.agg [AVal.int IntKind.i64 (AVal.intOf (List.getD (elemAt (ckv l) (↑y : Int)) 0 AVal.undef)), AVal.slice (AVal.elems (List.getD (elemAt (ckv l) (↑y : Int)) 1 AVal.undef)) 1 Tag.ro, AVal.int IntKind.i64 (AVal.intOf (List.getD (elemAt (ckv l) (↑y : Int)) 2 AVal.undef)), AVal.bool (AVal.boolOf (List.getD (elemAt (ckv l) (↑y : Int)) 3 AVal.undef))])) (∀ (y_1 : List Int), y_1 = remI (iv (List.map AVal.intOf (AVal.elems (List.getD (elemAt (ckv l) (↑y : Int)) 1 AVal.undef)))) x → gb (List.all (iv (List.map AVal.intOf (AVal.elems (List.getD (elemAt (ckv l) (↑y : Int)) 1 AVal.undef)))) isI64 && hold (decide (List.length (iv (List.map AVal.intOf (AVal.elems (List.getD (elemAt (ckv l) (↑y : Int)) 1 AVal.undef)))) = List.length (iv (List.map AVal.intOf (AVal.elems (List.getD (elemAt (ckv l) (↑y : Int)) 1 AVal.undef)))) ∧ 0 < List.length (iv (List.map AVal.intOf (AVal.elems (List.getD (elemAt (ckv l) (↑y : Int)) 1 AVal.undef)))) ∧ List.length (iv (List.map AVal.intOf (AVal.elems (List.getD (elemAt (ckv l) (↑y : Int)) 1 AVal.undef)))) ≤ 1000000))) (brV (hold (decide ((0 : Int) < (↑(List.length (iv y_1)) : Int)))) false (brV (hold ((↑y : Int) == (0 : Int))) true (Q (AVal.tuple [AVal.slice [AVal.agg [AVal.int IntKind.i64 (AVal.intOf (List.getD (elemAt (ckv l) (↑y : Int)) 0 AVal.undef)), AVal.slice (iv y_1) 1 Tag.ro, AVal.int IntKind.i64 (AVal.intOf (List.getD (elemAt (ckv l) (↑y : Int)) 2 AVal.undef)), AVal.bool (AVal.boolOf (List.getD (elemAt (ckv l) (↑y : Int)) 3 AVal.undef))]] 4 Tag.full, AVal.int IntKind.i64 (0 : Int)]) (Sto.del (Sto.pushRow Sto.empty (iv (List.map AVal.intOf (AVal.elems (List.getD (elemAt (ckv l) (↑y : Int)) 1 AVal.undef)))) 1) 0)) (gb (decide ((0 : Int) ≤ IntKind.wrap IntKind.i64 ((↑y : Int) - (1 : Int)) ∧ IntKind.wrap IntKind.i64 ((↑y : Int) - (1 : Int)) < (↑(List.length (ckv l)) : Int))) (gb (decide (4 ≤ List.length (elemAt (ckv l) (IntKind.wrap IntKind.i64 ((↑y : Int) - (1 : Int)))) ∧ 0 < 4) && (etaOk (Sh.int IntKind.i64) (List.getD (elemAt (ckv l) (IntKind.wrap IntKind.i64 ((↑y : Int) - (1 : Int)))) 0 AVal.undef) && (sliceOk 1 (List.getD (elemAt (ckv l) (IntKind.wrap IntKind.i64 ((↑y : Int) - (1 : Int)))) 1 AVal.undef) && (etaOk (Sh.int IntKind.i64) (List.getD (elemAt (ckv l) (IntKind.wrap IntKind.i64 ((↑y : Int) - (1 : Int)))) 2 AVal.undef) && (etaOk Sh.bool (List.getD (elemAt (ckv l) (IntKind.wrap IntKind.i64 ((↑y : Int) - (1 : Int)))) 3 AVal.undef) && true))))) (gb (ckM (AVal.agg [AVal.int IntKind.i64 (AVal.intOf (List.getD (elemAt (ckv l) (IntKind.wrap IntKind.i64 ((↑y : Int) - (1 : Int)))) 0 AVal.undef)), AVal.slice (AVal.elems (List.getD (elemAt (ckv l) (IntKind.wrap IntKind.i64 ((↑y : Int) - (1 : Int)))) 1 AVal.undef)) 1 Tag.ro, AVal.int IntKind.i64 (AVal.intOf (List.getD (elemAt (ckv l) (IntKind.wrap IntKind.i64 ((↑y : Int) - (1 : Int)))) 2 AVal.undef)), AVal.bool (AVal.boolOf (List.getD (elemAt (ckv l) (IntKind.wrap IntKind.i64 ((↑y : Int) - (1 : Int)))) 3 AVal.undef))])) (Q (AVal.tuple [AVal.slice [AVal.agg [AVal.int IntKind.i64 (AVal.intOf (List.getD (elemAt (ckv l) (IntKind.wrap IntKind.i64 ((↑y : Int) - (1 : Int)))) 0 AVal.undef)), AVal.slice (iv (List.map AVal.intOf (AVal.elems (List.getD (elemAt (ckv l) (IntKind.wrap IntKind.i64 ((↑y : Int) - (1 : Int)))) 1 AVal.undef)))) 1 Tag.ro, AVal.int IntKind.i64 (AVal.intOf (List.getD (elemAt (ckv l) (↑y : Int)) 2 AVal.undef)), AVal.bool (AVal.boolOf (List.getD (elemAt (ckv l) (IntKind.wrap IntKind.i64 ((↑y : Int) - (1 : Int)))) 3 AVal.undef))], AVal.agg [AVal.int IntKind.i64 (AVal.intOf (List.getD (elemAt (ckv l) (↑y : Int)) 0 AVal.undef)), AVal.slice [] 0 Tag.nil, AVal.int IntKind.i64 (0 : Int), AVal.bool true]] 4 Tag.full, AVal.int IntKind.i64 (0 : Int)]) (Sto.del (Sto.pushRow Sto.empty (iv (List.map AVal.intOf (AVal.elems (List.getD (elemAt (ckv l) (↑y : Int)) 1 AVal.undef)))) 1) 0)))))) (Q (AVal.tuple [AVal.slice [AVal.agg [AVal.int IntKind.i64 (AVal.intOf (List.getD (elemAt (ckv l) (↑y : Int)) 0 AVal.undef)), AVal.slice (iv y_1) 1 Tag.ro, AVal.int IntKind.i64 (AVal.intOf (List.getD (elemAt (ckv l) (↑y : Int)) 2 AVal.undef)), AVal.bool (AVal.boolOf (List.getD (elemAt (ckv l) (↑y : Int)) 3 AVal.undef))]] 4 Tag.full, AVal.int IntKind.i64 (0 : Int)]) (Sto.del (Sto.pushRow Sto.empty (iv (List.map AVal.intOf (AVal.elems (List.getD (elemAt (ckv l) (↑y : Int)) 1 AVal.undef)))) 1) 0))))))))))) (Q (AVal.tuple [AVal.slice [] 0 Tag.nil, AVal.int IntKind.i64 (101 : Int)]) Sto.empty))))) : ACall Try.prog 16 [.slice (ckv l) 4 .ro, .int .i64 x] (Sto.empty) Q :=
  ACall.intro hmix Try.func16 (c := code_16_) (by kernel_rfl) cRemove ho (Nat.le_of_ble_eq_true (by kernel_rfl)) (by rw [remove_r]; exact h)
end Go.Proofs.Ytjdjecaclbdhhaa
end

section
namespace Go.Proofs.Ytjdjecaclbdhhaa
open Go.AL
set_option linter.unusedSimpArgs false
set_option linter.unusedVariables false
set_option maxHeartbeats 4000000
set_option maxRecDepth 20000

theorem rem1_ok : EntOk Try.prog rem1E := by
  intro xs σ; simp only [rem1E]; split
  · rename_i a x
    intro _
    refine pcall_of (.refl _) (rem1_i a x _ (.of_none rfl) ?_) rfl rfl rfl rfl
    simp only [hold_eq]
    exact Wk.refl _
  · trivial
theorem indexD_c (l : List Int) (J : List AVal) (n c : Nat) (x : Int) (hn : n = l.length) (hl : l.length ≤ 1000000) :
    ACall Try.prog 51 [.arr (.out 0) 0 n c, .func (.func 36) [] [.iptr [.int .i64 x]]] (Sto.one (.cells (iv l ++ J))) fun r τ => r = .int .i64 (if l.contains x then (l.idxOf x : Int) else -1) ∧ τ = Sto.one (.cells (iv l ++ J)) := by
  refine indexD_i _ n c x _ (.of [rem1E] rfl ⟨rem1_ok, trivial⟩) ?_
  have hil : (iv l).length = l.length := iv_length l
  have hcl : (iv l ++ J).length = l.length + J.length := by rw [List.length_append, hil]
  refine loopV_intro (α := Nat) (fun i => indexDL_S (iv l ++ J) n c x n i) (fun i => i ≤ l.length ∧ ∀ y ∈ l.take i, y ≠ x) (fun i => l.length - i) ?_ 0 ⟨Nat.zero_le _, fun x hx => by simp at hx⟩
  rintro i ⟨hi, hpre⟩ L hL
  refine Eq.mpr (indexDL_r (iv l ++ J) n c x n i L _) ?_
  simp only [hold_eq]
  refine brV_by (fun h => ?_) (fun h => ?_)
  · have hlt : i < l.length := by have := of_decide_eq_true h; omega
    have hg : (iv l ++ J).getD (0 + Int.toNat (i : Int) * 1) .undef = .int .i64 l[i] := by
      rw [Int.toNat_natCast, Nat.mul_one, Nat.zero_add, List.getD_eq_getElem?_getD, List.getElem?_append_left (by omega)]
      simp [iv, hlt]
    rw [i64_succ hlt (by omega), hg]
    refine gb_by (dt (by omega)) (gb_by (and_tt (dt (by rw [Int.toNat_natCast]; omega)) rfl) (brV_by (fun h => ?_) (fun h => ?_)))
    · have e : l[i] = x := by
        have h : (l[i] == x) = true := h
        simpa using h
      have hc : l.contains x = true := by rw [← e]; simp
      have hx : l.idxOf x = i := by
        unfold List.idxOf
        rw [List.findIdx_eq hlt]
        refine ⟨by simp [e], fun j hj => ?_⟩
        have := hpre l[j] (List.mem_take_iff_getElem.2 ⟨j, by omega, rfl⟩)
        simpa using this
      rw [if_pos hc, hx]
      exact ⟨rfl, rfl⟩
    · have e : l[i] ≠ x := by
        have h : (l[i] == x) = false := h
        simpa using h
      refine hL (i + 1) ⟨hlt, fun y hy => ?_⟩ (by omega)
      rw [List.take_succ_eq_append_getElem hlt] at hy
      rcases List.mem_append.1 hy with h1 | h1
      · exact hpre y h1
      · simp at h1; subst h1; exact e
  · have hge : ¬ i < l.length := by have := of_decide_eq_false h; omega
    rw [List.take_of_length_le (by omega)] at hpre
    have hc : ¬ l.contains x = true := by
      intro hc
      have : x ∈ l := by simpa using hc
      exact hpre x this rfl
    rw [if_neg hc]
    exact ⟨rfl, rfl⟩
theorem isSto_mk (σ : Sto) : isSto σ σ = true := by
  unfold isSto
  rw [hold_eq]
  exact @decide_eq_true _ (Classical.propDecidable _) rfl
theorem isSto_of {σ τ : Sto} (h : isSto σ τ = true) : σ = τ := by
  unfold isSto at h
  rw [hold_eq] at h
  exact @of_decide_eq_true _ (Classical.propDecidable _) h
theorem indexD_ok : EntOk Try.prog indexDE := by
  intro xs σ; simp only [indexDE]; split
  · rename_i k n c g x
    split
    · rename_i cs hk
      intro hc
      simp only [Bool.and_eq_true, hold_eq, decide_eq_true_eq] at hc
      obtain ⟨h1, h2, h3, h4, h5, h6⟩ := hc
      have h1 := Nat.eq_of_beq_eq_true h1
      have h2 := Nat.eq_of_beq_eq_true h2
      subst h1; subst h2
      have h3 := isSto_of h3
      have e := iv_of h4
      have := indexD_c ((cs.take n).map AVal.intOf) (cs.drop n) n c x (by simp; omega) (by simp; omega)
      rw [← e, List.take_append_drop] at this
      rw [h3]
      exact this
    · trivial
  · trivial
theorem remS_take1 (l : List Int) (x : Int) (j : Nat) (h : j < l.length) : remS (l.take (j + 1)) x = remS (l.take j) x ++ (if l[j] = x then [] else [l[j]]) := by
  rw [List.take_succ_eq_append_getElem h]
  unfold remS
  rw [List.filter_append]
  by_cases e : l[j] = x
  · simp [e]
  · simp [e]
theorem delF_c (l : List Int) (x : Int) (hl : l.length ≤ 1000000) (j c : Nat) (hc : (iv l).length ≤ c) (hj : (iv l).length * 1 + j = c * 1) (hcm : c ≤ 9223372036854775807) :
    ACall Try.prog 35 [.arr (.out 0) 0 (iv l).length c, .func (.func 36) [] [.iptr [.int .i64 x]]] (Sto.one (.cells (flat (iv l) ++ List.replicate j .undef))) fun r τ =>
      Wk r (.slice (iv (remS l x)) 1 .ro) ∨ ∃ o cap tl, r = .arr (.out o) 0 (iv (remS l x)).length cap ∧ τ.obj o = some (.cells (flat (iv (remS l x)) ++ tl)) ∧ cap ≤ 9223372036854775807 := by
  have hil : (iv l).length = l.length := iv_length l
  have hrl : (iv (remS l x)).length = (remS l x).length := iv_length _
  rw [flat_iv, flat_iv, hrl]
  generalize hJ : List.replicate j AVal.undef = J
  have hcl : (iv l ++ J).length = l.length + J.length := by rw [List.length_append, hil]
  have hJl : J.length = j := by rw [← hJ]; simp
  refine delF_i _ (iv l).length c x _ (.of [rem1E, indexDE] rfl ⟨rem1_ok, indexD_ok, trivial⟩) ?_
  have htk : (iv l ++ J).take (iv l).length = iv l := by simp
  simp only [hold_eq, htk, map_intOf_iv]
  intro y hy i0 hi0
  refine gb_by (and_tt (isSto_mk _) (and_tt (iv_isI64 _) (dt ⟨by omega, by omega⟩))) (brV_by (fun h => ?_) (fun h => ?_))
  · have h : i0 = -1 := by
      have h : (i0 == -1) = true := h
      simpa using h
    have hx : x ∉ l := by
      intro hm
      rw [if_pos (by rw [hy]; simpa using hm)] at hi0
      omega
    rw [remS_none hx, ← hil]
    exact .inr ⟨0, c, J, rfl, rfl, hcm⟩
  have h : i0 ≠ -1 := by
    have h : (i0 == -1) = false := h
    simpa using h
  have hm : x ∈ l := by
    cases hyb : y with
    | true => rw [hyb] at hy; simpa using hy.symm
    | false => rw [hyb, if_neg (by simp)] at hi0; exact (h hi0).elim
  rw [if_pos (by rw [hy]; simpa using hm)] at hi0
  have hlt0 : l.idxOf x < l.length := List.idxOf_lt_length_of_mem hm
  have hw : IntKind.i64.wrap ((l.idxOf x : Int) + 1) = ((l.idxOf x + 1 : Nat) : Int) := i64_succ hlt0 (by omega)
  rw [hi0, hw]
  have hpre : remS (l.take (l.idxOf x)) x = l.take (l.idxOf x) := remS_none fun hm2 => by
    obtain ⟨k, hk, e⟩ := List.mem_take_iff_getElem.1 hm2
    have h3 : k < l.idxOf x := by omega
    have := List.not_of_lt_findIdx (p := (· == x)) (xs := l) h3
    simp at this
    exact this e
  have hgx : l[l.idxOf x] = x := by simp
  have hin : remS (l.take (l.idxOf x + 1)) x = l.take (l.idxOf x) := by rw [remS_take1 l x _ hlt0, if_pos hgx, List.append_nil, hpre]
  refine loopV_intro (α := Nat × Nat × List Int × List AVal) (fun s => delFL_S s.2.2.2 (iv l).length c x s.1 s.2.1)
    (fun s => s.1 < s.2.1 ∧ s.2.1 ≤ l.length ∧ (remS (l.take s.2.1) x).length = s.1 ∧ s.2.2.1.length = s.2.1 - s.1 ∧ s.2.2.2 = iv (remS (l.take s.2.1) x ++ (s.2.2.1 ++ l.drop s.2.1)) ++ J) (fun s => l.length - s.2.1) ?_ (l.idxOf x, l.idxOf x + 1, [x], iv l ++ J) ⟨by simp, by simp only; omega, ?_, by simp, ?_⟩
  rotate_left
  · simp only [hin, List.length_take]; omega
  · simp only [hin]
    congr 2
    have := List.take_append_drop (l.idxOf x) l
    rw [List.drop_eq_getElem_cons hlt0, hgx] at this
    exact this.symm
  rintro ⟨i, k, b, cs⟩ ⟨g1, g2, g3, g4, g5⟩ L hL
  simp only at g1 g2 g3 g4 g5
  subst g5
  generalize ha : remS (l.take k) x = a at *
  refine Eq.mpr (delFL_r (iv (a ++ (b ++ l.drop k)) ++ J) (iv l).length c x i k L _) ?_
  have hlc : (iv (a ++ (b ++ l.drop k)) ++ J).length = l.length + J.length := by
    rw [List.length_append, iv_length, List.length_append, List.length_append, List.length_drop]; omega
  simp only [hold_eq, Int.toNat_natCast, Nat.mul_one, Nat.zero_add, one_set, hlc]
  refine brV_by (fun h => ?_) (fun h => ?_)
  · have hlt : k < l.length := by have := of_decide_eq_true h; omega
    have ed : l.drop k = l[k] :: l.drop (k + 1) := List.drop_eq_getElem_cons hlt
    have hg : (iv (a ++ (b ++ l.drop k)) ++ J).getD k .undef = .int .i64 l[k] := by
      rw [List.getD_eq_getElem?_getD, List.getElem?_append_left (by rw [iv_length, List.length_append, List.length_append, List.length_drop]; omega)]
      unfold iv
      rw [List.getElem?_map, List.getElem?_append_right (by omega), List.getElem?_append_right (by omega), List.getElem?_drop, show k + (k - a.length - b.length) = k by omega, List.getElem?_eq_getElem hlt]; rfl
    rw [hg]
    have e1 := remS_take1 l x k hlt
    rw [ha] at e1
    refine gb_by (dt (by omega)) (gb_by (and_tt (dt (by omega)) rfl) (brV_by (fun h => ?_) (fun h => ?_)))
    · have hne : l[k] ≠ x := by
        have h : (!(l[k] == x)) = true := h
        simpa using h
      rw [if_neg hne] at e1
      refine gb_by (dt (by omega)) (gb_by (dt ⟨by omega, fun _ => rfl⟩) (toCut ?_))
      obtain ⟨b0, b', rfl⟩ : ∃ b0 b', b = b0 :: b' := by
        cases b with
        | nil => simp at g4; omega
        | cons x y => exact ⟨x, y, rfl⟩
      have es : setRange (iv (a ++ (b0 :: b' ++ l.drop k)) ++ J) i [.int .i64 (AVal.intOf (.int .i64 l[k]))] = iv ((a ++ [l[k]]) ++ ((b' ++ [l[k]]) ++ l.drop (k + 1))) ++ J := by
        unfold setRange
        have q1 : iv (a ++ (b0 :: b' ++ l.drop k)) ++ J = iv a ++ ([AVal.int .i64 b0] ++ (iv (b' ++ l.drop k) ++ J)) := by simp [iv]
        have ia : (iv a).length = i := by rw [iv_length, g3]
        rw [q1, List.take_append_of_le_length (by omega), List.take_of_length_le (by omega)]
        have q2 : (iv a ++ ([AVal.int .i64 b0] ++ (iv (b' ++ l.drop k) ++ J))).drop (i + [AVal.int .i64 (AVal.intOf (.int .i64 l[k]))].length) = iv (b' ++ l.drop k) ++ J := by
          rw [← ia, List.drop_length_add_append]; rfl
        rw [q2, ed]
        simp [iv, AVal.intOf]
      rw [es]
      have hwi : IntKind.i64.wrap ((i : Int) + 1) = ((i + 1 : Nat) : Int) := i64_succ (show i < l.length by omega) (by omega)
      have hwk : IntKind.i64.wrap ((k : Int) + 1) = ((k + 1 : Nat) : Int) := i64_succ hlt (by omega)
      refine Eq.mpr (delFJ_r _ _ _ _ i k _) (inBlock (toCut ?_))
      rw [hwi]
      refine Eq.mpr (delFI_r _ _ _ _ (i + 1) k _) ?_
      rw [hwk]
      refine thenN (hL (i + 1, k + 1, b' ++ [l[k]], _) ⟨by simp only; omega, hlt, ?_, ?_, ?_⟩ (by simp only; omega))
      · simp only [e1, List.length_append, List.length_singleton]; omega
      · simp only [List.length_append, List.length_singleton]
        simp only [List.length_cons] at g4; omega
      · simp only [e1]
    · have heq : l[k] = x := by
        have h : (!(l[k] == x)) = false := h
        simpa using h
      rw [if_pos heq, List.append_nil] at e1
      have hwk : IntKind.i64.wrap ((k : Int) + 1) = ((k + 1 : Nat) : Int) := i64_succ hlt (by omega)
      refine toCut ?_
      refine Eq.mpr (delFI_r _ _ _ _ i k _) ?_
      rw [hwk]
      refine thenN (hL (i, k + 1, b ++ [l[k]], _) ⟨by simp only; omega, hlt, ?_, ?_, ?_⟩ (by simp only; omega))
      · simp only [e1]; exact g3
      · simp only [List.length_append, List.length_singleton]; omega
      · simp only [e1, ed]; simp
  · have hk : k = l.length := by have := of_decide_eq_false h; omega
    subst hk
    rw [List.take_length] at ha
    refine leaveTo (toCut (Eq.mpr (delFF_r _ (iv l).length c i _) ?_))
    rw [ha]
    simp only [Int.toNat_natCast, Nat.mul_one, Nat.zero_add, one_set, hlc, Nat.sub_zero]
    refine gb_by (dt (by omega)) (gb_by (dtt (dt ⟨by omega, trivial⟩)) (gb_by (dt (by omega)) ?_))
    obtain ⟨tl, htl⟩ := pre_of (C := setRange (iv (a ++ (b ++ l.drop l.length)) ++ J) i (flat (List.replicate ((iv l).length - i) (AVal.int .i64 0)))) (P := iv a) fun q hq => by
      rw [iv_length, g3] at hq
      have hfl : (flat (List.replicate ((iv l).length - i) (AVal.int .i64 0))).length = (iv l).length - i := by
        rw [flat_rep (show ((AVal.int .i64 0) : AVal).cells = [(AVal.int .i64 0)] from rfl), List.length_replicate]
      rw [setRange_get (by rw [hlc, hfl]; omega), if_pos hq, iv_append, List.append_assoc, List.getElem?_append_left (by rw [iv_length]; omega)]
    refine .inr ⟨0, c, tl, by rw [g3], ?_, hcm⟩
    rw [← htl]; rfl
theorem remI_eq {es : List AVal} (h : es.all isI64 = true) (x : Int) : remI es x = remS (es.map AVal.intOf) x := rfl
theorem delF_ok : EntOk Try.prog delFE := by
  intro xs σ; simp only [delFE]; split
  · rename_i k n f x
    split
    · rename_i es s g hk
      intro hc
      simp only [Bool.and_eq_true, hold_eq, decide_eq_true_eq] at hc
      obtain ⟨h0, h1, h2, h3, rfl, h6, h7⟩ := hc
      have h0 := Nat.eq_of_beq_eq_true h0
      have h1 := Nat.eq_of_beq_eq_true h1
      have h2 := Nat.eq_of_beq_eq_true h2
      subst h0; subst h1; subst h2
      have e := iv_of h3
      rw [remI_eq h3]
      refine ACall.openRow (es' := iv (remS (es.map AVal.intOf) x)) hk (by rw [e]; exact iv_noOut 0 _) (by rw [e]; exact iv_noTok 0 _) rfl rfl (iv_noOut 0 _) (iv_noTok 0 _) (fun y hy => ?_) (fun he => ?_) (fun jj c c1 c2 c3 => ?_)
      · obtain ⟨z, _, rfl⟩ := List.mem_map.1 hy
        rfl
      · rw [he] at h6; cases h6
      · have := delF_c (es.map AVal.intOf) x (by simpa using h7) jj c (by rw [← e]; exact c1) (by rw [← e]; exact c2) c3
        rw [← e] at this
        exact this
    · trivial
  · trivial
end Go.Proofs.Ytjdjecaclbdhhaa
end

section
namespace Go.Proofs.Ytjdjecaclbdhhaa
open Go.AL
set_option linter.unusedSimpArgs false
set_option linter.unusedVariables false
set_option maxHeartbeats 4000000
set_option maxRecDepth 20000

theorem tup_of {ls : List AVal} {e : Int} {L : List Ck} (hL : ls.map ckOf = L) (h1 : ls.all ckIs = true) : Wk (.tuple [.slice ls 4 .full, .int .i64 e]) (.tuple [.slice (ckv L) 4 .ro, .int .i64 e]) := by
  subst hL; exact Wk.tuple (.cons (wk_cks _ (okW_same _ _) h1) (.refl _))
theorem tup_nil (e : Int) : Wk (.tuple [.slice [] 0 .nil, .int .i64 e]) (.tuple [.slice (ckv (([], e) : Cc).1) 4 .ro, .int .i64 (([], e) : Cc).2]) := Wk.tuple (.cons (Wk.nil _ _ _) (.refl _))
theorem ids_le {p : List Pt} (h : GoodC p) : (idsP p).length ≤ 4 * p.length := by
  have h2 := h.len
  clear h
  induction p with
  | nil => simp [idsP]
  | cons x r ih =>
    have := ih fun y hy => h2 y (List.mem_cons_of_mem _ hy)
    have := h2 x (by simp)
    rw [idsP_cons, List.length_append, List.length_cons]; omega
theorem conds {l : List Ck} (hl : l.length ≤ 1000000) (hm : ∀ c ∈ l, c.2.1.length ≤ 1000000) : ((ckv l).all ckIs && (lenM (ckv l).length && (ckv l).all ckM)) = true :=
  and_tt (ckv_is l) (and_tt (lenM_mk (by rw [ckv_length]; exact hl)) (ckM_all hm))
theorem mk_mem {p : List Pt} (h : GoodC p) : ∀ c ∈ mkC p, c.2.1.length ≤ 4 := fun c hc => by
  have : (c.1, c.2.1) ∈ ptsC (mkC p) := List.mem_map.2 ⟨c, hc, rfl⟩
  rw [ptsC_mkC] at this
  exact h.len _ this
theorem insC_iv (l : List Int) (i : Nat) (x : Int) : insC (iv l) i (.int .i64 x) = iv (insL l i x) := insC_map (AVal.int .i64) l i x
theorem insert_c (l : List Ck) (x : Int) (hl : l.length ≤ 1000000) (hm : ∀ c ∈ l, c.2.1.length ≤ 1000000) :
    ACall Try.prog 9 [.slice (ckv l) 4 .ro, .int .i64 x] Sto.empty fun r _ => Wk r (.tuple [.slice (ckv (insK l x).1) 4 .ro, .int .i64 (insK l x).2]) := by
  refine insert_i l x _ (.of [rightE, idsE, containsIE, placeE, ownME, roE bsE, insIE, freshE, cloneISE] rfl ⟨right_ok, ids_ok, containsI_ok, place_ok, ownM_ok, roE_ok bs_ok, insI_ok, fresh_ok, cloneIS_ok, trivial⟩) ?_
  have hn : (ckv l).length = l.length := ckv_length l
  have hC := conds hl hm
  simp only [hold_eq, map_ckOf, map_intOf_iv]
  refine gb_by hC (brV_by (fun h => ?_) (fun h => ?_))
  · have h : rightC l = false := by simpa using h
    have e : insK l x = ([], 100) := by unfold insK; rw [if_neg (by rw [h]; simp)]
    rw [e]; exact tup_nil _
  have hR : rightC l = true := by simpa using h
  refine brV_by' (fun h0 => ?_) (fun h0 => ?_)
  rotate_left
  · have h0 : x < 0 := of_decide_eq_true h0
    have e : insK l x = ([], 2) := by unfold insK; rw [if_pos hR, if_pos (.inl h0)]
    rw [e]; exact tup_nil _
  have h0 : ¬ x < 0 := of_decide_eq_false h0
  refine brV_by (fun h1 => ?_) (fun h1 => ?_)
  · have h1 : 1099511627776 ≤ x := of_decide_eq_true h1
    have e : insK l x = ([], 2) := by unfold insK; rw [if_pos hR, if_pos (.inr h1)]
    rw [e]; exact tup_nil _
  have h1 : ¬ 1099511627776 ≤ x := of_decide_eq_false h1
  have hA : ¬ (x < 0 ∨ 1099511627776 ≤ x) := by omega
  obtain ⟨p, hG, rfl⟩ := good_right hR
  have hpl := mkC_length p
  intro y hy
  have hyl : y.length ≤ 4 * p.length := by rw [hy, idsC_mkC]; exact ids_le hG
  refine gb_by hC (gb_by (and_tt (iv_isI64 _) (lenOk_mk (by rw [iv_length]; omega))) (brV_by (fun h => ?_) (fun h2 => ?_)))
  · have hc : (idsC (mkC p)).contains x = true := by rw [← hy]; exact h
    have e : insK (mkC p) x = ([], 31) := by unfold insK; rw [if_pos hR, if_neg hA, if_pos hc]
    rw [e]; exact tup_nil _
  have hc : ¬ (idsC (mkC p)).contains x = true := by rw [← hy]; simpa using h2
  refine brV_by (fun h => ?_) (fun h3 => ?_)
  · have h : (((ckv (mkC p)).length : Int) == 0) = true := h
    have hz : mkC p = [] := List.eq_nil_of_length_eq_zero (by have : ((ckv (mkC p)).length : Int) = 0 := by simpa using h
                                                              omega)
    have e : insK (mkC p) x = ([(0, [x], 0, false)], 0) := by unfold insK; rw [if_pos hR, if_neg hA, if_neg hc, if_pos (by rw [hz]; rfl)]
    rw [e]
    exact tup_of (by simp [ckOf, AVal.intOf]) (by simp [ckIs, okW_same, isI64])
  have hne : p ≠ [] := by
    rintro rfl
    have h3 : (((ckv (mkC [])).length : Int) == 0) = false := h3
    simp [mkC] at h3
  have hE : ¬ (mkC p).isEmpty = true := by rw [List.isEmpty_iff]; intro h; rw [h] at hpl; exact hne (List.eq_nil_of_length_eq_zero hpl.symm)
  intro y0 hy0
  obtain ⟨p1, n, e, p2, hp, hplc, _, _⟩ := place_split hG hne x
  rw [hplc] at hy0
  have hlen : p.length = p1.length + (p2.length + 1) := by rw [hp]; simp
  have hgd : (mkC p).getD y0 ck0 = (n, e, hdN p2 0, false) := by rw [hy0, hp]; exact getD_split p1 n e p2
  have hlt : y0 < (mkC p).length := by omega
  have hget : (mkC p)[y0] = (n, e, hdN p2 0, false) := by
    rw [List.getD_eq_getElem?_getD, List.getElem?_eq_getElem hlt] at hgd; exact hgd
  have he4 : e.length ≤ 4 := by rw [hp] at hG; exact (place_part hG).1
  have her : e.Pairwise (· < ·) := ris_part hG.ris (y := (n, e)) (by rw [hp]; simp)
  rw [elemAt_ckv _ y0 hlt, hget]
  have hie : (iv e).length = e.length := iv_length e
  refine gb_by hC (gb_by (dt (by omega)) (gb_by rfl (gb_by (ckM_mk (c := (n, e, hdN p2 0, false)) (show e.length ≤ 1000000 by omega)) ?_)))
  intro q hq b hb
  simp only [ckC, List.getD_cons_zero, List.getD_cons_succ, AVal.elems, map_intOf_iv] at hq
  clear hb
  simp only [ckC, List.getD_cons_zero, List.getD_cons_succ, AVal.intOf, AVal.elems, AVal.boolOf, map_intOf_iv, Int.toNat_natCast, insC_iv]
  have hqe : insL e q x = insS e x := by rw [hq]; rfl
  have hql : q ≤ e.length := by rw [hq]; exact posI_len e x
  have hil : (iv (insS e x)).length = e.length + 1 := by rw [iv_length]; exact insS_length e x
  have hil2 : (insS e x).length = e.length + 1 := insS_length e x
  have hI : insK (mkC p) x = if (insS e x).length ≤ 4 then ([(n, insS e x, hdN p2 0, false)], 0)
        else ([(n, (insS e x).take 3, (freeN (nosC (mkC p)) : Int), false), ((freeN (nosC (mkC p)) : Int), (insS e x).drop 3, hdN p2 0, false)], 0) := by
    unfold insK
    rw [if_pos hR, if_neg hA, if_neg hc, if_neg hE, hplc, ← hy0]
    simp only [hgd]
    rfl
  rw [hqe]
  refine gb_by ?_ (gb_by (and_tt (iv_isI64 _) (dt ⟨trivial, by omega, by omega, by omega⟩)) (brV_by (fun h => ?_) (fun h => ?_)))
  · have hri : riseI e = true := riseI_iff.2 her
    simp only [decide_true, iv_noOut, iv_noTok, iv_isI64, hri, Bool.true_and, Bool.and_true]
    exact lenOk_mk (by omega)
  · have h : (insS e x).length ≤ 4 := by have := of_decide_eq_true h; omega
    rw [hI, if_pos h]
    exact tup_of (by simp [ckOf]) (by simp [ckIs, okW_same])
  · have h : ¬ (insS e x).length ≤ 4 := by have := of_decide_eq_false h; omega
    rw [hI, if_neg h]
    intro f hf
    rw [← hf]
    have e1 : List.take ((iv (insS e x)).length - 3) (List.drop 3 (iv (insS e x))) = iv ((insS e x).drop 3) := by
      rw [iv_drop, List.take_of_length_le (by rw [List.length_drop]; omega)]
    have e2 : List.take 3 (List.drop 0 (iv (insS e x))) = iv ((insS e x).take 3) := by rw [iv_take, List.drop_zero]
    have e3 : (iv ((insS e x).drop 3)).length = (insS e x).length - 3 := by rw [iv_length, List.length_drop]
    rw [e1, e2]
    refine gb_by (and_tt (ckv_is _) (lenM_mk (by omega))) (gb_by (dt (by omega)) (gb_by (and_tt (iv_isI64 _) (dt (by omega))) (gb_by (dt ⟨by omega, by omega, by omega, trivial⟩) ?_)))
    exact tup_of (by simp [ckOf]) (by simp [ckIs, okW_same])
theorem insert_ok : EntOk Try.prog insertE := by
  intro xs σ; simp only [insertE]; split
  · rename_i es s t x
    intro hc
    simp only [Bool.and_eq_true] at hc
    obtain ⟨h1, h2, h3, h4⟩ := hc
    have h3 := lenM_of h3
    exact pcall_of (.cons (wk_cks t h1 h2) (.refl _)) (insert_c _ x (by simpa using h3) (ckM_of h4)) (by simp only [noOutL, AVal.noOut, ckv_noOut, Bool.and_true]) (by simp only [noTokL, AVal.noTok, ckv_noTok, Bool.and_true, Tag.below]) (by simp only [noOutL, AVal.noOut, ckv_noOut, Bool.and_true]) (by simp only [noTokL, AVal.noTok, ckv_noTok, Bool.and_true, Tag.below])
  · trivial
theorem ownX_ok : EntOk Try.prog ownXE := by
  intro xs σ
  simp only [ownXE]
  split
  · exact ownM_ok xs σ
  · exact ownS_ok xs σ
theorem remove_c (l : List Ck) (x : Int) (hl : l.length ≤ 1000000) (hm : ∀ c ∈ l, c.2.1.length ≤ 1000000) :
    ACall Try.prog 16 [.slice (ckv l) 4 .ro, .int .i64 x] Sto.empty fun r _ => Wk r (.tuple [.slice (ckv (remK l x).1) 4 .ro, .int .i64 (remK l x).2]) := by
  refine remove_i l x _ (.of [rightE, placeE, containsIE, ownXE, delFE] rfl ⟨right_ok, place_ok, containsI_ok, ownX_ok, delF_ok, trivial⟩) ?_
  have hn : (ckv l).length = l.length := ckv_length l
  have hC := conds hl hm
  simp only [hold_eq, map_ckOf, map_intOf_iv]
  refine gb_by hC (brV_by (fun h => ?_) (fun h => ?_))
  · have h : rightC l = false := by simpa using h
    have e : remK l x = ([], 100) := by unfold remK; rw [if_neg (by rw [h]; simp)]
    rw [e]; exact tup_nil _
  have hR : rightC l = true := by simpa using h
  obtain ⟨p, hG, rfl⟩ := good_right hR
  have hpl := mkC_length p
  intro y0 hy0
  refine gb_by hC (brV_by' (fun h => ?_) (fun h => ?_))
  rotate_left
  · have h : ¬ y0 < (mkC p).length := by have := of_decide_eq_true h; omega
    have hz : ((mkC p).getD y0 ck0).2.1 = [] := by rw [List.getD_eq_getElem?_getD, List.getElem?_eq_none (by omega)]; rfl
    have e : remK (mkC p) x = ([], 101) := by
      unfold remK
      rw [if_pos hR, ← hy0]
      simp only [hz]; rfl
    rw [e]; exact tup_nil _
  have hlt : y0 < (mkC p).length := by have := of_decide_eq_false h; omega
  have hne : p ≠ [] := by rintro rfl; simp [mkC] at hlt
  obtain ⟨p1, n, e, p2, hp, hplc, _, _⟩ := place_split hG hne x
  rw [hplc] at hy0
  have hlen : p.length = p1.length + (p2.length + 1) := by rw [hp]; simp
  have hgd : (mkC p).getD y0 ck0 = (n, e, hdN p2 0, false) := by rw [hy0, hp]; exact getD_split p1 n e p2
  have hget : (mkC p)[y0] = (n, e, hdN p2 0, false) := by
    rw [List.getD_eq_getElem?_getD, List.getElem?_eq_getElem hlt] at hgd; exact hgd
  have he4 : e.length ≤ 4 := by rw [hp] at hG; exact (place_part hG).1
  have hie : (iv e).length = e.length := iv_length e
  rw [elemAt_ckv _ y0 hlt, hget]
  refine gb_by (dt (by omega)) (gb_by rfl ?_)
  simp only [ckC, List.drop_succ_cons, List.drop_zero, List.getD_cons_zero, List.getD_cons_succ, AVal.intOf, AVal.elems, AVal.boolOf, map_intOf_iv]
  refine gb_by (and_tt (iv_isI64 _) (lenOk_mk (by omega))) (brV_by (fun h => ?_) (fun h => ?_))
  · have h : e.contains x = false := by simpa using h
    have e : remK (mkC p) x = ([], 101) := by
      unfold remK
      rw [if_pos hR, hplc, ← hy0]
      simp only [hgd]
      rw [if_neg (by rw [h]; simp)]
    rw [e]; exact tup_nil _
  have hcx : e.contains x = true := by simpa using h
  have hne0 : 0 < e.length := List.length_pos_of_mem (List.contains_iff_mem.1 hcx)
  have hI : remK (mkC p) x = if 0 < (remS e x).length ∨ y0 = 0 then ([(n, remS e x, hdN p2 0, false)], 0)
      else ([(((mkC p).getD (y0 - 1) ck0).1, ((mkC p).getD (y0 - 1) ck0).2.1, hdN p2 0, ((mkC p).getD (y0 - 1) ck0).2.2.2), (n, [], 0, true)], 0) := by
    unfold remK
    rw [if_pos hR, hplc, ← hy0]
    simp only [hgd]
    rw [if_pos hcx]
    rfl
  refine gb_by (dt (by omega)) (gb_by rfl (gb_by (ckM_mk (c := (n, e, hdN p2 0, false)) (show e.length ≤ 1000000 by omega)) ?_))
  intro z hz
  have hz : z = remS e x := by rw [hz, remI_eq (iv_isI64 e), map_intOf_iv]
  have hzl : (iv z).length = z.length := iv_length z
  have keep : (0 < z.length ∨ y0 = 0) → Wk (.tuple [.slice [.agg [.int .i64 n, .slice (iv z) 1 .ro, .int .i64 (hdN p2 0), .bool false]] 4 .full, .int .i64 0]) (.tuple [.slice (ckv (remK (mkC p) x).1) 4 .ro, .int .i64 (remK (mkC p) x).2]) := fun hk => by
    rw [hz] at hk
    rw [hI, if_pos hk, ← hz]
    exact tup_of (by simp [ckOf]) (by simp [ckIs, okW_same])
  refine gb_by (and_tt (iv_isI64 _) (dt ⟨trivial, by omega, by omega⟩)) (brV_by' (fun h => ?_) (fun h => keep (.inl (by have := of_decide_eq_true h; omega))))
  have hz0 : ¬ 0 < z.length := by have := of_decide_eq_false h; omega
  refine brV_by (fun h => ?_) (fun h => ?_)
  · have h : ((y0 : Int) == 0) = true := h
    exact keep (.inr (by have : (y0 : Int) = 0 := by simpa using h
                         omega))
  have hy00 : y0 ≠ 0 := by
    have h : ((y0 : Int) == 0) = false := h
    have : ¬ (y0 : Int) = 0 := by simpa using h
    omega
  have hw : IntKind.i64.wrap ((y0 : Int) - 1) = ((y0 - 1 : Nat) : Int) := by rw [wrap_i64 (by omega) (by omega)]; omega
  have hlt1 : y0 - 1 < (mkC p).length := by omega
  rw [hw, elemAt_ckv _ (y0 - 1) hlt1]
  have hg1 : (mkC p).getD (y0 - 1) ck0 = (mkC p)[y0 - 1] := by rw [List.getD_eq_getElem?_getD, List.getElem?_eq_getElem hlt1]; rfl
  rw [hI, if_neg (by rw [← hz]; omega), hg1]
  generalize hcc : (mkC p)[y0 - 1] = c
  have hcm : c.2.1.length ≤ 1000000 := hm c (by rw [← hcc]; exact List.getElem_mem hlt1)
  refine gb_by (dt (by omega)) (gb_by rfl (gb_by (ckM_mk (c := c) hcm) ?_))
  simp only [ckC, List.drop_succ_cons, List.drop_zero, List.getD_cons_zero, List.getD_cons_succ, AVal.intOf, AVal.elems, AVal.boolOf, map_intOf_iv]
  exact tup_of (by simp [ckOf]) (by simp [ckIs, okW_same, okW])
theorem remove_ok : EntOk Try.prog removeE := by
  intro xs σ; simp only [removeE]; split
  · rename_i es s t x
    intro hc
    simp only [Bool.and_eq_true] at hc
    obtain ⟨h1, h2, h3, h4⟩ := hc
    have h3 := lenM_of h3
    exact pcall_of (.cons (wk_cks t h1 h2) (.refl _)) (remove_c _ x (by simpa using h3) (ckM_of h4)) (by simp only [noOutL, AVal.noOut, ckv_noOut, Bool.and_true]) (by simp only [noTokL, AVal.noTok, ckv_noTok, Bool.and_true, Tag.below]) (by simp only [noOutL, AVal.noOut, ckv_noOut, Bool.and_true]) (by simp only [noTokL, AVal.noTok, ckv_noTok, Bool.and_true, Tag.below])
  · trivial
end Go.Proofs.Ytjdjecaclbdhhaa
end

section
set_option maxRecDepth 100000
set_option maxHeartbeats 0
set_option linter.unusedVariables false
namespace Go.Proofs.Ytjdjecaclbdhhaa
open Go.AL Go.Proofs
noncomputable def cHas : Cfg := { keep := [0, 1, 4, 5, 9, 17], cut := [(5, [0, 1, 5], []), (12, [], [])] }
noncomputable def cUsed : Cfg := { keep := [0, 1, 4, 5, 9, 18], cut := [(5, [0, 1, 5], []), (12, [], [])] }
noncomputable def cPut : Cfg := { keep := [0, 1, 4, 5, 6, 7, 11, 23, 36], cut := [(9, [0, 1, 5, 6, 7], []), (10, [0, 1, 5, 6, 7], []), (18, [0, 1, 5, 6, 7], []), (20, [1, 5, 6], []), (24, [5], [])], grow := [(5, 1)] }
noncomputable def cWithout : Cfg := { keep := [0, 1, 4, 5, 6, 10, 18], cut := [(7, [0, 1, 5, 6], []), (8, [0, 1, 5, 6], []), (14, [5], [])], grow := [(5, 1)] }
noncomputable def cInts : Cfg := { keep := [0, 1, 4, 5, 10, 14, 25], cut := [(9, [0, 1, 5], []), (16, [], [])] }
noncomputable def cSame : Cfg := { keep := [0, 1, 4, 5, 10, 14, 67], cut := [(9, [0, 1, 5], []), (16, [], [])], orc := ofList [intsE] }
noncomputable def cIdsR : Cfg := { keep := [0, 2, 3, 4, 5, 9, 19], cut := [(7, [0, 3, 4], []), (13, [0, 3, 4, 5], []), (8, [0, 3, 4], []), (18, [3], [])], grow := [(3, 1)] }
noncomputable def code_12_ : Code := (Try.f12.body).getD .skip
noncomputable def code_19_ : Code := (Try.f19.body).getD .skip
noncomputable def code_21_ : Code := (Try.f21.body).getD .skip
noncomputable def code_26_ : Code := (Try.f26.body).getD .skip
noncomputable def code_37_ : Code := (Try.f37.body).getD .skip
noncomputable def code_38_ : Code := (Try.f38.body).getD .skip
noncomputable def code_39_ : Code := (Try.f39.body).getD .skip
noncomputable def code_26_1_1 : Code := codeAt code_26_ [1, 1]
noncomputable def code_38_1_1 : Code := codeAt code_38_ [1, 1]
noncomputable def code_12_1_1_1 : Code := codeAt code_12_ [1, 1, 1]
noncomputable def code_19_1_1_1 : Code := codeAt code_19_ [1, 1, 1]
noncomputable def code_21_1_1_1 : Code := codeAt code_21_ [1, 1, 1]
noncomputable def code_39_1_1_1 : Code := codeAt code_39_ [1, 1, 1]
noncomputable def code_37_1_1_1_1 : Code := codeAt code_37_ [1, 1, 1, 1]
noncomputable def code_26_1_0_1_0_0 : Code := codeAt code_26_ [1, 0, 1, 0, 0]
noncomputable def code_37_1_1_1_1_1 : Code := codeAt code_37_ [1, 1, 1, 1, 1]
noncomputable def code_38_1_0_1_0_0 : Code := codeAt code_38_ [1, 0, 1, 0, 0]
noncomputable def code_12_1_1_0_1_0_0 : Code := codeAt code_12_ [1, 1, 0, 1, 0, 0]
noncomputable def code_19_1_1_0_1_0_0 : Code := codeAt code_19_ [1, 1, 0, 1, 0, 0]
noncomputable def code_21_1_1_0_1_0_0 : Code := codeAt code_21_ [1, 1, 0, 1, 0, 0]
noncomputable def code_39_1_1_0_1_0_0 : Code := codeAt code_39_ [1, 1, 0, 1, 0, 0]
noncomputable def code_37_1_1_1_0_1_0_0 : Code := codeAt code_37_ [1, 1, 1, 0, 1, 0, 0]
noncomputable def code_21_1_1_0_1_0_0_1_1 : Code := codeAt code_21_ [1, 1, 0, 1, 0, 0, 1, 1]
noncomputable def code_39_1_1_0_1_0_0_1_1 : Code := codeAt code_39_ [1, 1, 0, 1, 0, 0, 1, 1]
noncomputable def code_37_1_1_1_0_1_0_0_1_1 : Code := codeAt code_37_ [1, 1, 1, 0, 1, 0, 0, 1, 1]
noncomputable def code_37_1_1_1_0_1_0_0_1_0_0_1 : Code := codeAt code_37_ [1, 1, 1, 0, 1, 0, 0, 1, 0, 0, 1]
noncomputable def code_21_1_1_0_1_0_0_1_0_0_1_0_0 : Code := codeAt code_21_ [1, 1, 0, 1, 0, 0, 1, 0, 0, 1, 0, 0]
theorem has_r (l : List Int) (x : Int) (Q : AVal → Sto → Prop) : vc Try.prog cHas code_26_ (endK Try.prog Try.f26.results.toList Q) (St.start Try.f26.ntmps [.slice (iv l) 1 .ro, .int .i64 x] (Sto.empty)) =
  (loopV (fun s => St.norm [] [0, 1, 5] [] s) (vc Try.prog cHas code_26_1_0_1_0_0) (blockK 0 (thenK (fun s => cutV (vc Try.prog cHas code_26_1_1 (endK Try.prog (Array.toList (Go.Func.results Try.f26)) Q)) (St.norm [] [] [] s)) (endK Try.prog (Array.toList (Go.Func.results Try.f26)) Q))) (St.mk 18 [(0, AVal.slice (iv l) 1 Tag.ro), (1, AVal.int IntKind.i64 x), (5, AVal.int IntKind.i64 (0 : Int))] [] [] Sto.empty)) := by kernel_rfl
theorem has_i (l : List Int) (x : Int) (Q : AVal → Sto → Prop) (ho : OrcOk Try.prog cHas) (h : loopV (fun s => St.norm [] [0, 1, 5] [] s) (vc Try.prog cHas code_26_1_0_1_0_0) (blockK 0 (thenK (fun s => cutV (vc Try.prog cHas code_26_1_1 (endK Try.prog (Array.toList (Go.Func.results Try.f26)) Q)) (St.norm [] [] [] s)) (endK Try.prog (Array.toList (Go.Func.results Try.f26)) Q))) (St.mk 18 [(0, AVal.slice (iv l) 1 Tag.ro), (1, AVal.int IntKind.i64 x), (5, AVal.int IntKind.i64 (0 : Int))] [] [] Sto.empty)) : ACall Try.prog 26 [.slice (iv l) 1 .ro, .int .i64 x] (Sto.empty) Q :=
  ACall.intro hmix Try.func26 (c := code_26_) (by kernel_rfl) cHas ho (Nat.le_of_ble_eq_true (by kernel_rfl)) (by rw [has_r]; exact h)
noncomputable def hasL_S (l : List Int) (x : Int) (i : Nat) : St := St.mk 18 [(0, .slice (iv l) 1 .ro), (1, .int .i64 x), (5, .int .i64 (i : Int))] [] [] (Sto.empty)
noncomputable abbrev hasL_C : Code := code_26_1_0_1_0_0
theorem hasL_r (l : List Int) (x : Int) (i : Nat) (L : St → Prop) (K : Exit → St → Prop) : vc Try.prog cHas code_26_1_0_1_0_0 (thenK (fun s => L (St.norm [] [0, 1, 5] [] s)) K) (St.mk 18 [(0, .slice (iv l) 1 .ro), (1, .int .i64 x), (5, .int .i64 (i : Int))] [] [] (Sto.empty)) =
  (brV (hold (decide ((↑i : Int) < (↑(List.length (iv l)) : Int)))) true (gb (decide ((0 : Int) ≤ (↑i : Int) ∧ (↑i : Int) < (↑(List.length (iv l)) : Int))) (gb (decide (1 ≤ List.length (elemAt (iv l) (↑i : Int)) ∧ 0 < 1) && etaOk (Sh.int IntKind.i64) (List.getD (elemAt (iv l) (↑i : Int)) 0 AVal.undef)) (brV (hold (AVal.intOf (List.getD (elemAt (iv l) (↑i : Int)) 0 AVal.undef) == x)) true (K Exit.ret (St.mk 18 [(0, AVal.slice (iv l) 1 Tag.ro), (1, AVal.int IntKind.i64 x), (5, AVal.int IntKind.i64 (↑i : Int)), (9, AVal.bool (hold (decide ((↑i : Int) < (↑(List.length (iv l)) : Int))))), (17, AVal.bool (hold (AVal.intOf (List.getD (elemAt (iv l) (↑i : Int)) 0 AVal.undef) == x))), (4, AVal.bool true)] [] [] Sto.empty)) (L (St.mk 18 [(0, AVal.slice (iv l) 1 Tag.ro), (1, AVal.int IntKind.i64 x), (5, AVal.int IntKind.i64 (IntKind.wrap IntKind.i64 ((↑i : Int) + (1 : Int))))] [] [] Sto.empty))))) (K (Exit.exit 0) (St.mk 18 [(0, AVal.slice (iv l) 1 Tag.ro), (1, AVal.int IntKind.i64 x), (5, AVal.int IntKind.i64 (↑i : Int)), (9, AVal.bool (hold (decide ((↑i : Int) < (↑(List.length (iv l)) : Int)))))] [] [] Sto.empty))) := by kernel_rfl
noncomputable def hasF_S  : St := St.mk 18 [] [] [] (Sto.empty)
noncomputable abbrev hasF_C : Code := code_26_1_1
theorem hasF_r  (Q : AVal → Sto → Prop) : vc Try.prog cHas code_26_1_1 (endK Try.prog Try.f26.results.toList Q) (St.mk 18 [] [] [] (Sto.empty)) =
  (Q (AVal.bool false) Sto.empty) := by kernel_rfl
theorem used_r (l : List Ck) (x : Int) (Q : AVal → Sto → Prop) : vc Try.prog cUsed code_38_ (endK Try.prog Try.f38.results.toList Q) (St.start Try.f38.ntmps [.slice (ckv l) 4 .ro, .int .i64 x] (Sto.empty)) =
  (loopV (fun s => St.norm [] [0, 1, 5] [] s) (vc Try.prog cUsed code_38_1_0_1_0_0) (blockK 0 (thenK (fun s => cutV (vc Try.prog cUsed code_38_1_1 (endK Try.prog (Array.toList (Go.Func.results Try.f38)) Q)) (St.norm [] [] [] s)) (endK Try.prog (Array.toList (Go.Func.results Try.f38)) Q))) (St.mk 19 [(0, AVal.slice (ckv l) 4 Tag.ro), (1, AVal.int IntKind.i64 x), (5, AVal.int IntKind.i64 (0 : Int))] [] [] Sto.empty)) := by kernel_rfl
theorem used_i (l : List Ck) (x : Int) (Q : AVal → Sto → Prop) (ho : OrcOk Try.prog cUsed) (h : loopV (fun s => St.norm [] [0, 1, 5] [] s) (vc Try.prog cUsed code_38_1_0_1_0_0) (blockK 0 (thenK (fun s => cutV (vc Try.prog cUsed code_38_1_1 (endK Try.prog (Array.toList (Go.Func.results Try.f38)) Q)) (St.norm [] [] [] s)) (endK Try.prog (Array.toList (Go.Func.results Try.f38)) Q))) (St.mk 19 [(0, AVal.slice (ckv l) 4 Tag.ro), (1, AVal.int IntKind.i64 x), (5, AVal.int IntKind.i64 (0 : Int))] [] [] Sto.empty)) : ACall Try.prog 38 [.slice (ckv l) 4 .ro, .int .i64 x] (Sto.empty) Q :=
  ACall.intro hmix Try.func38 (c := code_38_) (by kernel_rfl) cUsed ho (Nat.le_of_ble_eq_true (by kernel_rfl)) (by rw [used_r]; exact h)
noncomputable def usedL_S (l : List Ck) (x : Int) (i : Nat) : St := St.mk 19 [(0, .slice (ckv l) 4 .ro), (1, .int .i64 x), (5, .int .i64 (i : Int))] [] [] (Sto.empty)
noncomputable abbrev usedL_C : Code := code_38_1_0_1_0_0
theorem usedL_r (l : List Ck) (x : Int) (i : Nat) (L : St → Prop) (K : Exit → St → Prop) : vc Try.prog cUsed code_38_1_0_1_0_0 (thenK (fun s => L (St.norm [] [0, 1, 5] [] s)) K) (St.mk 19 [(0, .slice (ckv l) 4 .ro), (1, .int .i64 x), (5, .int .i64 (i : Int))] [] [] (Sto.empty)) =
  (brV (hold (decide ((↑i : Int) < (↑(List.length (ckv l)) : Int)))) true (gb (decide ((0 : Int) ≤ (↑i : Int) ∧ (↑i : Int) < (↑(List.length (ckv l)) : Int))) (gb (decide (1 ≤ List.length (List.drop 0 (elemAt (ckv l) (↑i : Int))) ∧ 0 < 1) && etaOk (Sh.int IntKind.i64) (List.getD (List.drop 0 (elemAt (ckv l) (↑i : Int))) 0 AVal.undef)) (brV (hold (AVal.intOf (List.getD (List.drop 0 (elemAt (ckv l) (↑i : Int))) 0 AVal.undef) == x)) true (K Exit.ret (St.mk 19 [(0, AVal.slice (ckv l) 4 Tag.ro), (1, AVal.int IntKind.i64 x), (5, AVal.int IntKind.i64 (↑i : Int)), (9, AVal.bool (hold (decide ((↑i : Int) < (↑(List.length (ckv l)) : Int))))), (18, AVal.bool (hold (AVal.intOf (List.getD (List.drop 0 (elemAt (ckv l) (↑i : Int))) 0 AVal.undef) == x))), (4, AVal.bool true)] [] [] Sto.empty)) (L (St.mk 19 [(0, AVal.slice (ckv l) 4 Tag.ro), (1, AVal.int IntKind.i64 x), (5, AVal.int IntKind.i64 (IntKind.wrap IntKind.i64 ((↑i : Int) + (1 : Int))))] [] [] Sto.empty))))) (K (Exit.exit 0) (St.mk 19 [(0, AVal.slice (ckv l) 4 Tag.ro), (1, AVal.int IntKind.i64 x), (5, AVal.int IntKind.i64 (↑i : Int)), (9, AVal.bool (hold (decide ((↑i : Int) < (↑(List.length (ckv l)) : Int)))))] [] [] Sto.empty))) := by kernel_rfl
noncomputable def usedF_S  : St := St.mk 19 [] [] [] (Sto.empty)
noncomputable abbrev usedF_C : Code := code_38_1_1
theorem usedF_r  (Q : AVal → Sto → Prop) : vc Try.prog cUsed code_38_1_1 (endK Try.prog Try.f38.results.toList Q) (St.mk 19 [] [] [] (Sto.empty)) =
  (Q (AVal.bool false) Sto.empty) := by kernel_rfl
theorem put_r (l : List Int) (x : Int) (Q : AVal → Sto → Prop) : vc Try.prog cPut code_37_ (endK Try.prog Try.f37.results.toList Q) (St.start Try.f37.ntmps [.slice (iv l) 1 .ro, .int .i64 x] (Sto.empty)) =
  (loopV (fun s => St.norm [(5, 1)] [0, 1, 5, 6, 7] [] s) (vc Try.prog cPut code_37_1_1_1_0_1_0_0) (blockK 0 (thenK (fun s => cutV (vc Try.prog cPut code_37_1_1_1_1 (endK Try.prog (Array.toList (Go.Func.results Try.f37)) Q)) (St.norm [(5, 1)] [1, 5, 6] [] s)) (endK Try.prog (Array.toList (Go.Func.results Try.f37)) Q))) (St.mk 42 [(0, AVal.slice (iv l) 1 Tag.ro), (1, AVal.int IntKind.i64 x), (5, AVal.slice [] 1 (Tag.own 0)), (6, AVal.bool false), (7, AVal.int IntKind.i64 (0 : Int))] [] [] (Sto.pushOwn Sto.empty 0))) := by kernel_rfl
theorem put_i (l : List Int) (x : Int) (Q : AVal → Sto → Prop) (ho : OrcOk Try.prog cPut) (h : loopV (fun s => St.norm [(5, 1)] [0, 1, 5, 6, 7] [] s) (vc Try.prog cPut code_37_1_1_1_0_1_0_0) (blockK 0 (thenK (fun s => cutV (vc Try.prog cPut code_37_1_1_1_1 (endK Try.prog (Array.toList (Go.Func.results Try.f37)) Q)) (St.norm [(5, 1)] [1, 5, 6] [] s)) (endK Try.prog (Array.toList (Go.Func.results Try.f37)) Q))) (St.mk 42 [(0, AVal.slice (iv l) 1 Tag.ro), (1, AVal.int IntKind.i64 x), (5, AVal.slice [] 1 (Tag.own 0)), (6, AVal.bool false), (7, AVal.int IntKind.i64 (0 : Int))] [] [] (Sto.pushOwn Sto.empty 0))) : ACall Try.prog 37 [.slice (iv l) 1 .ro, .int .i64 x] (Sto.empty) Q :=
  ACall.intro hmix Try.func37 (c := code_37_) (by kernel_rfl) cPut ho (Nat.le_of_ble_eq_true (by kernel_rfl)) (by rw [put_r]; exact h)
noncomputable def putL_S (l : List Int) (x : Int) (o : List Int) (d : Bool) (i : Nat) : St := St.mk 42 [(0, .slice (iv l) 1 .ro), (1, .int .i64 x), (5, .slice (iv o) 1 (.own 0)), (6, .bool d), (7, .int .i64 (i : Int))] [] [] (Sto.pushOwn Sto.empty (iv o).length)
noncomputable abbrev putL_C : Code := code_37_1_1_1_0_1_0_0
theorem putL_r (l : List Int) (x : Int) (o : List Int) (d : Bool) (i : Nat) (L : St → Prop) (K : Exit → St → Prop) : vc Try.prog cPut code_37_1_1_1_0_1_0_0 (thenK (fun s => L (St.norm [(5, 1)] [0, 1, 5, 6, 7] [] s)) K) (St.mk 42 [(0, .slice (iv l) 1 .ro), (1, .int .i64 x), (5, .slice (iv o) 1 (.own 0)), (6, .bool d), (7, .int .i64 (i : Int))] [] [] (Sto.pushOwn Sto.empty (iv o).length)) =
  (brV (hold (decide ((↑i : Int) < (↑(List.length (iv l)) : Int)))) true (gb (decide ((0 : Int) ≤ (↑i : Int) ∧ (↑i : Int) < (↑(List.length (iv l)) : Int))) (gb (decide (1 ≤ List.length (elemAt (iv l) (↑i : Int)) ∧ 0 < 1) && etaOk (Sh.int IntKind.i64) (List.getD (elemAt (iv l) (↑i : Int)) 0 AVal.undef)) (brV (hold (decide (x < AVal.intOf (List.getD (elemAt (iv l) (↑i : Int)) 0 AVal.undef)))) true (brV (!d) true (gb (decide (decide (true = true ∧ some (List.length (iv o)) = some (List.length (iv o)) ∧ (List.length (iv o) + 1) * 8 ≤ 140737488355328 ∧ List.length (iv o) + 1 ≤ 9223372036854775807) = true ∧ true = true)) (cutV (vc Try.prog cPut code_37_1_1_1_0_1_0_0_1_0_0_1 (blockK 1 (thenK (fun s => cutV (vc Try.prog cPut code_37_1_1_1_0_1_0_0_1_1 (thenK (fun s => L (St.norm [(5, 1)] [0, 1, 5, 6, 7] [] s)) K)) (St.norm [(5, 1)] [0, 1, 5, 6, 7] [] s)) (thenK (fun s => L (St.norm [(5, 1)] [0, 1, 5, 6, 7] [] s)) K)))) (St.mk 42 [(0, AVal.slice (iv l) 1 Tag.ro), (1, AVal.int IntKind.i64 x), (5, AVal.slice (iv o ++ [AVal.int IntKind.i64 x]) 1 (Tag.own 0)), (6, AVal.bool true), (7, AVal.int IntKind.i64 (↑i : Int))] [] [] (Sto.setOwn (Sto.pushOwn Sto.empty (List.length (iv o))) 0 (List.length (iv o) + 1))))) (cutV (vc Try.prog cPut code_37_1_1_1_0_1_0_0_1_0_0_1 (blockK 1 (thenK (fun s => cutV (vc Try.prog cPut code_37_1_1_1_0_1_0_0_1_1 (thenK (fun s => L (St.norm [(5, 1)] [0, 1, 5, 6, 7] [] s)) K)) (St.norm [(5, 1)] [0, 1, 5, 6, 7] [] s)) (thenK (fun s => L (St.norm [(5, 1)] [0, 1, 5, 6, 7] [] s)) K)))) (St.mk 42 [(0, AVal.slice (iv l) 1 Tag.ro), (1, AVal.int IntKind.i64 x), (5, AVal.slice (iv o) 1 (Tag.own 0)), (6, AVal.bool d), (7, AVal.int IntKind.i64 (↑i : Int))] [] [] (Sto.pushOwn Sto.empty (List.length (iv o)))))) (cutV (vc Try.prog cPut code_37_1_1_1_0_1_0_0_1_0_0_1 (blockK 1 (thenK (fun s => cutV (vc Try.prog cPut code_37_1_1_1_0_1_0_0_1_1 (thenK (fun s => L (St.norm [(5, 1)] [0, 1, 5, 6, 7] [] s)) K)) (St.norm [(5, 1)] [0, 1, 5, 6, 7] [] s)) (thenK (fun s => L (St.norm [(5, 1)] [0, 1, 5, 6, 7] [] s)) K)))) (St.mk 42 [(0, AVal.slice (iv l) 1 Tag.ro), (1, AVal.int IntKind.i64 x), (5, AVal.slice (iv o) 1 (Tag.own 0)), (6, AVal.bool d), (7, AVal.int IntKind.i64 (↑i : Int))] [] [] (Sto.pushOwn Sto.empty (List.length (iv o)))))))) (K (Exit.exit 0) (St.mk 42 [(0, AVal.slice (iv l) 1 Tag.ro), (1, AVal.int IntKind.i64 x), (5, AVal.slice (iv o) 1 (Tag.own 0)), (6, AVal.bool d), (7, AVal.int IntKind.i64 (↑i : Int)), (11, AVal.bool (hold (decide ((↑i : Int) < (↑(List.length (iv l)) : Int)))))] [] [] (Sto.pushOwn Sto.empty (List.length (iv o)))))) := by kernel_rfl
noncomputable def putI_S (l : List Int) (x : Int) (o : List Int) (d : Bool) (i : Nat) : St := St.mk 42 [(0, .slice (iv l) 1 .ro), (1, .int .i64 x), (5, .slice (iv o) 1 (.own 0)), (6, .bool d), (7, .int .i64 (i : Int))] [] [] (Sto.pushOwn Sto.empty (iv o).length)
noncomputable abbrev putI_C : Code := code_37_1_1_1_0_1_0_0_1_1
theorem putI_r (l : List Int) (x : Int) (o : List Int) (d : Bool) (i : Nat) (K : Exit → St → Prop) : vc Try.prog cPut code_37_1_1_1_0_1_0_0_1_1 K (St.mk 42 [(0, .slice (iv l) 1 .ro), (1, .int .i64 x), (5, .slice (iv o) 1 (.own 0)), (6, .bool d), (7, .int .i64 (i : Int))] [] [] (Sto.pushOwn Sto.empty (iv o).length)) =
  (K Exit.normal (St.mk 42 [(0, AVal.slice (iv l) 1 Tag.ro), (1, AVal.int IntKind.i64 x), (5, AVal.slice (iv o) 1 (Tag.own 0)), (6, AVal.bool d), (7, AVal.int IntKind.i64 (IntKind.wrap IntKind.i64 ((↑i : Int) + (1 : Int))))] [] [] (Sto.pushOwn Sto.empty (List.length (iv o))))) := by kernel_rfl
noncomputable def putA_S (l : List Int) (x : Int) (o : List Int) (d : Bool) (i : Nat) : St := St.mk 42 [(0, .slice (iv l) 1 .ro), (1, .int .i64 x), (5, .slice (iv o) 1 (.own 0)), (6, .bool d), (7, .int .i64 (i : Int))] [] [] (Sto.pushOwn Sto.empty (iv o).length)
noncomputable abbrev putA_C : Code := code_37_1_1_1_0_1_0_0_1_0_0_1
theorem putA_r (l : List Int) (x : Int) (o : List Int) (d : Bool) (i : Nat) (K : Exit → St → Prop) : vc Try.prog cPut code_37_1_1_1_0_1_0_0_1_0_0_1 K (St.mk 42 [(0, .slice (iv l) 1 .ro), (1, .int .i64 x), (5, .slice (iv o) 1 (.own 0)), (6, .bool d), (7, .int .i64 (i : Int))] [] [] (Sto.pushOwn Sto.empty (iv o).length)) =
  (gb (decide ((0 : Int) ≤ (↑i : Int) ∧ (↑i : Int) < (↑(List.length (iv l)) : Int))) (gb (decide (1 ≤ List.length (elemAt (iv l) (↑i : Int)) ∧ 0 < 1) && etaOk (Sh.int IntKind.i64) (List.getD (elemAt (iv l) (↑i : Int)) 0 AVal.undef)) (gb (decide (decide (true = true ∧ some (List.length (iv o)) = some (List.length (iv o)) ∧ (List.length (iv o) + 1) * 8 ≤ 140737488355328 ∧ List.length (iv o) + 1 ≤ 9223372036854775807) = true ∧ true = true)) (K Exit.normal (St.mk 42 [(0, AVal.slice (iv l) 1 Tag.ro), (1, AVal.int IntKind.i64 x), (5, AVal.slice (iv o ++ [AVal.int IntKind.i64 (AVal.intOf (List.getD (elemAt (iv l) (↑i : Int)) 0 AVal.undef))]) 1 (Tag.own 0)), (6, AVal.bool d), (7, AVal.int IntKind.i64 (↑i : Int))] [] [] (Sto.setOwn (Sto.pushOwn Sto.empty (List.length (iv o))) 0 (List.length (iv o) + 1))))))) := by kernel_rfl
noncomputable def putB_S (x : Int) (o : List Int) (d : Bool) : St := St.mk 42 [(1, .int .i64 x), (5, .slice (iv o) 1 (.own 0)), (6, .bool d)] [] [] (Sto.pushOwn Sto.empty (iv o).length)
noncomputable abbrev putB_C : Code := code_37_1_1_1_1
theorem putB_r (x : Int) (o : List Int) (d : Bool) (Q : AVal → Sto → Prop) : vc Try.prog cPut code_37_1_1_1_1 (endK Try.prog Try.f37.results.toList Q) (St.mk 42 [(1, .int .i64 x), (5, .slice (iv o) 1 (.own 0)), (6, .bool d)] [] [] (Sto.pushOwn Sto.empty (iv o).length)) =
  (brV (!d) true (gb (decide (decide (true = true ∧ some (List.length (iv o)) = some (List.length (iv o)) ∧ (List.length (iv o) + 1) * 8 ≤ 140737488355328 ∧ List.length (iv o) + 1 ≤ 9223372036854775807) = true ∧ true = true)) (cutV (vc Try.prog cPut code_37_1_1_1_1_1 (endK Try.prog (Array.toList (Go.Func.results Try.f37)) Q)) (St.mk 42 [(5, AVal.slice (iv o ++ [AVal.int IntKind.i64 x]) 1 (Tag.own 0))] [] [] (Sto.setOwn (Sto.pushOwn Sto.empty (List.length (iv o))) 0 (List.length (iv o) + 1))))) (cutV (vc Try.prog cPut code_37_1_1_1_1_1 (endK Try.prog (Array.toList (Go.Func.results Try.f37)) Q)) (St.mk 42 [(5, AVal.slice (iv o) 1 (Tag.own 0))] [] [] (Sto.pushOwn Sto.empty (List.length (iv o)))))) := by kernel_rfl
noncomputable def putF_S (o : List Int) : St := St.mk 42 [(5, .slice (iv o) 1 (.own 0))] [] [] (Sto.pushOwn Sto.empty (iv o).length)
noncomputable abbrev putF_C : Code := code_37_1_1_1_1_1
theorem putF_r (o : List Int) (Q : AVal → Sto → Prop) : vc Try.prog cPut code_37_1_1_1_1_1 (endK Try.prog Try.f37.results.toList Q) (St.mk 42 [(5, .slice (iv o) 1 (.own 0))] [] [] (Sto.pushOwn Sto.empty (iv o).length)) =
  (Q (AVal.slice (iv o) 1 (Tag.own 0)) (Sto.pushOwn Sto.empty (List.length (iv o)))) := by kernel_rfl
theorem without_r (l : List Int) (x : Int) (Q : AVal → Sto → Prop) : vc Try.prog cWithout code_39_ (endK Try.prog Try.f39.results.toList Q) (St.start Try.f39.ntmps [.slice (iv l) 1 .ro, .int .i64 x] (Sto.empty)) =
  (loopV (fun s => St.norm [(5, 1)] [0, 1, 5, 6] [] s) (vc Try.prog cWithout code_39_1_1_0_1_0_0) (blockK 0 (thenK (fun s => cutV (vc Try.prog cWithout code_39_1_1_1 (endK Try.prog (Array.toList (Go.Func.results Try.f39)) Q)) (St.norm [(5, 1)] [5] [] s)) (endK Try.prog (Array.toList (Go.Func.results Try.f39)) Q))) (St.mk 27 [(0, AVal.slice (iv l) 1 Tag.ro), (1, AVal.int IntKind.i64 x), (5, AVal.slice [] 1 (Tag.own 0)), (6, AVal.int IntKind.i64 (0 : Int))] [] [] (Sto.pushOwn Sto.empty 0))) := by kernel_rfl
theorem without_i (l : List Int) (x : Int) (Q : AVal → Sto → Prop) (ho : OrcOk Try.prog cWithout) (h : loopV (fun s => St.norm [(5, 1)] [0, 1, 5, 6] [] s) (vc Try.prog cWithout code_39_1_1_0_1_0_0) (blockK 0 (thenK (fun s => cutV (vc Try.prog cWithout code_39_1_1_1 (endK Try.prog (Array.toList (Go.Func.results Try.f39)) Q)) (St.norm [(5, 1)] [5] [] s)) (endK Try.prog (Array.toList (Go.Func.results Try.f39)) Q))) (St.mk 27 [(0, AVal.slice (iv l) 1 Tag.ro), (1, AVal.int IntKind.i64 x), (5, AVal.slice [] 1 (Tag.own 0)), (6, AVal.int IntKind.i64 (0 : Int))] [] [] (Sto.pushOwn Sto.empty 0))) : ACall Try.prog 39 [.slice (iv l) 1 .ro, .int .i64 x] (Sto.empty) Q :=
  ACall.intro hmix Try.func39 (c := code_39_) (by kernel_rfl) cWithout ho (Nat.le_of_ble_eq_true (by kernel_rfl)) (by rw [without_r]; exact h)
noncomputable def withoutL_S (l : List Int) (x : Int) (o : List Int) (i : Nat) : St := St.mk 27 [(0, .slice (iv l) 1 .ro), (1, .int .i64 x), (5, .slice (iv o) 1 (.own 0)), (6, .int .i64 (i : Int))] [] [] (Sto.pushOwn Sto.empty (iv o).length)
noncomputable abbrev withoutL_C : Code := code_39_1_1_0_1_0_0
theorem withoutL_r (l : List Int) (x : Int) (o : List Int) (i : Nat) (L : St → Prop) (K : Exit → St → Prop) : vc Try.prog cWithout code_39_1_1_0_1_0_0 (thenK (fun s => L (St.norm [(5, 1)] [0, 1, 5, 6] [] s)) K) (St.mk 27 [(0, .slice (iv l) 1 .ro), (1, .int .i64 x), (5, .slice (iv o) 1 (.own 0)), (6, .int .i64 (i : Int))] [] [] (Sto.pushOwn Sto.empty (iv o).length)) =
  (brV (hold (decide ((↑i : Int) < (↑(List.length (iv l)) : Int)))) true (gb (decide ((0 : Int) ≤ (↑i : Int) ∧ (↑i : Int) < (↑(List.length (iv l)) : Int))) (gb (decide (1 ≤ List.length (elemAt (iv l) (↑i : Int)) ∧ 0 < 1) && etaOk (Sh.int IntKind.i64) (List.getD (elemAt (iv l) (↑i : Int)) 0 AVal.undef)) (brV (hold (AVal.intOf (List.getD (elemAt (iv l) (↑i : Int)) 0 AVal.undef) != x)) true (gb (decide ((0 : Int) ≤ (↑i : Int) ∧ (↑i : Int) < (↑(List.length (iv l)) : Int))) (gb (decide (1 ≤ List.length (elemAt (iv l) (↑i : Int)) ∧ 0 < 1) && etaOk (Sh.int IntKind.i64) (List.getD (elemAt (iv l) (↑i : Int)) 0 AVal.undef)) (gb (decide (decide (true = true ∧ some (List.length (iv o)) = some (List.length (iv o)) ∧ (List.length (iv o) + 1) * 8 ≤ 140737488355328 ∧ List.length (iv o) + 1 ≤ 9223372036854775807) = true ∧ true = true)) (cutV (vc Try.prog cWithout code_39_1_1_0_1_0_0_1_1 (thenK (fun s => L (St.norm [(5, 1)] [0, 1, 5, 6] [] s)) K)) (St.mk 27 [(0, AVal.slice (iv l) 1 Tag.ro), (1, AVal.int IntKind.i64 x), (5, AVal.slice (iv o ++ [AVal.int IntKind.i64 (AVal.intOf (List.getD (elemAt (iv l) (↑i : Int)) 0 AVal.undef))]) 1 (Tag.own 0)), (6, AVal.int IntKind.i64 (↑i : Int))] [] [] (Sto.setOwn (Sto.pushOwn Sto.empty (List.length (iv o))) 0 (List.length (iv o) + 1))))))) (cutV (vc Try.prog cWithout code_39_1_1_0_1_0_0_1_1 (thenK (fun s => L (St.norm [(5, 1)] [0, 1, 5, 6] [] s)) K)) (St.mk 27 [(0, AVal.slice (iv l) 1 Tag.ro), (1, AVal.int IntKind.i64 x), (5, AVal.slice (iv o) 1 (Tag.own 0)), (6, AVal.int IntKind.i64 (↑i : Int))] [] [] (Sto.pushOwn Sto.empty (List.length (iv o)))))))) (K (Exit.exit 0) (St.mk 27 [(0, AVal.slice (iv l) 1 Tag.ro), (1, AVal.int IntKind.i64 x), (5, AVal.slice (iv o) 1 (Tag.own 0)), (6, AVal.int IntKind.i64 (↑i : Int)), (10, AVal.bool (hold (decide ((↑i : Int) < (↑(List.length (iv l)) : Int)))))] [] [] (Sto.pushOwn Sto.empty (List.length (iv o)))))) := by kernel_rfl
noncomputable def withoutI_S (l : List Int) (x : Int) (o : List Int) (i : Nat) : St := St.mk 27 [(0, .slice (iv l) 1 .ro), (1, .int .i64 x), (5, .slice (iv o) 1 (.own 0)), (6, .int .i64 (i : Int))] [] [] (Sto.pushOwn Sto.empty (iv o).length)
noncomputable abbrev withoutI_C : Code := code_39_1_1_0_1_0_0_1_1
theorem withoutI_r (l : List Int) (x : Int) (o : List Int) (i : Nat) (K : Exit → St → Prop) : vc Try.prog cWithout code_39_1_1_0_1_0_0_1_1 K (St.mk 27 [(0, .slice (iv l) 1 .ro), (1, .int .i64 x), (5, .slice (iv o) 1 (.own 0)), (6, .int .i64 (i : Int))] [] [] (Sto.pushOwn Sto.empty (iv o).length)) =
  (K Exit.normal (St.mk 27 [(0, AVal.slice (iv l) 1 Tag.ro), (1, AVal.int IntKind.i64 x), (5, AVal.slice (iv o) 1 (Tag.own 0)), (6, AVal.int IntKind.i64 (IntKind.wrap IntKind.i64 ((↑i : Int) + (1 : Int))))] [] [] (Sto.pushOwn Sto.empty (List.length (iv o))))) := by kernel_rfl
noncomputable def withoutF_S (o : List Int) : St := St.mk 27 [(5, .slice (iv o) 1 (.own 0))] [] [] (Sto.pushOwn Sto.empty (iv o).length)
noncomputable abbrev withoutF_C : Code := code_39_1_1_1
theorem withoutF_r (o : List Int) (Q : AVal → Sto → Prop) : vc Try.prog cWithout code_39_1_1_1 (endK Try.prog Try.f39.results.toList Q) (St.mk 27 [(5, .slice (iv o) 1 (.own 0))] [] [] (Sto.pushOwn Sto.empty (iv o).length)) =
  (Q (AVal.slice (iv o) 1 (Tag.own 0)) (Sto.pushOwn Sto.empty (List.length (iv o)))) := by kernel_rfl
theorem ints_r (a b : List Int) (Q : AVal → Sto → Prop) : vc Try.prog cInts code_12_ (endK Try.prog Try.f12.results.toList Q) (St.start Try.f12.ntmps [.slice (iv a) 1 .ro, .slice (iv b) 1 .ro] (Sto.empty)) =
  (brV (hold ((↑(List.length (iv a)) : Int) != (↑(List.length (iv b)) : Int))) true (Q (AVal.bool false) Sto.empty) (loopV (fun s => St.norm [] [0, 1, 5] [] s) (vc Try.prog cInts code_12_1_1_0_1_0_0) (blockK 0 (thenK (fun s => cutV (vc Try.prog cInts code_12_1_1_1 (endK Try.prog (Array.toList (Go.Func.results Try.f12)) Q)) (St.norm [] [] [] s)) (endK Try.prog (Array.toList (Go.Func.results Try.f12)) Q))) (St.mk 26 [(0, AVal.slice (iv a) 1 Tag.ro), (1, AVal.slice (iv b) 1 Tag.ro), (5, AVal.int IntKind.i64 (0 : Int))] [] [] Sto.empty))) := by kernel_rfl
theorem ints_i (a b : List Int) (Q : AVal → Sto → Prop) (ho : OrcOk Try.prog cInts) (h : brV (hold ((↑(List.length (iv a)) : Int) != (↑(List.length (iv b)) : Int))) true (Q (AVal.bool false) Sto.empty) (loopV (fun s => St.norm [] [0, 1, 5] [] s) (vc Try.prog cInts code_12_1_1_0_1_0_0) (blockK 0 (thenK (fun s => cutV (vc Try.prog cInts code_12_1_1_1 (endK Try.prog (Array.toList (Go.Func.results Try.f12)) Q)) (St.norm [] [] [] s)) (endK Try.prog (Array.toList (Go.Func.results Try.f12)) Q))) (St.mk 26 [(0, AVal.slice (iv a) 1 Tag.ro), (1, AVal.slice (iv b) 1 Tag.ro), (5, AVal.int IntKind.i64 (0 : Int))] [] [] Sto.empty))) : ACall Try.prog 12 [.slice (iv a) 1 .ro, .slice (iv b) 1 .ro] (Sto.empty) Q :=
  ACall.intro hmix Try.func12 (c := code_12_) (by kernel_rfl) cInts ho (Nat.le_of_ble_eq_true (by kernel_rfl)) (by rw [ints_r]; exact h)
noncomputable def intsL_S (a b : List Int) (i : Nat) : St := St.mk 26 [(0, .slice (iv a) 1 .ro), (1, .slice (iv b) 1 .ro), (5, .int .i64 (i : Int))] [] [] (Sto.empty)
noncomputable abbrev intsL_C : Code := code_12_1_1_0_1_0_0
theorem intsL_r (a b : List Int) (i : Nat) (L : St → Prop) (K : Exit → St → Prop) : vc Try.prog cInts code_12_1_1_0_1_0_0 (thenK (fun s => L (St.norm [] [0, 1, 5] [] s)) K) (St.mk 26 [(0, .slice (iv a) 1 .ro), (1, .slice (iv b) 1 .ro), (5, .int .i64 (i : Int))] [] [] (Sto.empty)) =
  (brV (hold (decide ((↑i : Int) < (↑(List.length (iv a)) : Int)))) true (gb (decide ((0 : Int) ≤ (↑i : Int) ∧ (↑i : Int) < (↑(List.length (iv a)) : Int))) (gb (decide (1 ≤ List.length (elemAt (iv a) (↑i : Int)) ∧ 0 < 1) && etaOk (Sh.int IntKind.i64) (List.getD (elemAt (iv a) (↑i : Int)) 0 AVal.undef)) (gb (decide ((0 : Int) ≤ (↑i : Int) ∧ (↑i : Int) < (↑(List.length (iv b)) : Int))) (gb (decide (1 ≤ List.length (elemAt (iv b) (↑i : Int)) ∧ 0 < 1) && etaOk (Sh.int IntKind.i64) (List.getD (elemAt (iv b) (↑i : Int)) 0 AVal.undef)) (brV (hold (AVal.intOf (List.getD (elemAt (iv a) (↑i : Int)) 0 AVal.undef) != AVal.intOf (List.getD (elemAt (iv b) (↑i : Int)) 0 AVal.undef))) true (K Exit.ret (St.mk 26 [(0, AVal.slice (iv a) 1 Tag.ro), (1, AVal.slice (iv b) 1 Tag.ro), (5, AVal.int IntKind.i64 (↑i : Int)), (14, AVal.bool (hold (decide ((↑i : Int) < (↑(List.length (iv a)) : Int))))), (25, AVal.bool (hold (AVal.intOf (List.getD (elemAt (iv a) (↑i : Int)) 0 AVal.undef) != AVal.intOf (List.getD (elemAt (iv b) (↑i : Int)) 0 AVal.undef)))), (4, AVal.bool false)] [] [] Sto.empty)) (L (St.mk 26 [(0, AVal.slice (iv a) 1 Tag.ro), (1, AVal.slice (iv b) 1 Tag.ro), (5, AVal.int IntKind.i64 (IntKind.wrap IntKind.i64 ((↑i : Int) + (1 : Int))))] [] [] Sto.empty))))))) (K (Exit.exit 0) (St.mk 26 [(0, AVal.slice (iv a) 1 Tag.ro), (1, AVal.slice (iv b) 1 Tag.ro), (5, AVal.int IntKind.i64 (↑i : Int)), (14, AVal.bool (hold (decide ((↑i : Int) < (↑(List.length (iv a)) : Int)))))] [] [] Sto.empty))) := by kernel_rfl
noncomputable def intsF_S  : St := St.mk 26 [] [] [] (Sto.empty)
noncomputable abbrev intsF_C : Code := code_12_1_1_1
theorem intsF_r  (Q : AVal → Sto → Prop) : vc Try.prog cInts code_12_1_1_1 (endK Try.prog Try.f12.results.toList Q) (St.mk 26 [] [] [] (Sto.empty)) =
  (Q (AVal.bool true) Sto.empty) := by kernel_rfl
theorem same_r (a b : List Ck) (Q : AVal → Sto → Prop) : vc Try.prog cSame code_19_ (endK Try.prog Try.f19.results.toList Q) (St.start Try.f19.ntmps [.slice (ckv a) 4 .ro, .slice (ckv b) 4 .ro] (Sto.empty)) =
  (brV (hold ((↑(List.length (ckv a)) : Int) != (↑(List.length (ckv b)) : Int))) true (Q (AVal.bool false) Sto.empty) (loopV (fun s => St.norm [] [0, 1, 5] [] s) (vc Try.prog cSame code_19_1_1_0_1_0_0) (blockK 0 (thenK (fun s => cutV (vc Try.prog cSame code_19_1_1_1 (endK Try.prog (Array.toList (Go.Func.results Try.f19)) Q)) (St.norm [] [] [] s)) (endK Try.prog (Array.toList (Go.Func.results Try.f19)) Q))) (St.mk 68 [(0, AVal.slice (ckv a) 4 Tag.ro), (1, AVal.slice (ckv b) 4 Tag.ro), (5, AVal.int IntKind.i64 (0 : Int))] [] [] Sto.empty))) := by kernel_rfl
theorem same_i (a b : List Ck) (Q : AVal → Sto → Prop) (ho : OrcOk Try.prog cSame) (h : brV (hold ((↑(List.length (ckv a)) : Int) != (↑(List.length (ckv b)) : Int))) true (Q (AVal.bool false) Sto.empty) (loopV (fun s => St.norm [] [0, 1, 5] [] s) (vc Try.prog cSame code_19_1_1_0_1_0_0) (blockK 0 (thenK (fun s => cutV (vc Try.prog cSame code_19_1_1_1 (endK Try.prog (Array.toList (Go.Func.results Try.f19)) Q)) (St.norm [] [] [] s)) (endK Try.prog (Array.toList (Go.Func.results Try.f19)) Q))) (St.mk 68 [(0, AVal.slice (ckv a) 4 Tag.ro), (1, AVal.slice (ckv b) 4 Tag.ro), (5, AVal.int IntKind.i64 (0 : Int))] [] [] Sto.empty))) : ACall Try.prog 19 [.slice (ckv a) 4 .ro, .slice (ckv b) 4 .ro] (Sto.empty) Q :=
  ACall.intro hmix Try.func19 (c := code_19_) (by kernel_rfl) cSame ho (Nat.le_of_ble_eq_true (by kernel_rfl)) (by rw [same_r]; exact h)
noncomputable def sameL_S (a b : List Ck) (i : Nat) : St := St.mk 68 [(0, .slice (ckv a) 4 .ro), (1, .slice (ckv b) 4 .ro), (5, .int .i64 (i : Int))] [] [] (Sto.empty)
noncomputable abbrev sameL_C : Code := code_19_1_1_0_1_0_0
theorem sameL_r (a b : List Ck) (i : Nat) (L : St → Prop) (K : Exit → St → Prop) : vc Try.prog cSame code_19_1_1_0_1_0_0 (thenK (fun s => L (St.norm [] [0, 1, 5] [] s)) K) (St.mk 68 [(0, .slice (ckv a) 4 .ro), (1, .slice (ckv b) 4 .ro), (5, .int .i64 (i : Int))] [] [] (Sto.empty)) =
  (brV (hold (decide ((↑i : Int) < (↑(List.length (ckv a)) : Int)))) true (gb (decide ((0 : Int) ≤ (↑i : Int) ∧ (↑i : Int) < (↑(List.length (ckv a)) : Int))) (gb (decide (1 ≤ List.length (List.drop 0 (elemAt (ckv a) (↑i : Int))) ∧ 0 < 1) && etaOk (Sh.int IntKind.i64) (List.getD (List.drop 0 (elemAt (ckv a) (↑i : Int))) 0 AVal.undef)) (gb (decide ((0 : Int) ≤ (↑i : Int) ∧ (↑i : Int) < (↑(List.length (ckv b)) : Int))) (gb (decide (1 ≤ List.length (List.drop 0 (elemAt (ckv b) (↑i : Int))) ∧ 0 < 1) && etaOk (Sh.int IntKind.i64) (List.getD (List.drop 0 (elemAt (ckv b) (↑i : Int))) 0 AVal.undef)) (brV (hold (AVal.intOf (List.getD (List.drop 0 (elemAt (ckv a) (↑i : Int))) 0 AVal.undef) != AVal.intOf (List.getD (List.drop 0 (elemAt (ckv b) (↑i : Int))) 0 AVal.undef))) false (gb (decide ((0 : Int) ≤ (↑i : Int) ∧ (↑i : Int) < (↑(List.length (ckv a)) : Int))) (gb (decide (1 ≤ List.length (List.drop 2 (elemAt (ckv a) (↑i : Int))) ∧ 0 < 1) && etaOk (Sh.int IntKind.i64) (List.getD (List.drop 2 (elemAt (ckv a) (↑i : Int))) 0 AVal.undef)) (gb (decide ((0 : Int) ≤ (↑i : Int) ∧ (↑i : Int) < (↑(List.length (ckv b)) : Int))) (gb (decide (1 ≤ List.length (List.drop 2 (elemAt (ckv b) (↑i : Int))) ∧ 0 < 1) && etaOk (Sh.int IntKind.i64) (List.getD (List.drop 2 (elemAt (ckv b) (↑i : Int))) 0 AVal.undef)) (brV (hold (AVal.intOf (List.getD (List.drop 2 (elemAt (ckv a) (↑i : Int))) 0 AVal.undef) != AVal.intOf (List.getD (List.drop 2 (elemAt (ckv b) (↑i : Int))) 0 AVal.undef))) false (gb (decide ((0 : Int) ≤ (↑i : Int) ∧ (↑i : Int) < (↑(List.length (ckv a)) : Int))) (gb (decide (1 ≤ List.length (List.drop 3 (elemAt (ckv a) (↑i : Int))) ∧ 0 < 1) && etaOk Sh.bool (List.getD (List.drop 3 (elemAt (ckv a) (↑i : Int))) 0 AVal.undef)) (gb (decide ((0 : Int) ≤ (↑i : Int) ∧ (↑i : Int) < (↑(List.length (ckv b)) : Int))) (gb (decide (1 ≤ List.length (List.drop 3 (elemAt (ckv b) (↑i : Int))) ∧ 0 < 1) && etaOk Sh.bool (List.getD (List.drop 3 (elemAt (ckv b) (↑i : Int))) 0 AVal.undef)) (brV (!hold (AVal.boolOf (List.getD (List.drop 3 (elemAt (ckv a) (↑i : Int))) 0 AVal.undef) == AVal.boolOf (List.getD (List.drop 3 (elemAt (ckv b) (↑i : Int))) 0 AVal.undef))) false (gb (decide ((0 : Int) ≤ (↑i : Int) ∧ (↑i : Int) < (↑(List.length (ckv a)) : Int))) (gb (decide (1 ≤ List.length (List.drop 1 (elemAt (ckv a) (↑i : Int))) ∧ 0 < 1) && sliceOk 1 (List.getD (List.drop 1 (elemAt (ckv a) (↑i : Int))) 0 AVal.undef)) (gb (decide ((0 : Int) ≤ (↑i : Int) ∧ (↑i : Int) < (↑(List.length (ckv b)) : Int))) (gb (decide (1 ≤ List.length (List.drop 1 (elemAt (ckv b) (↑i : Int))) ∧ 0 < 1) && sliceOk 1 (List.getD (List.drop 1 (elemAt (ckv b) (↑i : Int))) 0 AVal.undef)) (gb (List.all (AVal.elems (List.getD (List.drop 1 (elemAt (ckv a) (↑i : Int))) 0 AVal.undef)) isI64 && (List.all (AVal.elems (List.getD (List.drop 1 (elemAt (ckv b) (↑i : Int))) 0 AVal.undef)) isI64 && lenOk (List.length (AVal.elems (List.getD (List.drop 1 (elemAt (ckv a) (↑i : Int))) 0 AVal.undef))))) (brV (!hold (List.map AVal.intOf (AVal.elems (List.getD (List.drop 1 (elemAt (ckv a) (↑i : Int))) 0 AVal.undef)) == List.map AVal.intOf (AVal.elems (List.getD (List.drop 1 (elemAt (ckv b) (↑i : Int))) 0 AVal.undef)))) true (K Exit.ret (St.mk 68 [(0, AVal.slice (ckv a) 4 Tag.ro), (1, AVal.slice (ckv b) 4 Tag.ro), (5, AVal.int IntKind.i64 (↑i : Int)), (14, AVal.bool (hold (decide ((↑i : Int) < (↑(List.length (ckv a)) : Int))))), (67, AVal.bool !hold (List.map AVal.intOf (AVal.elems (List.getD (List.drop 1 (elemAt (ckv a) (↑i : Int))) 0 AVal.undef)) == List.map AVal.intOf (AVal.elems (List.getD (List.drop 1 (elemAt (ckv b) (↑i : Int))) 0 AVal.undef)))), (4, AVal.bool false)] [] [] Sto.empty)) (L (St.mk 68 [(0, AVal.slice (ckv a) 4 Tag.ro), (1, AVal.slice (ckv b) 4 Tag.ro), (5, AVal.int IntKind.i64 (IntKind.wrap IntKind.i64 ((↑i : Int) + (1 : Int))))] [] [] Sto.empty)))))))) (K Exit.ret (St.mk 68 [(0, AVal.slice (ckv a) 4 Tag.ro), (1, AVal.slice (ckv b) 4 Tag.ro), (5, AVal.int IntKind.i64 (↑i : Int)), (14, AVal.bool (hold (decide ((↑i : Int) < (↑(List.length (ckv a)) : Int))))), (67, AVal.bool true), (4, AVal.bool false)] [] [] Sto.empty))))))) (K Exit.ret (St.mk 68 [(0, AVal.slice (ckv a) 4 Tag.ro), (1, AVal.slice (ckv b) 4 Tag.ro), (5, AVal.int IntKind.i64 (↑i : Int)), (14, AVal.bool (hold (decide ((↑i : Int) < (↑(List.length (ckv a)) : Int))))), (67, AVal.bool true), (4, AVal.bool false)] [] [] Sto.empty))))))) (K Exit.ret (St.mk 68 [(0, AVal.slice (ckv a) 4 Tag.ro), (1, AVal.slice (ckv b) 4 Tag.ro), (5, AVal.int IntKind.i64 (↑i : Int)), (14, AVal.bool (hold (decide ((↑i : Int) < (↑(List.length (ckv a)) : Int))))), (67, AVal.bool true), (4, AVal.bool false)] [] [] Sto.empty))))))) (K (Exit.exit 0) (St.mk 68 [(0, AVal.slice (ckv a) 4 Tag.ro), (1, AVal.slice (ckv b) 4 Tag.ro), (5, AVal.int IntKind.i64 (↑i : Int)), (14, AVal.bool (hold (decide ((↑i : Int) < (↑(List.length (ckv a)) : Int)))))] [] [] Sto.empty))) := by kernel_rfl
noncomputable def sameF_S  : St := St.mk 68 [] [] [] (Sto.empty)
noncomputable abbrev sameF_C : Code := code_19_1_1_1
theorem sameF_r  (Q : AVal → Sto → Prop) : vc Try.prog cSame code_19_1_1_1 (endK Try.prog Try.f19.results.toList Q) (St.mk 68 [] [] [] (Sto.empty)) =
  (Q (AVal.bool true) Sto.empty) := by kernel_rfl
theorem idsR_r (l : List Ck) (Q : AVal → Sto → Prop) : vc Try.prog cIdsR code_21_ (endK Try.prog Try.f21.results.toList Q) (St.start Try.f21.ntmps [.slice (ckv l) 4 .ro] (Sto.empty)) =
  (loopV (fun s => St.norm [(3, 1)] [0, 3, 4] [] s) (vc Try.prog cIdsR code_21_1_1_0_1_0_0) (blockK 0 (thenK (fun s => cutV (vc Try.prog cIdsR code_21_1_1_1 (endK Try.prog (Array.toList (Go.Func.results Try.f21)) Q)) (St.norm [(3, 1)] [3] [] s)) (endK Try.prog (Array.toList (Go.Func.results Try.f21)) Q))) (St.mk 34 [(0, AVal.slice (ckv l) 4 Tag.ro), (3, AVal.slice [] 1 (Tag.own 0)), (4, AVal.int IntKind.i64 (0 : Int))] [] [] (Sto.pushOwn Sto.empty 0))) := by kernel_rfl
theorem idsR_i (l : List Ck) (Q : AVal → Sto → Prop) (ho : OrcOk Try.prog cIdsR) (h : loopV (fun s => St.norm [(3, 1)] [0, 3, 4] [] s) (vc Try.prog cIdsR code_21_1_1_0_1_0_0) (blockK 0 (thenK (fun s => cutV (vc Try.prog cIdsR code_21_1_1_1 (endK Try.prog (Array.toList (Go.Func.results Try.f21)) Q)) (St.norm [(3, 1)] [3] [] s)) (endK Try.prog (Array.toList (Go.Func.results Try.f21)) Q))) (St.mk 34 [(0, AVal.slice (ckv l) 4 Tag.ro), (3, AVal.slice [] 1 (Tag.own 0)), (4, AVal.int IntKind.i64 (0 : Int))] [] [] (Sto.pushOwn Sto.empty 0))) : ACall Try.prog 21 [.slice (ckv l) 4 .ro] (Sto.empty) Q :=
  ACall.intro hmix Try.func21 (c := code_21_) (by kernel_rfl) cIdsR ho (Nat.le_of_ble_eq_true (by kernel_rfl)) (by rw [idsR_r]; exact h)
noncomputable def idsRL_S (l : List Ck) (o : List Int) (i : Nat) : St := St.mk 34 [(0, .slice (ckv l) 4 .ro), (3, .slice (iv o) 1 (.own 0)), (4, .int .i64 (i : Int))] [] [] (Sto.pushOwn Sto.empty (iv o).length)
noncomputable abbrev idsRL_C : Code := code_21_1_1_0_1_0_0
theorem idsRL_r (l : List Ck) (o : List Int) (i : Nat) (L : St → Prop) (K : Exit → St → Prop) : vc Try.prog cIdsR code_21_1_1_0_1_0_0 (thenK (fun s => L (St.norm [(3, 1)] [0, 3, 4] [] s)) K) (St.mk 34 [(0, .slice (ckv l) 4 .ro), (3, .slice (iv o) 1 (.own 0)), (4, .int .i64 (i : Int))] [] [] (Sto.pushOwn Sto.empty (iv o).length)) =
  (brV (hold (decide ((↑i : Int) < (↑(List.length (ckv l)) : Int)))) true (loopV (fun s => St.norm [(3, 1)] [0, 3, 4, 5] [] s) (vc Try.prog cIdsR code_21_1_1_0_1_0_0_1_0_0_1_0_0) (blockK 2 (blockK 1 (thenK (fun s => cutV (vc Try.prog cIdsR code_21_1_1_0_1_0_0_1_1 (thenK (fun s => L (St.norm [(3, 1)] [0, 3, 4] [] s)) K)) (St.norm [(3, 1)] [0, 3, 4] [] s)) (thenK (fun s => L (St.norm [(3, 1)] [0, 3, 4] [] s)) K)))) (St.mk 34 [(0, AVal.slice (ckv l) 4 Tag.ro), (3, AVal.slice (iv o) 1 (Tag.own 0)), (4, AVal.int IntKind.i64 (↑i : Int)), (5, AVal.int IntKind.i64 (0 : Int))] [] [] (Sto.pushOwn Sto.empty (List.length (iv o))))) (K (Exit.exit 0) (St.mk 34 [(0, AVal.slice (ckv l) 4 Tag.ro), (3, AVal.slice (iv o) 1 (Tag.own 0)), (4, AVal.int IntKind.i64 (↑i : Int)), (9, AVal.bool (hold (decide ((↑i : Int) < (↑(List.length (ckv l)) : Int)))))] [] [] (Sto.pushOwn Sto.empty (List.length (iv o)))))) := by kernel_rfl
noncomputable def idsRI_S (l : List Ck) (o : List Int) (i : Nat) : St := St.mk 34 [(0, .slice (ckv l) 4 .ro), (3, .slice (iv o) 1 (.own 0)), (4, .int .i64 (i : Int))] [] [] (Sto.pushOwn Sto.empty (iv o).length)
noncomputable abbrev idsRI_C : Code := code_21_1_1_0_1_0_0_1_1
theorem idsRI_r (l : List Ck) (o : List Int) (i : Nat) (K : Exit → St → Prop) : vc Try.prog cIdsR code_21_1_1_0_1_0_0_1_1 K (St.mk 34 [(0, .slice (ckv l) 4 .ro), (3, .slice (iv o) 1 (.own 0)), (4, .int .i64 (i : Int))] [] [] (Sto.pushOwn Sto.empty (iv o).length)) =
  (K Exit.normal (St.mk 34 [(0, AVal.slice (ckv l) 4 Tag.ro), (3, AVal.slice (iv o) 1 (Tag.own 0)), (4, AVal.int IntKind.i64 (IntKind.wrap IntKind.i64 ((↑i : Int) + (1 : Int))))] [] [] (Sto.pushOwn Sto.empty (List.length (iv o))))) := by kernel_rfl
noncomputable def idsRM_S (l : List Ck) (o : List Int) (i k : Nat) : St := St.mk 34 [(0, .slice (ckv l) 4 .ro), (3, .slice (iv o) 1 (.own 0)), (4, .int .i64 (i : Int)), (5, .int .i64 (k : Int))] [] [] (Sto.pushOwn Sto.empty (iv o).length)
noncomputable abbrev idsRM_C : Code := code_21_1_1_0_1_0_0_1_0_0_1_0_0
theorem idsRM_r (l : List Ck) (o : List Int) (i k : Nat) (L : St → Prop) (K : Exit → St → Prop) : vc Try.prog cIdsR code_21_1_1_0_1_0_0_1_0_0_1_0_0 (thenK (fun s => L (St.norm [(3, 1)] [0, 3, 4, 5] [] s)) K) (St.mk 34 [(0, .slice (ckv l) 4 .ro), (3, .slice (iv o) 1 (.own 0)), (4, .int .i64 (i : Int)), (5, .int .i64 (k : Int))] [] [] (Sto.pushOwn Sto.empty (iv o).length)) =
  (gb (decide ((0 : Int) ≤ (↑i : Int) ∧ (↑i : Int) < (↑(List.length (ckv l)) : Int))) (gb (decide (1 ≤ List.length (List.drop 1 (elemAt (ckv l) (↑i : Int))) ∧ 0 < 1) && sliceOk 1 (List.getD (List.drop 1 (elemAt (ckv l) (↑i : Int))) 0 AVal.undef)) (brV (hold (decide ((↑k : Int) < (↑(List.length (AVal.elems (List.getD (List.drop 1 (elemAt (ckv l) (↑i : Int))) 0 AVal.undef))) : Int)))) true (gb (decide ((0 : Int) ≤ (↑i : Int) ∧ (↑i : Int) < (↑(List.length (ckv l)) : Int))) (gb (decide (1 ≤ List.length (List.drop 1 (elemAt (ckv l) (↑i : Int))) ∧ 0 < 1) && sliceOk 1 (List.getD (List.drop 1 (elemAt (ckv l) (↑i : Int))) 0 AVal.undef)) (gb (decide ((0 : Int) ≤ (↑k : Int) ∧ (↑k : Int) < (↑(List.length (AVal.elems (List.getD (List.drop 1 (elemAt (ckv l) (↑i : Int))) 0 AVal.undef))) : Int))) (gb (decide (1 ≤ List.length (elemAt (AVal.elems (List.getD (List.drop 1 (elemAt (ckv l) (↑i : Int))) 0 AVal.undef)) (↑k : Int)) ∧ 0 < 1) && etaOk (Sh.int IntKind.i64) (List.getD (elemAt (AVal.elems (List.getD (List.drop 1 (elemAt (ckv l) (↑i : Int))) 0 AVal.undef)) (↑k : Int)) 0 AVal.undef)) (gb (decide (decide (true = true ∧ some (List.length (iv o)) = some (List.length (iv o)) ∧ (List.length (iv o) + 1) * 8 ≤ 140737488355328 ∧ List.length (iv o) + 1 ≤ 9223372036854775807) = true ∧ true = true)) (L (St.mk 34 [(0, AVal.slice (ckv l) 4 Tag.ro), (3, AVal.slice (iv o ++ [AVal.int IntKind.i64 (AVal.intOf (List.getD (elemAt (AVal.elems (List.getD (List.drop 1 (elemAt (ckv l) (↑i : Int))) 0 AVal.undef)) (↑k : Int)) 0 AVal.undef))]) 1 (Tag.own 0)), (4, AVal.int IntKind.i64 (↑i : Int)), (5, AVal.int IntKind.i64 (IntKind.wrap IntKind.i64 ((↑k : Int) + (1 : Int))))] [] [] (Sto.setOwn (Sto.pushOwn Sto.empty (List.length (iv o))) 0 (List.length (iv o) + 1))))))))) (K (Exit.exit 2) (St.mk 34 [(0, AVal.slice (ckv l) 4 Tag.ro), (3, AVal.slice (iv o) 1 (Tag.own 0)), (4, AVal.int IntKind.i64 (↑i : Int)), (5, AVal.int IntKind.i64 (↑k : Int)), (19, AVal.bool (hold (decide ((↑k : Int) < (↑(List.length (AVal.elems (List.getD (List.drop 1 (elemAt (ckv l) (↑i : Int))) 0 AVal.undef))) : Int)))))] [] [] (Sto.pushOwn Sto.empty (List.length (iv o)))))))) := by kernel_rfl
noncomputable def idsRF_S (o : List Int) : St := St.mk 34 [(3, .slice (iv o) 1 (.own 0))] [] [] (Sto.pushOwn Sto.empty (iv o).length)
noncomputable abbrev idsRF_C : Code := code_21_1_1_1
theorem idsRF_r (o : List Int) (Q : AVal → Sto → Prop) : vc Try.prog cIdsR code_21_1_1_1 (endK Try.prog Try.f21.results.toList Q) (St.mk 34 [(3, .slice (iv o) 1 (.own 0))] [] [] (Sto.pushOwn Sto.empty (iv o).length)) =
  (Q (AVal.slice (iv o) 1 (Tag.own 0)) (Sto.pushOwn Sto.empty (List.length (iv o)))) := by kernel_rfl
end Go.Proofs.Ytjdjecaclbdhhaa
end

section
namespace Go.Proofs.Ytjdjecaclbdhhaa
open Go.AL
set_option linter.unusedSimpArgs false
set_option linter.unusedVariables false
set_option maxHeartbeats 2000000
set_option maxRecDepth 20000

theorem take_step {α : Type} {a b : List α} {i : Nat} (h1 : i < a.length) (h2 : i < b.length) (he : a.take i = b.take i) (hx : a[i] = b[i]) : a.take (i + 1) = b.take (i + 1) := by
  rw [List.take_succ_eq_append_getElem h1, List.take_succ_eq_append_getElem h2, he, hx]
theorem take_ne {α : Type} {a b : List α} {i : Nat} (h1 : i < a.length) (h2 : i < b.length) (hx : a[i] ≠ b[i]) : a ≠ b := by
  rintro rfl; exact hx rfl
theorem take_all {α : Type} {a b : List α} {i : Nat} (h1 : a.length ≤ i) (h2 : b.length ≤ i) (he : a.take i = b.take i) : a = b := by
  rwa [List.take_of_length_le h1, List.take_of_length_le h2] at he
theorem iv_one (o : List Int) (x : Int) : iv o ++ [.int .i64 x] = iv (o ++ [x]) := by simp [iv]
theorem own_one (o : List Int) (x : Int) : Sto.setOwn (Sto.pushOwn Sto.empty (iv o).length) 0 ((iv o).length + 1) = Sto.pushOwn Sto.empty (iv (o ++ [x])).length := by
  rw [setOwn_e1, ← iv_one, List.length_append]; rfl
theorem iv_oneG (o : List Int) (x : Int) : iv o ++ [.int .i64 (AVal.intOf (List.getD [AVal.int .i64 x] 0 .undef))] = iv (o ++ [x]) := iv_one o x
theorem has_c (l : List Int) (x : Int) (hl : l.length ≤ 140737488351232) : ACall Try.prog 26 [.slice (iv l) 1 .ro, .int .i64 x] Sto.empty fun r _ => Wk r (.bool (l.contains x)) := by
  refine has_i _ _ _ (.of_none rfl) ?_
  have hn : (iv l).length = l.length := iv_length l
  refine loopV_intro (α := Nat) (fun i => hasL_S l x i) (fun i => i ≤ l.length ∧ ∀ y ∈ l.take i, y ≠ x) (fun i => l.length - i) ?_ 0 ⟨Nat.zero_le _, fun x hx => by simp at hx⟩
  rintro i ⟨hi, hpre⟩ L hL
  refine Eq.mpr (hasL_r l x i L _) ?_
  simp only [hold_eq]
  refine brV_by (fun h => ?_) (fun h => ?_)
  · have hlt : i < l.length := by have := of_decide_eq_true h; omega
    rw [i64_succ hlt hl, elemAt_iv l i hlt]
    refine gb_by (dt (by omega)) (gb_by rfl (brV_by (fun h => ?_) (fun h => ?_)))
    · have e : l[i] = x := by
        have h : (l[i] == x) = true := h
        simpa using h
      have hc : l.contains x = true := by rw [← e]; simp
      rw [hc]
      exact Wk.refl _
    · have e : l[i] ≠ x := by
        have h : (l[i] == x) = false := h
        simpa using h
      refine hL (i + 1) ⟨hlt, fun y hy => ?_⟩ (by omega)
      rw [List.take_succ_eq_append_getElem hlt] at hy
      rcases List.mem_append.1 hy with h1 | h1
      · exact hpre y h1
      · simp at h1; subst h1; exact e
  · have hge : ¬ i < l.length := by have := of_decide_eq_false h; omega
    rw [List.take_of_length_le (by omega)] at hpre
    have hc : l.contains x = false := by
      cases hh : l.contains x with
      | false => rfl
      | true =>
        have : x ∈ l := by simpa using hh
        exact (hpre x this rfl).elim
    rw [hc]
    exact leaveTo (toCut (Eq.mpr (hasF_r _) (Wk.refl _)))
theorem has_ok : EntOk Try.prog hasE := by
  intro xs σ; simp only [hasE]; split
  · rename_i es s t x
    intro hc
    simp only [Bool.and_eq_true, hold_eq] at hc
    obtain ⟨h1, h2, h3⟩ := hc
    refine pcall_of (.cons (wk_iv t h1 h2) (.refl _)) (by rw [hold_eq]; exact has_c _ x (by simpa using lenOk_of h3)) (by simp only [noOutL, AVal.noOut, iv_noOut, Bool.and_true]) (by simp only [noTokL, AVal.noTok, iv_noTok, Bool.and_true, Tag.below]) rfl rfl
  · trivial
theorem used_c (l : List Ck) (x : Int) (hl : l.length ≤ 1000000) : ACall Try.prog 38 [.slice (ckv l) 4 .ro, .int .i64 x] Sto.empty fun r _ => Wk r (.bool ((nosC l).contains x)) := by
  refine used_i _ _ _ (.of_none rfl) ?_
  have hn : (ckv l).length = l.length := ckv_length l
  refine loopV_intro (α := Nat) (fun i => usedL_S l x i) (fun i => i ≤ l.length ∧ ∀ y ∈ l.take i, y.1 ≠ x) (fun i => l.length - i) ?_ 0 ⟨Nat.zero_le _, fun x hx => by simp at hx⟩
  rintro i ⟨hi, hpre⟩ L hL
  refine Eq.mpr (usedL_r l x i L _) ?_
  simp only [hold_eq]
  refine brV_by (fun h => ?_) (fun h => ?_)
  · have hlt : i < l.length := by have := of_decide_eq_true h; omega
    rw [i64_succ hlt (by omega), elemAt_ckv l i hlt]
    refine gb_by (dt (by omega)) (gb_by rfl (brV_by (fun h => ?_) (fun h => ?_)))
    · have e : l[i].1 = x := by
        have h : (l[i].1 == x) = true := h
        simpa using h
      have hc : (nosC l).contains x = true := List.contains_iff_mem.2 (List.mem_map.2 ⟨l[i], List.getElem_mem hlt, e⟩)
      rw [hc]
      exact Wk.refl _
    · have e : l[i].1 ≠ x := by
        have h : (l[i].1 == x) = false := h
        simpa using h
      refine hL (i + 1) ⟨hlt, fun y hy => ?_⟩ (by omega)
      rw [List.take_succ_eq_append_getElem hlt] at hy
      rcases List.mem_append.1 hy with h1 | h1
      · exact hpre y h1
      · simp at h1; subst h1; exact e
  · have hge : ¬ i < l.length := by have := of_decide_eq_false h; omega
    rw [List.take_of_length_le (by omega)] at hpre
    have hc : (nosC l).contains x = false := by
      cases hh : (nosC l).contains x with
      | false => rfl
      | true =>
        obtain ⟨y, hy, e⟩ := List.mem_map.1 (List.contains_iff_mem.1 hh)
        exact (hpre y hy e).elim
    rw [hc]
    exact leaveTo (toCut (Eq.mpr (usedF_r _) (Wk.refl _)))
theorem used_ok : EntOk Try.prog usedE := by
  intro xs σ; simp only [usedE]; split
  · rename_i es s t x
    intro hc
    simp only [Bool.and_eq_true, hold_eq] at hc
    obtain ⟨h1, h2, h3⟩ := hc
    refine pcall_of (.cons (wk_cks t h1 h2) (.refl _)) (by rw [hold_eq]; exact used_c _ x (by simpa using lenM_of h3)) (by simp only [noOutL, AVal.noOut, ckv_noOut, Bool.and_true]) (by simp only [noTokL, AVal.noTok, ckv_noTok, Bool.and_true, Tag.below]) rfl rfl
  · trivial
theorem ints_c (a b : List Int) (ha : a.length ≤ 140737488351232) : ACall Try.prog 12 [.slice (iv a) 1 .ro, .slice (iv b) 1 .ro] Sto.empty fun r _ => Wk r (.bool (a == b)) := by
  refine ints_i a b _ (.of_none rfl) ?_
  have hna : (iv a).length = a.length := iv_length a
  have hnb : (iv b).length = b.length := iv_length b
  simp only [hold_eq]
  refine brV_by (fun h => ?_) (fun h => ?_)
  · have hne : a.length ≠ b.length := by
      have : ¬ ((iv a).length : Int) = ((iv b).length : Int) := by simpa using h
      omega
    have : (a == b) = false := by rw [beq_eq_false_iff_ne]; rintro rfl; exact hne rfl
    rw [this]; exact Wk.refl _
  · have hlen : a.length = b.length := by
      have : ((iv a).length : Int) = ((iv b).length : Int) := by simpa using h
      omega
    refine loopV_intro (α := Nat) (fun i => intsL_S a b i) (fun i => i ≤ a.length ∧ a.take i = b.take i) (fun i => a.length - i) ?_ 0 ⟨Nat.zero_le _, rfl⟩
    rintro i ⟨hi, he⟩ L hL
    refine Eq.mpr (intsL_r a b i L _) ?_
    simp only [hold_eq]
    refine brV_by (fun h => ?_) (fun h => ?_)
    · have hlt : i < a.length := by have := of_decide_eq_true h; omega
      rw [i64_succ hlt ha, elemAt_iv a i hlt, elemAt_iv b i (by omega)]
      refine gb_by (dt (by omega)) (gb_by rfl (gb_by (dt (by omega)) (gb_by rfl (brV_by (fun h => ?_) (fun h => ?_)))))
      · have hne : a[i] ≠ b[i] := by
          have h : (a[i] != b[i]) = true := h
          simpa using h
        have : (a == b) = false := by rw [beq_eq_false_iff_ne]; exact take_ne hlt (by omega) hne
        rw [this]; exact Wk.refl _
      · have he2 : a[i] = b[i] := by
          have h : (a[i] != b[i]) = false := h
          simpa using h
        exact hL (i + 1) ⟨hlt, take_step hlt (by omega) he he2⟩ (by omega)
    · have hge : ¬ i < a.length := by have := of_decide_eq_false h; omega
      have : (a == b) = true := by rw [beq_iff_eq]; exact take_all (by omega) (by omega) he
      rw [this]
      exact leaveTo (toCut (Eq.mpr (intsF_r _) (Wk.refl _)))
theorem ints_ok : EntOk Try.prog intsE := by
  intro xs σ; simp only [intsE]; split
  · rename_i es s t fs s' t'
    intro hc
    simp only [Bool.and_eq_true, hold_eq] at hc
    obtain ⟨h1, h2, h3, h4, h5⟩ := hc
    exact pcall_of (.cons (wk_iv t h1 h3) (.cons (wk_iv t' h2 h4) (.refl _))) (by rw [hold_eq]; exact ints_c _ _ (by simpa using lenOk_of h5)) (by simp only [noOutL, AVal.noOut, iv_noOut, Bool.and_true]) (by simp only [noTokL, AVal.noTok, iv_noTok, Bool.and_true, Tag.below]) rfl rfl
  · trivial
theorem same_c (a b : List Ck) (ha : a.length ≤ 1000000) (hm : ∀ c ∈ a, c.2.1.length ≤ 1000000) : ACall Try.prog 19 [.slice (ckv a) 4 .ro, .slice (ckv b) 4 .ro] Sto.empty fun r _ => Wk r (.bool (a == b)) := by
  refine same_i a b _ (.of [intsE] rfl ⟨ints_ok, trivial⟩) ?_
  have hna : (ckv a).length = a.length := ckv_length a
  have hnb : (ckv b).length = b.length := ckv_length b
  simp only [hold_eq]
  refine brV_by (fun h => ?_) (fun h => ?_)
  · have hne : a.length ≠ b.length := by
      have : ¬ ((ckv a).length : Int) = ((ckv b).length : Int) := by simpa using h
      omega
    have : (a == b) = false := by rw [beq_eq_false_iff_ne]; rintro rfl; exact hne rfl
    rw [this]; exact Wk.refl _
  · have hlen : a.length = b.length := by
      have : ((ckv a).length : Int) = ((ckv b).length : Int) := by simpa using h
      omega
    refine loopV_intro (α := Nat) (fun i => sameL_S a b i) (fun i => i ≤ a.length ∧ a.take i = b.take i) (fun i => a.length - i) ?_ 0 ⟨Nat.zero_le _, rfl⟩
    rintro i ⟨hi, he⟩ L hL
    refine Eq.mpr (sameL_r a b i L _) ?_
    simp only [hold_eq]
    refine brV_by (fun h => ?_) (fun h => ?_)
    · have hlt : i < a.length := by have := of_decide_eq_true h; omega
      have hlt2 : i < b.length := by omega
      have hin : 0 ≤ (i : Int) ∧ (i : Int) < (ckv a).length := by omega
      have hin2 : 0 ≤ (i : Int) ∧ (i : Int) < (ckv b).length := by omega
      have hcm := hm _ (List.getElem_mem hlt)
      rw [i64_succ hlt (by omega), elemAt_ckv a i hlt, elemAt_ckv b i hlt2]
      have bad : a[i] ≠ b[i] → Wk (.bool false) (.bool (a == b)) := fun hne => by
        have : (a == b) = false := by rw [beq_eq_false_iff_ne]; exact take_ne hlt hlt2 hne
        rw [this]; exact Wk.refl _
      have s1 : List.map AVal.intOf (AVal.elems (List.getD (List.drop 1 (ckC a[i])) 0 .undef)) = a[i].2.1 := map_intOf_iv _
      have s2 : List.map AVal.intOf (AVal.elems (List.getD (List.drop 1 (ckC b[i])) 0 .undef)) = b[i].2.1 := map_intOf_iv _
      simp only [s1, s2]
      refine gb_by (dt hin) (gb_by rfl (gb_by (dt hin2) (gb_by rfl (brV_by' (fun h => ?_) (fun h => ?_)))))
      rotate_left
      · have h : (a[i].1 != b[i].1) = true := h
        exact bad fun e => by rw [e] at h; simp at h
      have q1 : a[i].1 = b[i].1 := by
        have h : (a[i].1 != b[i].1) = false := h
        simpa using h
      refine gb_by (dt hin) (gb_by rfl (gb_by (dt hin2) (gb_by rfl (brV_by' (fun h => ?_) (fun h => ?_)))))
      rotate_left
      · have h : (a[i].2.2.1 != b[i].2.2.1) = true := h
        exact bad fun e => by rw [e] at h; simp at h
      have q2 : a[i].2.2.1 = b[i].2.2.1 := by
        have h : (a[i].2.2.1 != b[i].2.2.1) = false := h
        simpa using h
      refine gb_by (dt hin) (gb_by rfl (gb_by (dt hin2) (gb_by rfl (brV_by' (fun h => ?_) (fun h => ?_)))))
      rotate_left
      · have h : (!(a[i].2.2.2 == b[i].2.2.2)) = true := h
        exact bad fun e => by rw [e] at h; simp at h
      have q3 : a[i].2.2.2 = b[i].2.2.2 := by
        have h : (!(a[i].2.2.2 == b[i].2.2.2)) = false := h
        simpa using h
      refine gb_by (dt hin) (gb_by rfl (gb_by (dt hin2) (gb_by rfl (gb_by ?_ (brV_by (fun h => ?_) (fun h => ?_))))))
      · exact and_tt (iv_isI64 _) (and_tt (iv_isI64 _) (lenOk_mk (by show (iv a[i].2.1).length ≤ _; rw [iv_length]; omega)))
      · have h : (!(a[i].2.1 == b[i].2.1)) = true := h
        exact bad fun e => by rw [e] at h; simp at h
      · have q4 : a[i].2.1 = b[i].2.1 := by
          have h : (!(a[i].2.1 == b[i].2.1)) = false := h
          simpa using h
        have he2 : a[i] = b[i] := Prod.ext q1 (Prod.ext q4 (Prod.ext q2 q3))
        exact hL (i + 1) ⟨hlt, take_step hlt (by omega) he he2⟩ (by omega)
    · have hge : ¬ i < a.length := by have := of_decide_eq_false h; omega
      have : (a == b) = true := by rw [beq_iff_eq]; exact take_all (by omega) (by omega) he
      rw [this]
      exact leaveTo (toCut (Eq.mpr (sameF_r _) (Wk.refl _)))
theorem same_ok : EntOk Try.prog sameE := by
  intro xs σ; simp only [sameE]; split
  · rename_i es s t fs s' t'
    intro hc
    simp only [Bool.and_eq_true, hold_eq] at hc
    obtain ⟨h1, h2, h3, h4, h5, h6⟩ := hc
    exact pcall_of (.cons (wk_cks t h1 h3) (.cons (wk_cks t' h2 h4) (.refl _))) (by rw [hold_eq]; exact same_c _ _ (by simpa using lenM_of h5) (ckM_of h6)) (by simp only [noOutL, AVal.noOut, ckv_noOut, Bool.and_true]) (by simp only [noTokL, AVal.noTok, ckv_noTok, Bool.and_true, Tag.below]) rfl rfl
  · trivial
/-! ### put, without, IDs -/
theorem putA_go (l : List Int) (x : Int) (o : List Int) (d : Bool) (i : Nat) (hi : i < l.length) (ho : o.length ≤ 2000000) (K : Exit → St → Prop) (h : K .normal (putI_S l x (o ++ [l[i]]) d i)) : vc Try.prog cPut putA_C K (putA_S l x o d i) := by
  have hn : (iv l).length = l.length := iv_length l
  have hov : (iv o).length = o.length := iv_length o
  refine Eq.mpr (putA_r l x o d i K) ?_
  rw [elemAt_iv l i hi]
  refine gb_by (dt (by omega)) (gb_by rfl (gb_by (dt ⟨dt ⟨rfl, rfl, by omega, by omega⟩, rfl⟩) ?_))
  rw [own_one o l[i], iv_oneG]
  exact h
theorem put_c (l : List Int) (x : Int) (hl : l.length ≤ 1000000) : ACall Try.prog 37 [.slice (iv l) 1 .ro, .int .i64 x] Sto.empty fun r _ => Wk r (.slice (iv (putR l x)) 1 .ro) := by
  refine put_i l x _ (.of_none rfl) ?_
  have hn : (iv l).length = l.length := iv_length l
  unfold putR
  refine loopV_intro (α := List Int × Bool × Nat) (fun s => putL_S l x s.1 s.2.1 s.2.2) (fun s => s.2.2 ≤ l.length ∧ s.1.length ≤ s.2.2 + 1 ∧ (s.2.1 = false → s.1.length ≤ s.2.2) ∧ s.1 ++ putF x s.2.1 (l.drop s.2.2) = putF x false l) (fun s => l.length - s.2.2) ?_ ([], false, 0) ⟨Nat.zero_le _, by simp, by simp, rfl⟩
  rintro ⟨o, d, i⟩ ⟨g1, g2, g3, g4⟩ L hL
  simp only at g1 g2 g3 g4
  have hov : (iv o).length = o.length := iv_length o
  refine Eq.mpr (putL_r l x o d i L _) ?_
  simp only [hold_eq]
  refine brV_by (fun h => ?_) (fun h => ?_)
  · have hlt : i < l.length := by have := of_decide_eq_true h; omega
    have ed : l.drop i = l[i] :: l.drop (i + 1) := List.drop_eq_getElem_cons hlt
    rw [ed, putF] at g4
    rw [elemAt_iv l i hlt]
    have nxt : ∀ (o' : List Int) (d' : Bool), o'.length ≤ i + 2 → (d' = false → o'.length ≤ i + 1) → o' ++ putF x d' (l.drop (i + 1)) = putF x false l → ∀ K : Exit → St → Prop, vc Try.prog cPut putI_C (thenK (fun s => L (St.norm [(5, 1)] [0, 1, 5, 6, 7] [] s)) K) (putI_S l x o' d' i) := by
      intro o' d' q1 q2 q3 K
      refine Eq.mpr (putI_r l x o' d' i _) ?_
      rw [i64_succ hlt (by omega)]
      exact hL (o', d', i + 1) ⟨hlt, q1, q2, q3⟩ (by simp only; omega)
    refine gb_by (dt (by omega)) (gb_by rfl (brV_by (fun hx => ?_) (fun hx => ?_)))
    · have hx : x < l[i] := of_decide_eq_true hx
      refine brV_by (fun hd => ?_) (fun hd => ?_)
      · have hd : d = false := by simpa using hd
        rw [if_pos ⟨hx, hd⟩] at g4
        have := g3 hd
        refine gb_by (dt ⟨dt ⟨trivial, trivial, by omega, by omega⟩, trivial⟩) (toCut ?_)
        rw [own_one o x, iv_one]
        refine putA_go l x (o ++ [x]) true i hlt (by simp; omega) _ (inBlock (toCut (nxt _ true (by simp; omega) (fun h => by cases h) ?_ _)))
        rw [← g4]; simp
      · have hd : d = true := by simpa using hd
        rw [if_neg (by simp [hd])] at g4
        refine toCut (putA_go l x o d i hlt (by omega) _ (inBlock (toCut (nxt _ d (by simp; omega) (fun h => by rw [hd] at h; cases h) ?_ _))))
        rw [← g4]; simp
    · have hx : ¬ x < l[i] := of_decide_eq_false hx
      rw [if_neg (by simp [hx])] at g4
      refine toCut (putA_go l x o d i hlt (by omega) _ (inBlock (toCut (nxt _ d (by simp; omega) (fun h => by have := g3 h; simp; omega) ?_ _))))
      rw [← g4]; simp
  · have hi' : i = l.length := by have := of_decide_eq_false h; omega
    subst hi'
    rw [List.drop_length, putF] at g4
    refine leaveTo (toCut (Eq.mpr (putB_r x o d _) ?_))
    refine brV_by (fun hd => ?_) (fun hd => ?_)
    · have hd : d = false := by simpa using hd
      rw [if_neg (by simp [hd])] at g4
      refine gb_by (dt ⟨dt ⟨rfl, rfl, by omega, by omega⟩, rfl⟩) (toCut ?_)
      rw [own_one o x, iv_one, g4]
      exact Eq.mpr (putF_r _ _) (Wk.ro _ _ _)
    · have hd : d = true := by simpa using hd
      rw [if_pos hd, List.append_nil] at g4
      refine toCut (Eq.mpr (putF_r _ _) ?_)
      rw [← g4]; exact Wk.ro _ _ _
theorem put_ok : EntOk Try.prog putE := by
  intro xs σ; simp only [putE]; split
  · rename_i es s t x
    intro hc
    simp only [Bool.and_eq_true] at hc
    obtain ⟨h1, h2, h3⟩ := hc
    exact pcall_of (.cons (wk_iv t h1 h2) (.refl _)) (put_c _ x (by simpa using lenM_of h3)) (by simp only [noOutL, AVal.noOut, iv_noOut, Bool.and_true]) (by simp only [noTokL, AVal.noTok, iv_noTok, Bool.and_true, Tag.below]) (by simp only [AVal.noOut, iv_noOut]) (by simp only [AVal.noTok, iv_noTok, Tag.below, Bool.and_true])
  · trivial
theorem without_c (l : List Int) (x : Int) (hl : l.length ≤ 1000000) : ACall Try.prog 39 [.slice (iv l) 1 .ro, .int .i64 x] Sto.empty fun r _ => Wk r (.slice (iv (remR l x)) 1 .ro) := by
  refine without_i l x _ (.of_none rfl) ?_
  have hn : (iv l).length = l.length := iv_length l
  have hrS : remR l x = remS l x := rfl
  rw [hrS]
  refine loopV_intro (α := List Int × Nat) (fun s => withoutL_S l x s.1 s.2) (fun s => s.2 ≤ l.length ∧ s.1 = remS (l.take s.2) x) (fun s => l.length - s.2) ?_ ([], 0) ⟨Nat.zero_le _, rfl⟩
  rintro ⟨o, i⟩ ⟨g1, g2⟩ L hL
  simp only at g1 g2
  have hov : (iv o).length = o.length := iv_length o
  have hol : o.length ≤ i := by rw [g2]; exact Nat.le_trans (List.length_filter_le _ _) (List.length_take_le _ _)
  refine Eq.mpr (withoutL_r l x o i L _) ?_
  simp only [hold_eq]
  refine brV_by (fun h => ?_) (fun h => ?_)
  · have hlt : i < l.length := by have := of_decide_eq_true h; omega
    have e1 := remS_take1 l x i hlt
    rw [elemAt_iv l i hlt]
    have nxt : ∀ (o' : List Int), o' = remS (l.take (i + 1)) x → ∀ K : Exit → St → Prop, vc Try.prog cWithout withoutI_C (thenK (fun s => L (St.norm [(5, 1)] [0, 1, 5, 6] [] s)) K) (withoutI_S l x o' i) := by
      intro o' q K
      refine Eq.mpr (withoutI_r l x o' i _) ?_
      rw [i64_succ hlt (by omega)]
      exact hL (o', i + 1) ⟨hlt, q⟩ (by simp only; omega)
    refine gb_by (dt (by omega)) (gb_by rfl (brV_by (fun hx => ?_) (fun hx => ?_)))
    · have hx : l[i] ≠ x := by
        have hx : (l[i] != x) = true := hx
        simpa using hx
      rw [if_neg hx, ← g2] at e1
      refine gb_by (dt (by omega)) (gb_by rfl (gb_by (dt ⟨dt ⟨trivial, trivial, by omega, by omega⟩, trivial⟩) (toCut ?_)))
      rw [own_one o l[i], iv_oneG]
      exact nxt (o ++ [l[i]]) e1.symm _
    · have hx : l[i] = x := by
        have hx : (l[i] != x) = false := hx
        simpa using hx
      rw [if_pos hx, List.append_nil, ← g2] at e1
      exact toCut (nxt o e1.symm _)
  · have hi' : i = l.length := by have := of_decide_eq_false h; omega
    rw [hi', List.take_length] at g2
    refine leaveTo (toCut (Eq.mpr (withoutF_r o _) ?_))
    rw [g2]; exact Wk.ro _ _ _
theorem without_ok : EntOk Try.prog withoutE := by
  intro xs σ; simp only [withoutE]; split
  · rename_i es s t x
    intro hc
    simp only [Bool.and_eq_true] at hc
    obtain ⟨h1, h2, h3⟩ := hc
    exact pcall_of (.cons (wk_iv t h1 h2) (.refl _)) (without_c _ x (by simpa using lenM_of h3)) (by simp only [noOutL, AVal.noOut, iv_noOut, Bool.and_true]) (by simp only [noTokL, AVal.noTok, iv_noTok, Bool.and_true, Tag.below]) (by simp only [AVal.noOut, iv_noOut]) (by simp only [AVal.noTok, iv_noTok, Tag.below, Bool.and_true])
  · trivial
theorem idsR_c (l : List Ck) (hl : l.length ≤ 1000000) (hc : ∀ c ∈ l, c.2.1.length ≤ 1000000) : ACall Try.prog 21 [.slice (ckv l) 4 .ro] Sto.empty fun v _ => Wk v (.slice (iv (idsC l)) 1 .ro) := by
  refine idsR_i l _ (.of_none rfl) ?_
  have hn : (ckv l).length = l.length := ckv_length l
  refine loopV_intro (α := List Int × Nat) (fun s => idsRL_S l s.1 s.2) (fun s => s.2 ≤ l.length ∧ s.1 = idsC (l.take s.2)) (fun s => l.length - s.2) ?_ ([], 0) ⟨Nat.zero_le _, rfl⟩
  rintro ⟨o, i⟩ ⟨g1, g2⟩ L hL
  simp only at g1 g2
  refine Eq.mpr (idsRL_r l o i L _) ?_
  simp only [hold_eq]
  refine brV_by (fun h => ?_) (fun h => ?_)
  · have hlt : i < l.length := by have := of_decide_eq_true h; omega
    have hcl := hc _ (List.getElem_mem hlt)
    have hol := idsC_len (l.take i) 1000000 fun c hx => hc c (List.mem_of_mem_take hx)
    have htl : (l.take i).length = i := by rw [List.length_take]; omega
    rw [htl, ← g2] at hol
    refine loopV_intro (α := List Int × Nat) (fun s => idsRM_S l s.1 i s.2) (fun s => s.2 ≤ l[i].2.1.length ∧ s.1 = o ++ l[i].2.1.take s.2) (fun s => l[i].2.1.length - s.2) ?_ (o, 0) ⟨Nat.zero_le _, by simp⟩
    rintro ⟨u, k⟩ ⟨k1, k2⟩ M hM
    simp only at k1 k2
    refine Eq.mpr (idsRM_r l u i k M _) ?_
    have hil : (iv l[i].2.1).length = l[i].2.1.length := iv_length _
    have huv : (iv u).length = u.length := iv_length u
    have hul : u.length = o.length + k := by rw [k2, List.length_append, List.length_take]; omega
    have ee : AVal.elems (List.getD (List.drop 1 (ckC l[i])) 0 .undef) = iv l[i].2.1 := rfl
    rw [elemAt_ckv l i hlt, ee]
    simp only [hold_eq]
    refine gb_by (dt (by omega)) (gb_by rfl (brV_by (fun h => ?_) (fun h => ?_)))
    · have hk : k < l[i].2.1.length := by have := of_decide_eq_true h; omega
      rw [elemAt_iv _ k hk, i64_succ hk (by omega)]
      refine gb_by (dt (by omega)) (gb_by rfl (gb_by (dt (by omega)) (gb_by rfl (gb_by (dt ⟨dt ⟨trivial, trivial, by omega, by omega⟩, trivial⟩) ?_))))
      rw [own_one u l[i].2.1[k], iv_oneG]
      exact hM (u ++ [l[i].2.1[k]], k + 1) ⟨hk, by simp only; rw [k2, List.append_assoc, List.take_succ_eq_append_getElem hk]⟩ (by simp only; omega)
    · have hk : k = l[i].2.1.length := by have := of_decide_eq_false h; omega
      rw [hk, List.take_length] at k2
      refine leaveK (inBlock (toCut ?_))
      refine Eq.mpr (idsRI_r l u i _) ?_
      rw [i64_succ hlt (by omega)]
      exact hL (u, i + 1) ⟨hlt, by simp only; rw [idsC_take1 l i hlt, k2, g2]⟩ (by simp only; omega)
  · have hi' : i = l.length := by have := of_decide_eq_false h; omega
    rw [hi', List.take_length] at g2
    refine leaveTo (toCut (Eq.mpr (idsRF_r o _) ?_))
    rw [g2]; exact Wk.ro _ _ _
theorem idsR_ok : EntOk Try.prog idsRE := by
  intro xs σ; simp only [idsRE]; split
  · rename_i es s t
    intro hc
    simp only [Bool.and_eq_true] at hc
    obtain ⟨h1, h2, h3, h4⟩ := hc
    exact pcall_of (.cons (wk_cks t h1 h2) (.refl _)) (idsR_c _ (by simpa using lenM_of h3) (ckM_of h4)) (by simp only [noOutL, AVal.noOut, ckv_noOut, Bool.and_true]) (by simp only [noTokL, AVal.noTok, ckv_noTok, Bool.and_true, Tag.below]) (by simp only [AVal.noOut, iv_noOut]) (by simp only [AVal.noTok, iv_noTok, Tag.below, Bool.and_true])
  · trivial
end Go.Proofs.Ytjdjecaclbdhhaa
end
