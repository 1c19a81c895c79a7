/-
  Seat 11 (leaf): an index: what taking out does to it, what a span has, all entries in order (plain).
-/
import Derived.Test.YtlfnmhfmikomkaaIa
import Derived.Test.YtlfnmhfmikomkaaFe
namespace Go.AL
open Go.Proofs.Ytlfnmhfmikomkaa
set_option linter.unusedSimpArgs false
set_option linter.unusedVariables false

/-! ### Places -/
theorem atN_get {l : List Txt} (h : riseL l = true) (s : Txt) (i : Nat) (hi : i < l.length) : tlt s l[i] = false ↔ i < atN l s := by
  rw [atN_pos h s]
  have hp := posN_lt h s i hi
  rcases tlt_total s l[i] with h1 | h1 | h1
  · have h2 := tlt_asymm h1
    have h3 : ¬ i < posN l s := fun h' => by rw [hp.2 h'] at h2; cases h2
    rw [h1]
    constructor
    · intro h; cases h
    · intro h4
      exfalso
      have hc := contains_pos h s
      cases hcs : l.contains s with
      | false => rw [hcs] at h4; simp at h4; omega
      | true =>
        rw [hcs] at h4 hc
        simp only [if_true] at h4
        have hc := hc.symm
        simp only [Bool.and_eq_true, decide_eq_true_eq, beq_iff_eq] at hc
        have e : i = posN l s := by omega
        have : l[i] = s := by rw [← hc.2, List.getD_eq_getElem?_getD]; subst e; rw [List.getElem?_eq_getElem hc.1]; rfl
        rw [this, tlt_irrefl] at h1; cases h1
  · have hc : l.contains s = true := by rw [h1]; simp
    have h2 : tlt l[i] s = false := by rw [← h1]; exact tlt_irrefl _
    have h3 : ¬ i < posN l s := fun h' => by rw [hp.2 h'] at h2; cases h2
    have hs : s ∈ l := by rw [h1]; exact List.getElem_mem hi
    have hle : i ≤ posN l s := by
      rcases Nat.lt_or_ge (posN l s) i with h4 | h4
      · have h5 := riseL_get h h4 hi
        rw [← h1] at h5
        have := (posN_lt h s _ (by omega)).1 h5
        omega
      · exact h4
    rw [hc, ← h1]
    simp only [tlt_irrefl, if_true, true_iff]
    omega
  · have h2 := tlt_asymm h1
    rw [h2]
    have := hp.1 h1
    simp only [true_iff]
    omega
theorem atN_del {l : List Txt} (p : Nat) (hp : p < l.length) (s : Txt) : atN (delL l p) s = atN l s - (if tlt s l[p] then 0 else 1) := by
  have e : l = l.take p ++ l[p] :: l.drop (p + 1) := by rw [List.getElem_cons_drop, List.take_append_drop]
  have key : atN l s = atN (delL l p) s + (if tlt s l[p] then 0 else 1) := by
    unfold atN delL
    conv => lhs; rw [e]
    simp only [List.filter_append, List.filter_cons, List.length_append]
    cases h : tlt s l[p] <;> simp [h] <;> omega
  omega
theorem delL_get {α : Type} {l : List α} {p : Nat} (h : p < l.length) (j : Nat) : (delL l p)[j]? = if j < p then l[j]? else l[j + 1]? := by
  unfold delL
  by_cases h1 : j < p
  · rw [if_pos h1, List.getElem?_append_left (by simp; omega), List.getElem?_take, if_pos h1]
  · rw [if_neg h1, List.getElem?_append_right (by simp; omega), List.length_take, Nat.min_eq_left (by omega), List.getElem?_drop]
    congr 1; omega
theorem delL_sub {α : Type} (l : List α) (i : Nat) : (delL l i).Sublist l := by
  unfold delL
  conv => rhs; rw [← List.take_append_drop i l]
  exact List.Sublist.append (List.Sublist.refl _) (by rw [← List.drop_drop]; exact List.drop_sublist _ _)
/-! ### A leaf goes -/
theorem Idx.drop {r : Root} {f : Int → Lf} (h : Idx r f) {k : Nat} (hk : k < r.2.length) (h2 : r.2.length ≠ 1) :
    Idx (delL r.1 (min k (r.1.length - 1)), delL r.2 k) f := by
  obtain ⟨g1, g2, g3, g4⟩ := rootB_iff.1 h.root
  have hkp : min k (r.1.length - 1) < r.1.length := by omega
  refine ⟨rootB_iff.2 ⟨?_, rise_del g2 _, fun n hn => g3 n ((delL_sub _ _).mem hn), g4.sublist (delL_sub _ _)⟩, fun j hj => ?_⟩
  · show (delL r.2 k).length = (delL r.1 _).length + 1
    rw [delL_length _ _ hk, delL_length _ _ hkp]; omega
  · have hj' : j < (delL r.2 k).length := hj
    have hg := delL_get hk j
    rw [List.getElem?_eq_getElem hj'] at hg
    have hjl : j < r.2.length - 1 := by rw [delL_length _ _ hk] at hj'; exact hj'
    show lfB (f (delL r.2 k)[j]) = true ∧ (f (delL r.2 k)[j]).1 = (delL r.2 k)[j] ∧ ∀ s ∈ (f (delL r.2 k)[j]).2.1, atN (delL r.1 (min k (r.1.length - 1))) s = j
    generalize (delL r.2 k)[j] = n at hg ⊢
    by_cases c : j < k
    · rw [if_pos c, List.getElem?_eq_getElem (show j < r.2.length by omega)] at hg
      obtain rfl : n = r.2[j] := Option.some.inj hg
      obtain ⟨a1, a2, a3⟩ := h.leaf j (by omega)
      refine ⟨a1, a2, fun x hx => ?_⟩
      have hx3 := a3 x hx
      rw [atN_del _ hkp]
      have : tlt x r.1[min k (r.1.length - 1)] = true := by
        cases hc : tlt x r.1[min k (r.1.length - 1)] with
        | true => rfl
        | false => have := (atN_get g2 x _ hkp).1 hc; omega
      rw [this, hx3]; rfl
    · rw [if_neg c, List.getElem?_eq_getElem (show j + 1 < r.2.length by omega)] at hg
      obtain rfl : n = r.2[j + 1] := Option.some.inj hg
      obtain ⟨a1, a2, a3⟩ := h.leaf (j + 1) (by omega)
      refine ⟨a1, a2, fun x hx => ?_⟩
      have hx3 := a3 x hx
      rw [atN_del _ hkp]
      have : tlt x r.1[min k (r.1.length - 1)] = false := (atN_get g2 x _ hkp).2 (by omega)
      rw [this, hx3]
      show j + 1 - 1 = j
      omega
theorem Idx.upd_out {r : Root} {f : Int → Lf} (h : Idx r f) {l : Lf} (hl : l.1 ∉ r.2) : Idx r (upd f l) := by
  refine ⟨h.root, fun i hi => ?_⟩
  have : ¬ r.2[i] = l.1 := fun e => hl (by rw [← e]; exact List.getElem_mem _)
  simp only [upd, this, if_false]
  exact h.leaf i hi
theorem Idx.has_mem {r : Root} {f : Int → Lf} (s : Txt) : Idx.has r f s ↔ ∃ n ∈ r.2, s ∈ (f n).2.1 := by
  constructor
  · rintro ⟨i, hi, hs⟩; exact ⟨_, List.getElem_mem hi, hs⟩
  · rintro ⟨n, hn, hs⟩
    obtain ⟨i, hi, rfl⟩ := List.getElem_of_mem hn
    exact ⟨i, hi, hs⟩
theorem Idx.has_congr {r : Root} {f g : Int → Lf} (h : ∀ n ∈ r.2, f n = g n) (s : Txt) : Idx.has r f s ↔ Idx.has r g s := by
  rw [Idx.has_mem, Idx.has_mem]
  exact ⟨fun ⟨n, hn, hs⟩ => ⟨n, hn, by rw [← h n hn]; exact hs⟩, fun ⟨n, hn, hs⟩ => ⟨n, hn, by rw [h n hn]; exact hs⟩⟩
theorem nodup_del {l : List Int} (h : l.Nodup) {k : Nat} (hk : k < l.length) (n : Int) : n ∈ delL l k ↔ n ∈ l ∧ n ≠ l[k] := by
  have e : l = l.take k ++ l[k] :: l.drop (k + 1) := by rw [List.getElem_cons_drop, List.take_append_drop]
  have hp2 := h
  rw [e] at hp2
  have hp2 := List.pairwise_append.1 hp2
  have hp3 := List.pairwise_cons.1 hp2.2.1
  unfold delL
  constructor
  · intro hy
    rcases List.mem_append.1 hy with hy | hy
    · exact ⟨List.mem_of_mem_take hy, hp2.2.2 n hy _ (List.mem_cons_self ..)⟩
    · exact ⟨List.mem_of_mem_drop hy, (hp3.1 n hy).symm⟩
  · rintro ⟨hy, hne⟩
    rw [e] at hy
    rcases List.mem_append.1 hy with hy | hy
    · exact List.mem_append_left _ hy
    · rcases List.mem_cons.1 hy with hy | hy
      · exact (hne hy).elim
      · exact List.mem_append_right _ hy
/-- A text that isn't there. -/
theorem Idx.rem_none {r : Root} {f : Int → Lf} (h : Idx r f) {s : Txt} (hc : (f (findN r s)).2.1.contains s = false) : remN r (f (findN r s)) s = errC 101 := by
  simp only [remN, h.own s, hc, if_true, Bool.false_eq_true, if_false]
theorem Idx.ins_twice {r : Root} {f : Int → Lf} (h : Idx r f) {s : Txt} (hs : s.length ≤ 600) (hc : (f (findN r s)).2.1.contains s = true) : insN r (f (findN r s)) s = errC 31 := by
  have h6 : ¬ 600 < s.length := by omega
  simp only [insN, h.own s, h6, hc, if_true, if_false]
/-- A text is taken out, and the leaf stays. -/
theorem Idx.rem_stay {r : Root} {f : Int → Lf} (h : Idx r f) {s : Txt} (hc : (f (findN r s)).2.1.contains s = true) {es : List Txt}
    (hes : es = delL (f (findN r s)).2.1 (posN (f (findN r s)).2.1 s)) (hr : 0 < es.length ∨ r.2.length = 1) :
    remN r (f (findN r s)) s = (r, [(findN r s, es, false)], 0) ∧
      Idx r (upd f (findN r s, es, false)) ∧
      ∀ x, Idx.has r (upd f (findN r s, es, false)) x ↔ x ≠ s ∧ Idx.has r f x := by
  have ho := h.own s
  have hlt := h.at_lt s
  have hf := h.find s
  obtain ⟨a1, a2, a3⟩ := h.leaf _ hlt
  have hno : (f (findN r s)).1 = findN r s := by rw [hf]; exact a2
  obtain ⟨b1, b2, b3⟩ := lfB_iff.1 (ownB_iff.1 ho).1
  have hp := posN_lt_len b3 hc
  have hsm : (f (findN r s)).2.1[posN (f (findN r s)).2.1 s] = s := by
    have := contains_pos b3 s
    rw [hc] at this
    have := this.symm
    simp only [Bool.and_eq_true, decide_eq_true_eq, beq_iff_eq] at this
    have h2 := this.2
    rw [List.getD_eq_getElem?_getD, List.getElem?_eq_getElem hp] at h2
    exact h2
  have hmem : ∀ x, x ∈ es ↔ x ∈ (f (findN r s)).2.1 ∧ x ≠ s := fun x => by
    rw [hes, mem_delL b3 hp]
    constructor
    · rintro ⟨h1, h2⟩; exact ⟨h1, fun e => h2 (e.trans hsm.symm)⟩
    · rintro ⟨h1, h2⟩; exact ⟨h1, fun e => h2 (e.trans hsm)⟩
  have hri : riseL es = true := by rw [hes]; exact rise_del b3 _
  have hl4 : es.length ≤ 4 := by rw [hes, delL_length _ _ hp]; omega
  have hat : ∀ x ∈ es, atN r.1 x = atN r.1 s := fun x hx => by
    have := ((hmem x).1 hx).1
    rw [hf] at this; exact a3 x this
  have e : remN r (f (findN r s)) s = (r, [(findN r s, es, false)], 0) := by
    simp only [remN, ho, hc, hno, if_true, ← hes]
    rw [if_pos hr]
  have hI := h.set hlt hl4 hri hat
  rw [← hf] at hI
  refine ⟨e, hI, fun x => ?_⟩
  have hh := fun es => Idx.set_has h hlt (es := es) (x := x)
  rw [← hf] at hh
  rw [hh _ hI]
  by_cases ex : atN r.1 x = atN r.1 s
  · rw [if_pos ex, hmem, h.has_iff]
    have : findN r x = findN r s := by rw [h.find x, hf]; simp only [ex]
    rw [this]
    exact And.comm
  · rw [if_neg ex]
    exact ⟨fun hx => ⟨fun e => ex (by rw [e]), hx⟩, fun hx => hx.2⟩
/-- A text is taken out, and the leaf goes. -/
theorem Idx.rem_gone {r : Root} {f : Int → Lf} (h : Idx r f) {s : Txt} (hc : (f (findN r s)).2.1.contains s = true)
    (hr : ¬ (0 < (delL (f (findN r s)).2.1 (posN (f (findN r s)).2.1 s)).length ∨ r.2.length = 1)) :
    remN r (f (findN r s)) s = ((delL r.1 (min (atN r.1 s) (r.1.length - 1)), delL r.2 (atN r.1 s)), [(findN r s, [], true)], 0) ∧
      Idx (delL r.1 (min (atN r.1 s) (r.1.length - 1)), delL r.2 (atN r.1 s)) f ∧ findN r s ∉ delL r.2 (atN r.1 s) ∧
      ∀ x, Idx.has (delL r.1 (min (atN r.1 s) (r.1.length - 1)), delL r.2 (atN r.1 s)) f x ↔ x ≠ s ∧ Idx.has r f x := by
  have ho := h.own s
  have hlt := h.at_lt s
  have hf := h.find s
  obtain ⟨a1, a2, a3⟩ := h.leaf _ hlt
  have hno : (f (findN r s)).1 = findN r s := by rw [hf]; exact a2
  obtain ⟨b1, b2, b3⟩ := lfB_iff.1 (ownB_iff.1 ho).1
  have hp := posN_lt_len b3 hc
  have h2 : r.2.length ≠ 1 := fun e => hr (.inr e)
  have h1 : (f (findN r s)).2.1.length = 1 := by
    have := delL_length (f (findN r s)).2.1 _ hp
    have h0 : ¬ 0 < (delL (f (findN r s)).2.1 (posN (f (findN r s)).2.1 s)).length := fun e => hr (.inl e)
    omega
  have hs : s ∈ (f (findN r s)).2.1 := by simpa using hc
  have honly : ∀ x ∈ (f (findN r s)).2.1, x = s := fun x hx => by
    obtain ⟨y, hy⟩ := List.length_eq_one_iff.1 h1
    rw [hy] at hx hs
    simp only [List.mem_singleton] at hx hs
    rw [hx, hs]
  have hn := (rootB_iff.1 h.root).2.2.2
  have hg : ∀ n, n ∈ delL r.2 (atN r.1 s) ↔ n ∈ r.2 ∧ n ≠ findN r s := fun n => by rw [nodup_del hn hlt, hf]
  refine ⟨?_, h.drop hlt h2, fun hm => ((hg _).1 hm).2 rfl, fun x => ?_⟩
  · simp only [remN, ho, hc, hno, if_true]
    rw [if_neg hr]
  · rw [Idx.has_mem, Idx.has_mem]
    constructor
    · rintro ⟨n, hn1, hx⟩
      obtain ⟨hn2, hn3⟩ := (hg n).1 hn1
      refine ⟨fun e => ?_, n, hn2, hx⟩
      obtain ⟨i, hi, rfl⟩ := List.getElem_of_mem hn2
      have := (h.leaf i hi).2.2 x hx
      apply hn3
      rw [hf]
      subst e
      simp only [this]
    · rintro ⟨hne, n, hn1, hx⟩
      exact ⟨n, (hg n).2 ⟨hn1, fun e => hne (honly x (by rw [← e]; exact hx))⟩, hx⟩
/-! ### All entries, in order -/
def allT (r : Root) (f : Int → Lf) : List Txt := r.2.flatMap fun n => (f n).2.1
theorem mem_allT {r : Root} {f : Int → Lf} (s : Txt) : s ∈ allT r f ↔ Idx.has r f s := by
  rw [Idx.has_mem, allT, List.mem_flatMap]
theorem rise_flat (f : Int → List Txt) : ∀ (l : List Int), (∀ i (h : i < l.length), riseL (f l[i]) = true) → (∀ i j (hi : i < l.length) (hj : j < l.length), i < j → ∀ x ∈ f l[i], ∀ y ∈ f l[j], tlt x y = true) → riseL (l.flatMap f) = true
  | [], _, _ => rfl
  | n :: l, h1, h2 => by
    have ih := rise_flat f l (fun i hi => h1 (i + 1) (by simp; omega)) fun i j hi hj hij => h2 (i + 1) (j + 1) (by simp; omega) (by simp; omega) (by omega)
    rw [riseL_pw] at ih ⊢
    rw [List.flatMap_cons, List.pairwise_append]
    refine ⟨riseL_pw.1 (h1 0 (by simp)), ih, fun x hx y hy => ?_⟩
    obtain ⟨m, hm, hy⟩ := List.mem_flatMap.1 hy
    obtain ⟨j, hj, rfl⟩ := List.getElem_of_mem hm
    exact h2 0 (j + 1) (by simp) (by simp; omega) (by omega) x hx y hy
theorem Idx.lt {r : Root} {f : Int → Lf} (h : Idx r f) {i j : Nat} (hi : i < r.2.length) (hj : j < r.2.length) (hij : i < j) {x y : Txt} (hx : x ∈ (f r.2[i]).2.1) (hy : y ∈ (f r.2[j]).2.1) : tlt x y = true := by
  have h1 := (h.leaf i hi).2.2 x hx
  have h2 := (h.leaf j hj).2.2 y hy
  rcases tlt_total x y with c | c | c
  · exact c
  · rw [c] at h1; omega
  · have := atN_mono (l := r.1) c; omega
theorem Idx.rise {r : Root} {f : Int → Lf} (h : Idx r f) : riseL (allT r f) = true :=
  rise_flat (fun n => (f n).2.1) r.2 (fun i hi => (lfB_iff.1 (h.leaf i hi).1).2.2) fun i j hi hj hij x hx y hy => h.lt hi hj hij hx hy
theorem rise_ext {a b : List Txt} (ha : riseL a = true) (hb : riseL b = true) (h : ∀ x, x ∈ a ↔ x ∈ b) : a = b := by
  induction a generalizing b with
  | nil =>
    cases b with
    | nil => rfl
    | cons y b => exact absurd ((h y).2 (List.mem_cons_self ..)) List.not_mem_nil
  | cons x a ih =>
    cases b with
    | nil => exact absurd ((h x).1 (List.mem_cons_self ..)) List.not_mem_nil
    | cons y b =>
      have ha' := List.pairwise_cons.1 (riseL_pw.1 ha)
      have hb' := List.pairwise_cons.1 (riseL_pw.1 hb)
      have e : x = y := by
        rcases List.mem_cons.1 ((h x).1 (List.mem_cons_self ..)) with e | e
        · exact e
        rcases List.mem_cons.1 ((h y).2 (List.mem_cons_self ..)) with e' | e'
        · exact e'.symm
        have := tlt_asymm (ha'.1 _ e')
        rw [hb'.1 _ e] at this; cases this
      subst e
      congr 1
      refine ih (riseL_pw.2 ha'.2) (riseL_pw.2 hb'.2) fun z => ?_
      constructor
      · intro hz
        rcases List.mem_cons.1 ((h z).1 (List.mem_cons_of_mem _ hz)) with e | e
        · have := ha'.1 _ hz; rw [e, tlt_irrefl] at this; cases this
        · exact e
      · intro hz
        rcases List.mem_cons.1 ((h z).2 (List.mem_cons_of_mem _ hz)) with e | e
        · have := hb'.1 _ hz; rw [e, tlt_irrefl] at this; cases this
        · exact e
/-! ### What a span has -/
def inS (a b : Txt) (x : Txt) : Bool := !tlt x a && tlt x b
def spanF (f : Int → Lf) (a b : Txt) (l : List Int) : List Txt := l.flatMap fun n => (f n).2.1.filter (inS a b)
theorem spanF_all (r : Root) (f : Int → Lf) (a b : Txt) : spanF f a b r.2 = (allT r f).filter (inS a b) := by
  unfold spanF allT
  generalize r.2 = l
  induction l with
  | nil => rfl
  | cons n l ih => simp only [List.flatMap_cons, List.filter_append, ih]
theorem spanF_append (f : Int → Lf) (a b : Txt) (l m : List Int) : spanF f a b (l ++ m) = spanF f a b l ++ spanF f a b m := by
  unfold spanF; exact List.flatMap_append
theorem spanF_nil {f : Int → Lf} {a b : Txt} : ∀ {l : List Int}, (∀ n ∈ l, ∀ x ∈ (f n).2.1, inS a b x = false) → spanF f a b l = []
  | [], _ => rfl
  | n :: l, h => by
    have e : (f n).2.1.filter (inS a b) = [] := List.filter_eq_nil_iff.2 fun x hx => by rw [h n (List.mem_cons_self ..) x hx]; simp
    show (f n).2.1.filter (inS a b) ++ spanF f a b l = []
    rw [e, spanF_nil fun m hm => h m (List.mem_cons_of_mem _ hm)]; rfl
theorem inS_false_lt {a b x : Txt} (h : tlt x a = true) : inS a b x = false := by simp [inS, h]
theorem inS_false_ge {a b x : Txt} (h : tlt x b = false) : inS a b x = false := by simp [inS, h]
theorem Idx.span {r : Root} {f : Int → Lf} (h : Idx r f) (a b : Txt) : spanF f a b (rangeN r a b) = spanF f a b r.2 := by
  obtain ⟨g1, g2, g3, g4⟩ := rootB_iff.1 h.root
  unfold rangeN
  by_cases hab : tlt a b = true
  · rw [if_pos ⟨h.root, hab⟩]
    have hle : atN r.1 a ≤ posN r.1 b := atN_le_posN hab
    have hp := posN_le r.1 b
    have e : r.2 = r.2.take (atN r.1 a) ++ ((r.2.drop (atN r.1 a)).take (posN r.1 b + 1 - atN r.1 a) ++ r.2.drop (posN r.1 b + 1)) := by
      have e2 : r.2.drop (posN r.1 b + 1) = (r.2.drop (atN r.1 a)).drop (posN r.1 b + 1 - atN r.1 a) := by
        rw [List.drop_drop]; congr 1; omega
      rw [e2, List.take_append_drop, List.take_append_drop]
    conv => rhs; rw [e]
    rw [spanF_append, spanF_append]
    have n1 : spanF f a b (r.2.take (atN r.1 a)) = [] := spanF_nil fun n hn x hx => by
      obtain ⟨i, hi, rfl⟩ := List.mem_take_iff_getElem.1 hn
      have hi1 : i < r.2.length := by omega
      have := (h.leaf i hi1).2.2 x hx
      refine inS_false_lt ?_
      cases c : tlt x a with
      | true => rfl
      | false => have := atN_le_of (l := r.1) c; omega
    have n2 : spanF f a b (r.2.drop (posN r.1 b + 1)) = [] := spanF_nil fun n hn x hx => by
      obtain ⟨i, hi, e⟩ := List.getElem_of_mem hn
      rw [List.length_drop] at hi
      rw [List.getElem_drop] at e
      subst e
      have := (h.leaf _ (by omega)).2.2 x hx
      refine inS_false_ge ?_
      cases c : tlt x b with
      | false => rfl
      | true => have := atN_le_posN (l := r.1) c; omega
    rw [n1, n2]; simp
  · rw [if_neg (fun h => hab h.2)]
    symm
    refine spanF_nil fun n hn x hx => ?_
    cases c : inS a b x with
    | false => rfl
    | true =>
      exfalso
      simp only [inS, Bool.and_eq_true, Bool.not_eq_true'] at c
      rcases tlt_total a x with h1 | h1 | h1
      · exact hab (tlt_trans h1 c.2)
      · rw [h1] at hab; exact hab c.2
      · rw [c.1] at h1; cases h1
/-- No leaf is empty, but an only one. -/
def Full (r : Root) (f : Int → Lf) : Prop := r.2.length ≠ 1 → ∀ n ∈ r.2, (f n).2.1 ≠ []
theorem Full.none {r : Root} {f : Int → Lf} (h : Idx r f) (hf : Full r f) (hn : ∀ x, ¬ Idx.has r f x) : r.2.length = 1 ∧ r.1.length = 0 ∧ (f (r.2.getD 0 0)).2.1 = [] := by
  obtain ⟨g1, g2, g3, g4⟩ := rootB_iff.1 h.root
  have hempty : ∀ n ∈ r.2, (f n).2.1 = [] := fun n hm => by
    cases e : (f n).2.1 with
    | nil => rfl
    | cons x l => exact (hn x ((Idx.has_mem x).2 ⟨n, hm, by rw [e]; exact List.mem_cons_self ..⟩)).elim
  have h1 : r.2.length = 1 := by
    apply Decidable.byContradiction
    intro hne
    have hm : r.2[0]'(by omega) ∈ r.2 := List.getElem_mem _
    exact hf hne _ hm (hempty _ hm)
  refine ⟨h1, by omega, hempty _ ?_⟩
  rw [List.getD_eq_getElem?_getD, List.getElem?_eq_getElem (by omega : 0 < r.2.length)]
  exact List.getElem_mem _
/-- An index of nothing. -/
theorem idx_empty {f : Int → Lf} (h : f 1 = (1, [], false)) : Idx ([], [1]) f := by
  refine ⟨by decide, fun i hi => ?_⟩
  obtain rfl : i = 0 := by simpa using hi
  simp only [List.getElem_cons_zero, h]
  exact ⟨by decide, trivial, fun s hs => absurd hs List.not_mem_nil⟩
end Go.AL
