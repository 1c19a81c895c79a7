/-
  Seat 11 (leaf): texts in order, roots, leaves: plain definitions and laws.
-/
import Derived.Test.YtlfnmhfmikomkaaH
import Derived.Test.YtlfnmhfmikomkaaA16
import Derived.Test.YtlfnmhfmikomkaaB0
namespace Go.AL
set_option linter.unusedSimpArgs false
set_option linter.unusedVariables false

abbrev Txt := List UInt8

/-! ### Texts in order -/
def tlt (a b : Txt) : Bool := Op.bytesLess a b
theorem tlt_nil_right (a : Txt) : tlt a [] = false := by cases a <;> rfl
theorem tlt_nil_cons (b : UInt8) (y : Txt) : tlt [] (b :: y) = true := rfl
theorem tlt_cons (a b : UInt8) (x y : Txt) : tlt (a :: x) (b :: y) = (decide (a < b) || (a == b && tlt x y)) := rfl
theorem u8_lt_irrefl (a : UInt8) : ¬ a < a := fun h => by have : a.toNat < a.toNat := h; omega
theorem tlt_irrefl : ∀ a : Txt, tlt a a = false
  | [] => rfl
  | a :: x => by rw [tlt_cons, tlt_irrefl x]; simp [u8_lt_irrefl]
theorem u8_trich (a b : UInt8) : a < b ∨ a = b ∨ b < a := by
  have : a.toNat < b.toNat ∨ a.toNat = b.toNat ∨ b.toNat < a.toNat := by omega
  rcases this with h | h | h
  · exact .inl h
  · exact .inr (.inl (UInt8.toNat_inj.1 h))
  · exact .inr (.inr h)
theorem tlt_total : ∀ a b : Txt, tlt a b = true ∨ a = b ∨ tlt b a = true
  | [], [] => .inr (.inl rfl)
  | [], _ :: _ => .inl rfl
  | _ :: _, [] => .inr (.inr rfl)
  | a :: x, b :: y => by
    rw [tlt_cons, tlt_cons]
    rcases u8_trich a b with h | h | h
    · simp [h]
    · subst h
      rcases tlt_total x y with h | h | h
      · simp [h]
      · simp [h]
      · simp [h]
    · simp [h]
theorem tlt_trans : ∀ {a b c : Txt}, tlt a b = true → tlt b c = true → tlt a c = true
  | _, [], _, h, _ => by rw [tlt_nil_right] at h; cases h
  | _, _ :: _, [], _, h => by rw [tlt_nil_right] at h; cases h
  | [], _ :: _, _ :: _, _, _ => rfl
  | a :: x, b :: y, c :: z, h, k => by
    rw [tlt_cons] at h k ⊢
    simp only [Bool.or_eq_true, Bool.and_eq_true, decide_eq_true_eq, beq_iff_eq] at h k ⊢
    rcases h with h | ⟨rfl, h⟩
    · rcases k with k | ⟨rfl, k⟩
      · left; have h : a.toNat < b.toNat := h; have k : b.toNat < c.toNat := k; show a.toNat < c.toNat; omega
      · exact .inl h
    · rcases k with k | ⟨rfl, k⟩
      · exact .inl k
      · exact .inr ⟨rfl, tlt_trans h k⟩
theorem tlt_asymm {a b : Txt} (h : tlt a b = true) : tlt b a = false := by
  cases hb : tlt b a with
  | false => rfl
  | true => have := tlt_trans h hb; rw [tlt_irrefl] at this; cases this
theorem tlt_ne {a b : Txt} (h : tlt a b = true) : a ≠ b := by rintro rfl; rw [tlt_irrefl] at h; cases h
theorem tlt_append (p x y : Txt) : tlt (p ++ x) (p ++ y) = tlt x y := by
  induction p with
  | nil => rfl
  | cons a p ih => simp only [List.cons_append, tlt_cons, ih]; simp [u8_lt_irrefl]
/-- a is not above b. -/
theorem tle_iff (a b : Txt) : (tlt a b || a == b) = !tlt b a := by
  rcases tlt_total a b with h | rfl | h
  · simp [h, tlt_asymm h]
  · simp [tlt_irrefl]
  · have := tlt_ne h
    simp [h, tlt_asymm h, this.symm]
def sgnN (b : Bool) : Int := if b then -1 else 1
def ordT (a b : Txt) : Int := if a = b then 0 else if tlt a b then -1 else 1
theorem ordT_eq (a b : Txt) : ordT a b = 0 ↔ a = b := by
  unfold ordT
  by_cases h : a = b
  · simp [h]
  · rw [if_neg h]; split <;> simp [h]
theorem ordT_lt (a b : Txt) : (decide (ordT a b < 0)) = tlt a b := by
  unfold ordT
  by_cases h : a = b
  · subst h; simp [tlt_irrefl]
  · rw [if_neg h]; cases tlt a b <;> simp
theorem ordT_ge (a b : Txt) : (decide (0 ≤ ordT a b)) = !tlt a b := by
  rw [← ordT_lt]
  by_cases h : ordT a b < 0
  · have : ¬ 0 ≤ ordT a b := by omega
    simp [h, this]
  · have : 0 ≤ ordT a b := by omega
    simp [h, this]
theorem ordT_le (a b : Txt) : (decide (ordT a b ≤ 0)) = !tlt b a := by
  unfold ordT
  rcases tlt_total a b with h | rfl | h
  · simp [h, tlt_asymm h, tlt_ne h]
  · simp [tlt_irrefl]
  · simp [h, tlt_asymm h, (tlt_ne h).symm]
theorem ordT_ge' {a b : Txt} : 0 ≤ ordT a b ↔ tlt a b = false := by
  have := ordT_ge a b
  rw [Bool.eq_iff_iff] at this
  simpa using this
theorem ordT_lt' {a b : Txt} : ordT a b < 0 ↔ tlt a b = true := by
  have := ordT_lt a b
  rw [Bool.eq_iff_iff] at this
  simpa using this
theorem ordT_le' {a b : Txt} : ordT a b ≤ 0 ↔ tlt b a = false := by
  have := ordT_le a b
  rw [Bool.eq_iff_iff] at this
  simpa using this
theorem ordT_append (p x y : Txt) : ordT (p ++ x) (p ++ y) = ordT x y := by
  unfold ordT
  rw [tlt_append]
  simp
theorem ordT_drop {a b : Txt} {i : Nat} (h : a.take i = b.take i) : ordT a b = ordT (a.drop i) (b.drop i) := by
  conv => lhs; rw [← List.take_append_drop i a, ← List.take_append_drop i b, h]
  exact ordT_append _ _ _
theorem ordT_cons {a b : UInt8} (h : a ≠ b) (x y : Txt) : ordT (a :: x) (b :: y) = sgnN (decide (a < b)) := by
  unfold ordT sgnN
  rw [if_neg (by simp [h]), tlt_cons]
  simp [h]

/-! ### Lists that rise -/
def riseL : List Txt → Bool
  | a :: b :: r => tlt a b && riseL (b :: r)
  | _ => true
theorem riseL_pw : ∀ {l : List Txt}, riseL l = true ↔ l.Pairwise (fun a b => tlt a b = true)
  | [] => by simp [riseL]
  | [a] => by simp [riseL]
  | a :: b :: r => by
    have ih := riseL_pw (l := b :: r)
    simp only [riseL, Bool.and_eq_true]
    rw [ih, List.pairwise_cons (a := a)]
    constructor
    · rintro ⟨h1, h2⟩
      refine ⟨fun x hx => ?_, h2⟩
      rcases List.mem_cons.1 hx with rfl | hx
      · exact h1
      · exact tlt_trans h1 ((List.pairwise_cons.1 h2).1 x hx)
    · rintro ⟨h1, h2⟩
      exact ⟨h1 b (by simp), h2⟩
theorem riseL_get {l : List Txt} (h : riseL l = true) {i j : Nat} (hij : i < j) (hj : j < l.length) : tlt (l[i]'(by omega)) l[j] = true :=
  List.pairwise_iff_getElem.1 (riseL_pw.1 h) i j (by omega) hj hij
theorem riseL_of {l : List Txt} (h : ∀ i (hi : i + 1 < l.length), tlt l[i] l[i + 1] = true) : riseL l = true := by
  induction l with
  | nil => rfl
  | cons a l ih =>
    cases l with
    | nil => rfl
    | cons b r =>
      simp only [riseL, Bool.and_eq_true]
      refine ⟨h 0 (by simp), ih fun i hi => ?_⟩
      have := h (i + 1) (by simp at hi ⊢; omega)
      simpa using this
theorem riseL_sub {l m : List Txt} (hs : m.Sublist l) (h : riseL l = true) : riseL m = true := riseL_pw.2 ((riseL_pw.1 h).sublist hs)
theorem riseL_nodup {l : List Txt} (h : riseL l = true) : l.Nodup := (riseL_pw.1 h).imp fun h => tlt_ne h

/-- How many are below s. -/
def posN (l : List Txt) (s : Txt) : Nat := (l.filter (fun x => tlt x s)).length
theorem posN_le (l : List Txt) (s : Txt) : posN l s ≤ l.length := List.length_filter_le _ _
theorem posN_lt : ∀ {l : List Txt}, riseL l = true → ∀ (s : Txt) (i : Nat) (hi : i < l.length), tlt l[i] s = true ↔ i < posN l s
  | a :: l, h, s, i, hi => by
    have hp := riseL_pw.1 h
    rw [List.pairwise_cons] at hp
    unfold posN
    cases ha : tlt a s with
    | true =>
      rw [List.filter_cons_of_pos (p := fun x => tlt x s) ha]
      cases i with
      | zero => simp [ha]
      | succ i =>
        have ih := posN_lt (riseL_pw.2 hp.2) s i (by simpa using hi)
        simp only [List.getElem_cons_succ, List.length_cons]
        rw [ih]
        unfold posN
        omega
    | false =>
      rw [List.filter_cons_of_neg (by simp [ha])]
      have hall : l.filter (fun x => tlt x s) = [] := by
        rw [List.filter_eq_nil_iff]
        intro x hx hxs
        have := tlt_trans (hp.1 x hx) hxs
        rw [ha] at this; cases this
      rw [hall]
      simp only [List.length_nil, Nat.not_lt_zero, iff_false]
      cases i with
      | zero => simp [ha]
      | succ i =>
        intro hx
        simp only [List.getElem_cons_succ] at hx
        have := tlt_trans (hp.1 _ (List.getElem_mem (by simpa using hi))) hx
        rw [ha] at this; cases this
theorem posN_uniq {l : List Txt} (h : riseL l = true) {s : Txt} {p : Nat} (hp : p ≤ l.length) (h1 : ∀ i (hi : i < l.length), i < p → tlt l[i] s = true) (h2 : ∀ i (hi : i < l.length), p ≤ i → tlt l[i] s = false) : posN l s = p := by
  have hle := posN_le l s
  rcases Nat.lt_trichotomy (posN l s) p with h3 | h3 | h3
  · have := h1 (posN l s) (by omega) h3
    rw [posN_lt h] at this; omega
  · exact h3
  · have := h2 p (by omega) (Nat.le_refl _)
    have h4 := (posN_lt h s p (by omega)).2 h3
    rw [this] at h4; cases h4
theorem contains_pos {l : List Txt} (h : riseL l = true) (s : Txt) : l.contains s = (decide (posN l s < l.length) && (l.getD (posN l s) [] == s)) := by
  rw [Bool.eq_iff_iff]
  simp only [List.contains_iff_mem, Bool.and_eq_true, decide_eq_true_eq, beq_iff_eq]
  constructor
  · intro hm
    obtain ⟨i, hi, rfl⟩ := List.mem_iff_getElem.1 hm
    have e : posN l l[i] = i := posN_uniq h (by omega) (fun j hj hji => riseL_get h hji hi) (fun j hj hij => by
      rcases Nat.lt_or_ge i j with h1 | h1
      · exact tlt_asymm (riseL_get h h1 hj)
      · obtain rfl : i = j := by omega
        exact tlt_irrefl _)
    rw [e]
    exact ⟨hi, by simp [List.getD, hi]⟩
  · rintro ⟨h1, h2⟩
    rw [List.getD_eq_getElem?_getD, List.getElem?_eq_getElem h1] at h2
    simp only [Option.getD_some] at h2
    rw [← h2]; exact List.getElem_mem _
/-- The place of a text's leaf: how many separators aren't above it. -/
def atN (l : List Txt) (s : Txt) : Nat := (l.filter (fun x => !tlt s x)).length
theorem atN_le (l : List Txt) (s : Txt) : atN l s ≤ l.length := List.length_filter_le _ _
theorem atN_pos {l : List Txt} (h : riseL l = true) (s : Txt) : atN l s = posN l s + (if l.contains s then 1 else 0) := by
  induction l with
  | nil => rfl
  | cons a l ih =>
    have hp := riseL_pw.1 h
    rw [List.pairwise_cons] at hp
    have ih := ih (riseL_pw.2 hp.2)
    unfold atN posN at *
    rcases tlt_total a s with h1 | rfl | h1
    · rw [List.filter_cons_of_pos (by simp [tlt_asymm h1]), List.filter_cons_of_pos (p := fun x => tlt x s) h1]
      simp only [List.length_cons, ih, List.contains_cons]
      have : (s == a) = false := by simp [(tlt_ne h1).symm]
      rw [this, Bool.false_or]
      omega
    · rw [List.filter_cons_of_pos (by simp [tlt_irrefl]), List.filter_cons_of_neg (by simp [tlt_irrefl])]
      have hall : l.filter (fun x => tlt x a) = [] := by
        rw [List.filter_eq_nil_iff]
        intro x hx hxs
        rw [tlt_asymm (hp.1 x hx)] at hxs; cases hxs
      have hall2 : l.filter (fun x => !tlt a x) = [] := by
        rw [List.filter_eq_nil_iff]
        intro x hx hxs
        rw [hp.1 x hx] at hxs; cases hxs
      rw [hall, hall2]
      simp
    · rw [List.filter_cons_of_neg (by simp [h1]), List.filter_cons_of_neg (by simp [tlt_asymm h1])]
      have hall : l.filter (fun x => tlt x s) = [] := by
        rw [List.filter_eq_nil_iff]
        intro x hx hxs
        have := tlt_trans h1 (hp.1 x hx)
        rw [tlt_asymm this] at hxs; cases hxs
      have hall2 : l.filter (fun x => !tlt s x) = [] := by
        rw [List.filter_eq_nil_iff]
        intro x hx hxs
        have := tlt_trans h1 (hp.1 x hx)
        rw [this] at hxs; cases hxs
      rw [hall, hall2]
      have : (a :: l).contains s = false := by
        cases hc : (a :: l).contains s with
        | false => rfl
        | true =>
          simp only [List.contains_iff_mem] at hc
          rcases List.mem_cons.1 hc with rfl | hc
          · rw [tlt_irrefl] at h1; cases h1
          · have := tlt_trans h1 (hp.1 _ hc); rw [tlt_irrefl] at this; cases this
      rw [this]
      simp

/-! ### Roots, leaves -/
abbrev Root := List Txt × List Int
abbrev Lf := Int × List Txt × Bool
def rootV (r : Root) : AVal := .agg [.slice (strv r.1) 1 .ro, .slice (iv r.2) 1 .ro]
def rootC (r : Root) : List AVal := [.slice (strv r.1) 1 .ro, .slice (iv r.2) 1 .ro]
def lfV (l : Lf) : AVal := .agg [.int .i64 l.1, .slice (strv l.2.1) 1 .ro, .bool l.2.2]
def lfC (l : Lf) : List AVal := [.int .i64 l.1, .slice (strv l.2.1) 1 .ro, .bool l.2.2]
def lfv (ls : List Lf) : List AVal := ls.map lfV
def nodupI : List Int → Bool
  | [] => true
  | a :: l => !l.contains a && nodupI l
theorem nodupI_iff : ∀ l : List Int, nodupI l = true ↔ l.Nodup
  | [] => by simp [nodupI]
  | a :: l => by simp [nodupI, nodupI_iff l]
/-- Is it a root? -/
def rootB (r : Root) : Bool := decide (r.2.length = r.1.length + 1 ∧ riseL r.1 = true ∧ r.2.all (fun n => decide (1 ≤ n)) = true ∧ nodupI r.2 = true)
/-- Is it a leaf? -/
def lfB (l : Lf) : Bool := decide (l.2.2 = false ∧ l.2.1.length ≤ 4 ∧ riseL l.2.1 = true)
def findN (r : Root) (s : Txt) : Int := if rootB r then r.2.getD (atN r.1 s) 0 else 0
theorem rootB_spec {r : Root} (h : rootB r = true) : r.2.length = r.1.length + 1 ∧ riseL r.1 = true ∧ (∀ n ∈ r.2, 1 ≤ n) ∧ r.2.Nodup := by
  simp only [rootB, decide_eq_true_eq, List.all_eq_true, nodupI_iff] at h
  exact ⟨h.1, h.2.1, h.2.2.1, h.2.2.2⟩
theorem rootB_iff {r : Root} : rootB r = true ↔ r.2.length = r.1.length + 1 ∧ riseL r.1 = true ∧ (∀ n ∈ r.2, 1 ≤ n) ∧ r.2.Nodup := by
  simp only [rootB, decide_eq_true_eq, List.all_eq_true, nodupI_iff]
theorem lfB_iff {l : Lf} : lfB l = true ↔ l.2.2 = false ∧ l.2.1.length ≤ 4 ∧ riseL l.2.1 = true := by
  simp only [lfB, decide_eq_true_eq]

/-! ### What is handed over -/
def strIs : AVal → Bool
  | .str _ => true
  | _ => false
@[simp] theorem strv_is (l : List Txt) : (strv l).all strIs = true := by simp [strv, strIs]
@[simp] theorem map_strOf_strv (l : List Txt) : (strv l).map AVal.strOf = l := by
  simp only [strv, List.map_map]
  conv => rhs; rw [← List.map_id l]
  exact List.map_congr_left fun b _ => rfl
theorem strv_of {es : List AVal} (h : es.all strIs = true) : es = strv (es.map AVal.strOf) := by
  induction es with
  | nil => rfl
  | cons e es ih =>
    simp only [List.all_cons, Bool.and_eq_true] at h
    have h1 := h.1
    unfold strIs at h1
    split at h1
    · have := ih h.2
      simp only [strv, List.map_cons] at this ⊢
      rw [← this]
      rfl
    · cases h1
theorem wk_strv {s : Nat} {es : List AVal} (t : Tag) (hn : okW 1 s es = true) (h : es.all strIs = true) : Wk (.slice es s t) (.slice (strv (es.map AVal.strOf)) 1 .ro) := by
  rw [← strv_of h]
  exact wkW t hn
theorem strv_noOut (n : Nat) (l : List Txt) : noOutL n (strv l) = true := noOutL_map n (fun _ => rfl) l
theorem strv_noTok (n : Nat) (l : List Txt) : noTokL n (strv l) = true := noTokL_map n (fun _ => rfl) l
theorem strv_noLoc (l : List Txt) : noLocL (strv l) = true := noLocL_map (fun _ => rfl) l
theorem iv_noLoc (l : List Int) : noLocL (iv l) = true := noLocL_map (fun _ => rfl) l
theorem strv_append (a b : List Txt) : strv (a ++ b) = strv a ++ strv b := by simp [strv]
theorem strv_take (a : List Txt) (n : Nat) : strv (a.take n) = (strv a).take n := by simp [strv, List.map_take]
theorem strv_drop (a : List Txt) (n : Nat) : strv (a.drop n) = (strv a).drop n := by simp [strv, List.map_drop]
theorem flat_strv (l : List Txt) : flat (strv l) = strv l := flat_map (fun _ => rfl) l
theorem flat_iv (l : List Int) : flat (iv l) = iv l := flat_map (fun _ => rfl) l
def rootIs : AVal → Bool
  | .agg [.slice es s _, .slice fs s' _] => okW 1 s es && (okW 1 s' fs && (es.all strIs && fs.all isI64))
  | _ => false
def rootOf : AVal → Root
  | .agg [.slice es _ _, .slice fs _ _] => (es.map AVal.strOf, fs.map AVal.intOf)
  | _ => ([], [])
@[simp] theorem rootIs_V (r : Root) : rootIs (rootV r) = true := by simp [rootIs, rootV, okW_same]
@[simp] theorem rootOf_V (r : Root) : rootOf (rootV r) = r := by simp [rootOf, rootV]
theorem wk_root {v : AVal} (h : rootIs v = true) : Wk v (rootV (rootOf v)) := by
  unfold rootIs at h
  split at h
  · simp only [Bool.and_eq_true] at h
    exact Wk.agg (.cons (wk_strv _ h.1 h.2.2.1) (.cons (wk_iv _ h.2.1 h.2.2.2) (.refl _)))
  · cases h
def lfIs : AVal → Bool
  | .agg [.int .i64 _, .slice es s _, .bool _] => okW 1 s es && es.all strIs
  | _ => false
def lfOf : AVal → Lf
  | .agg [.int .i64 n, .slice es _ _, .bool b] => (n, es.map AVal.strOf, b)
  | _ => (0, [], false)
@[simp] theorem lfIs_V (l : Lf) : lfIs (lfV l) = true := by simp [lfIs, lfV, okW_same]
@[simp] theorem lfOf_V (l : Lf) : lfOf (lfV l) = l := by simp [lfOf, lfV]
theorem wk_lfC {v : AVal} (h : lfIs v = true) : WkL v.cells (lfV (lfOf v)).cells ∧ (lfV (lfOf v)).cells.length = v.cells.length := by
  unfold lfIs at h
  split at h
  · simp only [Bool.and_eq_true] at h
    exact ⟨.cons (.refl _) (.cons (wk_strv _ h.1 h.2) (.refl _)), rfl⟩
  · cases h
theorem wk_lf {v : AVal} (h : lfIs v = true) : Wk v (lfV (lfOf v)) := by
  unfold lfIs at h
  split at h
  · simp only [Bool.and_eq_true] at h
    exact Wk.agg (.cons (.refl _) (.cons (wk_strv _ h.1 h.2) (.refl _)))
  · cases h
@[simp] theorem map_lfOf (ls : List Lf) : (lfv ls).map lfOf = ls := by
  simp only [lfv, List.map_map]
  conv => rhs; rw [← List.map_id ls]
  exact List.map_congr_left fun b _ => lfOf_V b
@[simp] theorem lfv_is (ls : List Lf) : (lfv ls).all lfIs = true := by simp [lfv]
@[simp] theorem lfv_length (ls : List Lf) : (lfv ls).length = ls.length := by simp [lfv]
theorem elemAt_lfv (ls : List Lf) (i : Nat) (h : i < ls.length) : elemAt (lfv ls) (i : Int) = lfC ls[i] := elemAt_map lfV ls i h
theorem wk_lfs {s : Nat} {es : List AVal} (t : Tag) (hn : okW 3 s es = true) (h : es.all lfIs = true) : Wk (.slice es s t) (.slice (lfv (es.map lfOf)) 3 .ro) := by
  rw [lfv, List.map_map]
  exact wkW_map t hn fun e he => wk_lfC (List.all_eq_true.1 h e he)
theorem lfv_noOut (n : Nat) (l : List Lf) : noOutL n (lfv l) = true := noOutL_map n (fun x => by simp [lfV, AVal.noOut, noOutL, strv_noOut]) l
theorem lfv_noTok (n : Nat) (l : List Lf) : noTokL n (lfv l) = true := noTokL_map n (fun x => by simp [lfV, AVal.noTok, noTokL, strv_noTok, Tag.below]) l
theorem lfv_noLoc (l : List Lf) : noLocL (lfv l) = true := noLocL_map (fun _ => rfl) l
theorem root_noOut (n : Nat) (r : Root) : (rootV r).noOut n = true := by simp [rootV, AVal.noOut, noOutL, strv_noOut, iv_noOut]
theorem root_noTok (n : Nat) (r : Root) : (rootV r).noTok n = true := by simp [rootV, AVal.noTok, noTokL, strv_noTok, iv_noTok, Tag.below]
theorem lf_noOut (n : Nat) (l : Lf) : (lfV l).noOut n = true := by simp [lfV, AVal.noOut, noOutL, strv_noOut]
theorem lf_noTok (n : Nat) (l : Lf) : (lfV l).noTok n = true := by simp [lfV, AVal.noTok, noTokL, strv_noTok, Tag.below]
/-- Texts that are not too long. -/
def shortL (l : List Txt) : Bool := l.all fun s => decide (s.length ≤ 1000000)
end Go.AL
