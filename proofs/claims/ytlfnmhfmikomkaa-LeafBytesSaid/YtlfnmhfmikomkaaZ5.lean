/-
  The texts B0, Fm, Fe, Ja, Jc, Jb, Js, Fv, Fr, Fc of this seat, one behind the other.
-/
import Derived.Test.YtlfnmhfmikomkaaZ4
import Derived.Test.YtlfnmhfmikomkaaRows
import Derived.KernelRfl
import Derived.Shelf.LaysM
import Derived.Shelf.Strconv.Clone
import Derived.Shelf.Slices.Reverse
import Derived.Shelf.Slices.ReverseS
import Derived.Shelf.Slices.Clone
import Derived.Shelf.Slices.Delete
import Derived.Shelf.Slices.Cells
import Derived.Shelf.Slices.Empties
import Derived.Shelf.SlicesE.Clone
import Derived.Test.YtlfnmhfmikomkaaProg

section
namespace Go.Proofs.Ytlfnmhfmikomkaa
open Go.AL
theorem hmix : Try.prog.follows .mixedOrders = true := by kernel_rfl
theorem hown : ownKnob Try.prog.godebug = none := by kernel_rfl
end Go.Proofs.Ytlfnmhfmikomkaa
end

section
namespace Go.AL
set_option linter.unusedSimpArgs false
set_option linter.unusedVariables false

abbrev Txt := List UInt8

/-! ### Texts in order -/
def tlt (a b : Txt) : Bool := Op.bytesLess a b
theorem tlt_nil_right (a : Txt) : tlt a [] = false := by cases a <;> rfl
theorem tlt_nil_cons (b : UInt8) (y : Txt) : tlt [] (b :: y) = true := rfl
theorem tlt_cons (a b : UInt8) (x y : Txt) : tlt (a :: x) (b :: y) = (decide (a < b) || (a == b && tlt x y)) := rfl
theorem u8_lt_irrefl (a : UInt8) : ¬ a < a := fun h => by have : a.toNat < a.toNat := h; omega
theorem tlt_irrefl : ∀ a : Txt, tlt a a = false
  | [] => rfl
  | a :: x => by rw [tlt_cons, tlt_irrefl x]; simp [u8_lt_irrefl]
theorem u8_trich (a b : UInt8) : a < b ∨ a = b ∨ b < a := by
  have : a.toNat < b.toNat ∨ a.toNat = b.toNat ∨ b.toNat < a.toNat := by omega
  rcases this with h | h | h
  · exact .inl h
  · exact .inr (.inl (UInt8.toNat_inj.1 h))
  · exact .inr (.inr h)
theorem tlt_total : ∀ a b : Txt, tlt a b = true ∨ a = b ∨ tlt b a = true
  | [], [] => .inr (.inl rfl)
  | [], _ :: _ => .inl rfl
  | _ :: _, [] => .inr (.inr rfl)
  | a :: x, b :: y => by
    rw [tlt_cons, tlt_cons]
    rcases u8_trich a b with h | h | h
    · simp [h]
    · subst h
      rcases tlt_total x y with h | h | h
      · simp [h]
      · simp [h]
      · simp [h]
    · simp [h]
theorem tlt_trans : ∀ {a b c : Txt}, tlt a b = true → tlt b c = true → tlt a c = true
  | _, [], _, h, _ => by rw [tlt_nil_right] at h; cases h
  | _, _ :: _, [], _, h => by rw [tlt_nil_right] at h; cases h
  | [], _ :: _, _ :: _, _, _ => rfl
  | a :: x, b :: y, c :: z, h, k => by
    rw [tlt_cons] at h k ⊢
    simp only [Bool.or_eq_true, Bool.and_eq_true, decide_eq_true_eq, beq_iff_eq] at h k ⊢
    rcases h with h | ⟨rfl, h⟩
    · rcases k with k | ⟨rfl, k⟩
      · left; have h : a.toNat < b.toNat := h; have k : b.toNat < c.toNat := k; show a.toNat < c.toNat; omega
      · exact .inl h
    · rcases k with k | ⟨rfl, k⟩
      · exact .inl k
      · exact .inr ⟨rfl, tlt_trans h k⟩
theorem tlt_asymm {a b : Txt} (h : tlt a b = true) : tlt b a = false := by
  cases hb : tlt b a with
  | false => rfl
  | true => have := tlt_trans h hb; rw [tlt_irrefl] at this; cases this
theorem tlt_ne {a b : Txt} (h : tlt a b = true) : a ≠ b := by rintro rfl; rw [tlt_irrefl] at h; cases h
theorem tlt_append (p x y : Txt) : tlt (p ++ x) (p ++ y) = tlt x y := by
  induction p with
  | nil => rfl
  | cons a p ih => simp only [List.cons_append, tlt_cons, ih]; simp [u8_lt_irrefl]
/-- a is not above b. -/
theorem tle_iff (a b : Txt) : (tlt a b || a == b) = !tlt b a := by
  rcases tlt_total a b with h | rfl | h
  · simp [h, tlt_asymm h]
  · simp [tlt_irrefl]
  · have := tlt_ne h
    simp [h, tlt_asymm h, this.symm]
def sgnN (b : Bool) : Int := if b then -1 else 1
def ordT (a b : Txt) : Int := if a = b then 0 else if tlt a b then -1 else 1
theorem ordT_eq (a b : Txt) : ordT a b = 0 ↔ a = b := by
  unfold ordT
  by_cases h : a = b
  · simp [h]
  · rw [if_neg h]; split <;> simp [h]
theorem ordT_lt (a b : Txt) : (decide (ordT a b < 0)) = tlt a b := by
  unfold ordT
  by_cases h : a = b
  · subst h; simp [tlt_irrefl]
  · rw [if_neg h]; cases tlt a b <;> simp
theorem ordT_ge (a b : Txt) : (decide (0 ≤ ordT a b)) = !tlt a b := by
  rw [← ordT_lt]
  by_cases h : ordT a b < 0
  · have : ¬ 0 ≤ ordT a b := by omega
    simp [h, this]
  · have : 0 ≤ ordT a b := by omega
    simp [h, this]
theorem ordT_le (a b : Txt) : (decide (ordT a b ≤ 0)) = !tlt b a := by
  unfold ordT
  rcases tlt_total a b with h | rfl | h
  · simp [h, tlt_asymm h, tlt_ne h]
  · simp [tlt_irrefl]
  · simp [h, tlt_asymm h, (tlt_ne h).symm]
theorem ordT_ge' {a b : Txt} : 0 ≤ ordT a b ↔ tlt a b = false := by
  have := ordT_ge a b
  rw [Bool.eq_iff_iff] at this
  simpa using this
theorem ordT_lt' {a b : Txt} : ordT a b < 0 ↔ tlt a b = true := by
  have := ordT_lt a b
  rw [Bool.eq_iff_iff] at this
  simpa using this
theorem ordT_le' {a b : Txt} : ordT a b ≤ 0 ↔ tlt b a = false := by
  have := ordT_le a b
  rw [Bool.eq_iff_iff] at this
  simpa using this
theorem ordT_append (p x y : Txt) : ordT (p ++ x) (p ++ y) = ordT x y := by
  unfold ordT
  rw [tlt_append]
  simp
theorem ordT_drop {a b : Txt} {i : Nat} (h : a.take i = b.take i) : ordT a b = ordT (a.drop i) (b.drop i) := by
  conv => lhs; rw [← List.take_append_drop i a, ← List.take_append_drop i b, h]
  exact ordT_append _ _ _
theorem ordT_cons {a b : UInt8} (h : a ≠ b) (x y : Txt) : ordT (a :: x) (b :: y) = sgnN (decide (a < b)) := by
  unfold ordT sgnN
  rw [if_neg (by simp [h]), tlt_cons]
  simp [h]

/-! ### Lists that rise -/
def riseL : List Txt → Bool
  | a :: b :: r => tlt a b && riseL (b :: r)
  | _ => true
theorem riseL_pw : ∀ {l : List Txt}, riseL l = true ↔ l.Pairwise (fun a b => tlt a b = true)
  | [] => by simp [riseL]
  | [a] => by simp [riseL]
  | a :: b :: r => by
    have ih := riseL_pw (l := b :: r)
    simp only [riseL, Bool.and_eq_true]
    rw [ih, List.pairwise_cons (a := a)]
    constructor
    · rintro ⟨h1, h2⟩
      refine ⟨fun x hx => ?_, h2⟩
      rcases List.mem_cons.1 hx with rfl | hx
      · exact h1
      · exact tlt_trans h1 ((List.pairwise_cons.1 h2).1 x hx)
    · rintro ⟨h1, h2⟩
      exact ⟨h1 b (by simp), h2⟩
theorem riseL_get {l : List Txt} (h : riseL l = true) {i j : Nat} (hij : i < j) (hj : j < l.length) : tlt (l[i]'(by omega)) l[j] = true :=
  List.pairwise_iff_getElem.1 (riseL_pw.1 h) i j (by omega) hj hij
theorem riseL_of {l : List Txt} (h : ∀ i (hi : i + 1 < l.length), tlt l[i] l[i + 1] = true) : riseL l = true := by
  induction l with
  | nil => rfl
  | cons a l ih =>
    cases l with
    | nil => rfl
    | cons b r =>
      simp only [riseL, Bool.and_eq_true]
      refine ⟨h 0 (by simp), ih fun i hi => ?_⟩
      have := h (i + 1) (by simp at hi ⊢; omega)
      simpa using this
theorem riseL_sub {l m : List Txt} (hs : m.Sublist l) (h : riseL l = true) : riseL m = true := riseL_pw.2 ((riseL_pw.1 h).sublist hs)
theorem riseL_nodup {l : List Txt} (h : riseL l = true) : l.Nodup := (riseL_pw.1 h).imp fun h => tlt_ne h

/-- How many are below s. -/
def posN (l : List Txt) (s : Txt) : Nat := (l.filter (fun x => tlt x s)).length
theorem posN_le (l : List Txt) (s : Txt) : posN l s ≤ l.length := List.length_filter_le _ _
theorem posN_lt : ∀ {l : List Txt}, riseL l = true → ∀ (s : Txt) (i : Nat) (hi : i < l.length), tlt l[i] s = true ↔ i < posN l s
  | a :: l, h, s, i, hi => by
    have hp := riseL_pw.1 h
    rw [List.pairwise_cons] at hp
    unfold posN
    cases ha : tlt a s with
    | true =>
      rw [List.filter_cons_of_pos (p := fun x => tlt x s) ha]
      cases i with
      | zero => simp [ha]
      | succ i =>
        have ih := posN_lt (riseL_pw.2 hp.2) s i (by simpa using hi)
        simp only [List.getElem_cons_succ, List.length_cons]
        rw [ih]
        unfold posN
        omega
    | false =>
      rw [List.filter_cons_of_neg (by simp [ha])]
      have hall : l.filter (fun x => tlt x s) = [] := by
        rw [List.filter_eq_nil_iff]
        intro x hx hxs
        have := tlt_trans (hp.1 x hx) hxs
        rw [ha] at this; cases this
      rw [hall]
      simp only [List.length_nil, Nat.not_lt_zero, iff_false]
      cases i with
      | zero => simp [ha]
      | succ i =>
        intro hx
        simp only [List.getElem_cons_succ] at hx
        have := tlt_trans (hp.1 _ (List.getElem_mem (by simpa using hi))) hx
        rw [ha] at this; cases this
theorem posN_uniq {l : List Txt} (h : riseL l = true) {s : Txt} {p : Nat} (hp : p ≤ l.length) (h1 : ∀ i (hi : i < l.length), i < p → tlt l[i] s = true) (h2 : ∀ i (hi : i < l.length), p ≤ i → tlt l[i] s = false) : posN l s = p := by
  have hle := posN_le l s
  rcases Nat.lt_trichotomy (posN l s) p with h3 | h3 | h3
  · have := h1 (posN l s) (by omega) h3
    rw [posN_lt h] at this; omega
  · exact h3
  · have := h2 p (by omega) (Nat.le_refl _)
    have h4 := (posN_lt h s p (by omega)).2 h3
    rw [this] at h4; cases h4
theorem contains_pos {l : List Txt} (h : riseL l = true) (s : Txt) : l.contains s = (decide (posN l s < l.length) && (l.getD (posN l s) [] == s)) := by
  rw [Bool.eq_iff_iff]
  simp only [List.contains_iff_mem, Bool.and_eq_true, decide_eq_true_eq, beq_iff_eq]
  constructor
  · intro hm
    obtain ⟨i, hi, rfl⟩ := List.mem_iff_getElem.1 hm
    have e : posN l l[i] = i := posN_uniq h (by omega) (fun j hj hji => riseL_get h hji hi) (fun j hj hij => by
      rcases Nat.lt_or_ge i j with h1 | h1
      · exact tlt_asymm (riseL_get h h1 hj)
      · obtain rfl : i = j := by omega
        exact tlt_irrefl _)
    rw [e]
    exact ⟨hi, by simp [List.getD, hi]⟩
  · rintro ⟨h1, h2⟩
    rw [List.getD_eq_getElem?_getD, List.getElem?_eq_getElem h1] at h2
    simp only [Option.getD_some] at h2
    rw [← h2]; exact List.getElem_mem _
/-- The place of a text's leaf: how many separators aren't above it. -/
def atN (l : List Txt) (s : Txt) : Nat := (l.filter (fun x => !tlt s x)).length
theorem atN_le (l : List Txt) (s : Txt) : atN l s ≤ l.length := List.length_filter_le _ _
theorem atN_pos {l : List Txt} (h : riseL l = true) (s : Txt) : atN l s = posN l s + (if l.contains s then 1 else 0) := by
  induction l with
  | nil => rfl
  | cons a l ih =>
    have hp := riseL_pw.1 h
    rw [List.pairwise_cons] at hp
    have ih := ih (riseL_pw.2 hp.2)
    unfold atN posN at *
    rcases tlt_total a s with h1 | rfl | h1
    · rw [List.filter_cons_of_pos (by simp [tlt_asymm h1]), List.filter_cons_of_pos (p := fun x => tlt x s) h1]
      simp only [List.length_cons, ih, List.contains_cons]
      have : (s == a) = false := by simp [(tlt_ne h1).symm]
      rw [this, Bool.false_or]
      omega
    · rw [List.filter_cons_of_pos (by simp [tlt_irrefl]), List.filter_cons_of_neg (by simp [tlt_irrefl])]
      have hall : l.filter (fun x => tlt x a) = [] := by
        rw [List.filter_eq_nil_iff]
        intro x hx hxs
        rw [tlt_asymm (hp.1 x hx)] at hxs; cases hxs
      have hall2 : l.filter (fun x => !tlt a x) = [] := by
        rw [List.filter_eq_nil_iff]
        intro x hx hxs
        rw [hp.1 x hx] at hxs; cases hxs
      rw [hall, hall2]
      simp
    · rw [List.filter_cons_of_neg (by simp [h1]), List.filter_cons_of_neg (by simp [tlt_asymm h1])]
      have hall : l.filter (fun x => tlt x s) = [] := by
        rw [List.filter_eq_nil_iff]
        intro x hx hxs
        have := tlt_trans h1 (hp.1 x hx)
        rw [tlt_asymm this] at hxs; cases hxs
      have hall2 : l.filter (fun x => !tlt s x) = [] := by
        rw [List.filter_eq_nil_iff]
        intro x hx hxs
        have := tlt_trans h1 (hp.1 x hx)
        rw [this] at hxs; cases hxs
      rw [hall, hall2]
      have : (a :: l).contains s = false := by
        cases hc : (a :: l).contains s with
        | false => rfl
        | true =>
          simp only [List.contains_iff_mem] at hc
          rcases List.mem_cons.1 hc with rfl | hc
          · rw [tlt_irrefl] at h1; cases h1
          · have := tlt_trans h1 (hp.1 _ hc); rw [tlt_irrefl] at this; cases this
      rw [this]
      simp

/-! ### Roots, leaves -/
abbrev Root := List Txt × List Int
abbrev Lf := Int × List Txt × Bool
def rootV (r : Root) : AVal := .agg [.slice (strv r.1) 1 .ro, .slice (iv r.2) 1 .ro]
def rootC (r : Root) : List AVal := [.slice (strv r.1) 1 .ro, .slice (iv r.2) 1 .ro]
def lfV (l : Lf) : AVal := .agg [.int .i64 l.1, .slice (strv l.2.1) 1 .ro, .bool l.2.2]
def lfC (l : Lf) : List AVal := [.int .i64 l.1, .slice (strv l.2.1) 1 .ro, .bool l.2.2]
def lfv (ls : List Lf) : List AVal := ls.map lfV
def nodupI : List Int → Bool
  | [] => true
  | a :: l => !l.contains a && nodupI l
theorem nodupI_iff : ∀ l : List Int, nodupI l = true ↔ l.Nodup
  | [] => by simp [nodupI]
  | a :: l => by simp [nodupI, nodupI_iff l]
/-- Is it a root? -/
def rootB (r : Root) : Bool := decide (r.2.length = r.1.length + 1 ∧ riseL r.1 = true ∧ r.2.all (fun n => decide (1 ≤ n)) = true ∧ nodupI r.2 = true)
/-- Is it a leaf? -/
def lfB (l : Lf) : Bool := decide (l.2.2 = false ∧ l.2.1.length ≤ 4 ∧ riseL l.2.1 = true)
def findN (r : Root) (s : Txt) : Int := if rootB r then r.2.getD (atN r.1 s) 0 else 0
theorem rootB_spec {r : Root} (h : rootB r = true) : r.2.length = r.1.length + 1 ∧ riseL r.1 = true ∧ (∀ n ∈ r.2, 1 ≤ n) ∧ r.2.Nodup := by
  simp only [rootB, decide_eq_true_eq, List.all_eq_true, nodupI_iff] at h
  exact ⟨h.1, h.2.1, h.2.2.1, h.2.2.2⟩
theorem rootB_iff {r : Root} : rootB r = true ↔ r.2.length = r.1.length + 1 ∧ riseL r.1 = true ∧ (∀ n ∈ r.2, 1 ≤ n) ∧ r.2.Nodup := by
  simp only [rootB, decide_eq_true_eq, List.all_eq_true, nodupI_iff]
theorem lfB_iff {l : Lf} : lfB l = true ↔ l.2.2 = false ∧ l.2.1.length ≤ 4 ∧ riseL l.2.1 = true := by
  simp only [lfB, decide_eq_true_eq]

/-! ### What is handed over -/
def strIs : AVal → Bool
  | .str _ => true
  | _ => false
@[simp] theorem strv_is (l : List Txt) : (strv l).all strIs = true := by simp [strv, strIs]
@[simp] theorem map_strOf_strv (l : List Txt) : (strv l).map AVal.strOf = l := by
  simp only [strv, List.map_map]
  conv => rhs; rw [← List.map_id l]
  exact List.map_congr_left fun b _ => rfl
theorem strv_of {es : List AVal} (h : es.all strIs = true) : es = strv (es.map AVal.strOf) := by
  induction es with
  | nil => rfl
  | cons e es ih =>
    simp only [List.all_cons, Bool.and_eq_true] at h
    have h1 := h.1
    unfold strIs at h1
    split at h1
    · have := ih h.2
      simp only [strv, List.map_cons] at this ⊢
      rw [← this]
      rfl
    · cases h1
theorem wk_strv {s : Nat} {es : List AVal} (t : Tag) (hn : okW 1 s es = true) (h : es.all strIs = true) : Wk (.slice es s t) (.slice (strv (es.map AVal.strOf)) 1 .ro) := by
  rw [← strv_of h]
  exact wkW t hn
theorem strv_noOut (n : Nat) (l : List Txt) : noOutL n (strv l) = true := noOutL_map n (fun _ => rfl) l
theorem strv_noTok (n : Nat) (l : List Txt) : noTokL n (strv l) = true := noTokL_map n (fun _ => rfl) l
theorem strv_noLoc (l : List Txt) : noLocL (strv l) = true := noLocL_map (fun _ => rfl) l
theorem iv_noLoc (l : List Int) : noLocL (iv l) = true := noLocL_map (fun _ => rfl) l
theorem strv_append (a b : List Txt) : strv (a ++ b) = strv a ++ strv b := by simp [strv]
theorem strv_take (a : List Txt) (n : Nat) : strv (a.take n) = (strv a).take n := by simp [strv, List.map_take]
theorem strv_drop (a : List Txt) (n : Nat) : strv (a.drop n) = (strv a).drop n := by simp [strv, List.map_drop]
theorem flat_strv (l : List Txt) : flat (strv l) = strv l := flat_map (fun _ => rfl) l
theorem flat_iv (l : List Int) : flat (iv l) = iv l := flat_map (fun _ => rfl) l
def rootIs : AVal → Bool
  | .agg [.slice es s _, .slice fs s' _] => okW 1 s es && (okW 1 s' fs && (es.all strIs && fs.all isI64))
  | _ => false
def rootOf : AVal → Root
  | .agg [.slice es _ _, .slice fs _ _] => (es.map AVal.strOf, fs.map AVal.intOf)
  | _ => ([], [])
@[simp] theorem rootIs_V (r : Root) : rootIs (rootV r) = true := by simp [rootIs, rootV, okW_same]
@[simp] theorem rootOf_V (r : Root) : rootOf (rootV r) = r := by simp [rootOf, rootV]
theorem wk_root {v : AVal} (h : rootIs v = true) : Wk v (rootV (rootOf v)) := by
  unfold rootIs at h
  split at h
  · simp only [Bool.and_eq_true] at h
    exact Wk.agg (.cons (wk_strv _ h.1 h.2.2.1) (.cons (wk_iv _ h.2.1 h.2.2.2) (.refl _)))
  · cases h
def lfIs : AVal → Bool
  | .agg [.int .i64 _, .slice es s _, .bool _] => okW 1 s es && es.all strIs
  | _ => false
def lfOf : AVal → Lf
  | .agg [.int .i64 n, .slice es _ _, .bool b] => (n, es.map AVal.strOf, b)
  | _ => (0, [], false)
@[simp] theorem lfIs_V (l : Lf) : lfIs (lfV l) = true := by simp [lfIs, lfV, okW_same]
@[simp] theorem lfOf_V (l : Lf) : lfOf (lfV l) = l := by simp [lfOf, lfV]
theorem wk_lfC {v : AVal} (h : lfIs v = true) : WkL v.cells (lfV (lfOf v)).cells ∧ (lfV (lfOf v)).cells.length = v.cells.length := by
  unfold lfIs at h
  split at h
  · simp only [Bool.and_eq_true] at h
    exact ⟨.cons (.refl _) (.cons (wk_strv _ h.1 h.2) (.refl _)), rfl⟩
  · cases h
theorem wk_lf {v : AVal} (h : lfIs v = true) : Wk v (lfV (lfOf v)) := by
  unfold lfIs at h
  split at h
  · simp only [Bool.and_eq_true] at h
    exact Wk.agg (.cons (.refl _) (.cons (wk_strv _ h.1 h.2) (.refl _)))
  · cases h
@[simp] theorem map_lfOf (ls : List Lf) : (lfv ls).map lfOf = ls := by
  simp only [lfv, List.map_map]
  conv => rhs; rw [← List.map_id ls]
  exact List.map_congr_left fun b _ => lfOf_V b
@[simp] theorem lfv_is (ls : List Lf) : (lfv ls).all lfIs = true := by simp [lfv]
@[simp] theorem lfv_length (ls : List Lf) : (lfv ls).length = ls.length := by simp [lfv]
theorem elemAt_lfv (ls : List Lf) (i : Nat) (h : i < ls.length) : elemAt (lfv ls) (i : Int) = lfC ls[i] := elemAt_map lfV ls i h
theorem wk_lfs {s : Nat} {es : List AVal} (t : Tag) (hn : okW 3 s es = true) (h : es.all lfIs = true) : Wk (.slice es s t) (.slice (lfv (es.map lfOf)) 3 .ro) := by
  rw [lfv, List.map_map]
  exact wkW_map t hn fun e he => wk_lfC (List.all_eq_true.1 h e he)
theorem lfv_noOut (n : Nat) (l : List Lf) : noOutL n (lfv l) = true := noOutL_map n (fun x => by simp [lfV, AVal.noOut, noOutL, strv_noOut]) l
theorem lfv_noTok (n : Nat) (l : List Lf) : noTokL n (lfv l) = true := noTokL_map n (fun x => by simp [lfV, AVal.noTok, noTokL, strv_noTok, Tag.below]) l
theorem lfv_noLoc (l : List Lf) : noLocL (lfv l) = true := noLocL_map (fun _ => rfl) l
theorem root_noOut (n : Nat) (r : Root) : (rootV r).noOut n = true := by simp [rootV, AVal.noOut, noOutL, strv_noOut, iv_noOut]
theorem root_noTok (n : Nat) (r : Root) : (rootV r).noTok n = true := by simp [rootV, AVal.noTok, noTokL, strv_noTok, iv_noTok, Tag.below]
theorem lf_noOut (n : Nat) (l : Lf) : (lfV l).noOut n = true := by simp [lfV, AVal.noOut, noOutL, strv_noOut]
theorem lf_noTok (n : Nat) (l : Lf) : (lfV l).noTok n = true := by simp [lfV, AVal.noTok, noTokL, strv_noTok, Tag.below]
/-- Texts that are not too long. -/
def shortL (l : List Txt) : Bool := l.all fun s => decide (s.length ≤ 1000000)
end Go.AL
end

section
set_option linter.unusedVariables false
set_option linter.unusedSimpArgs false
/-
  Seat 11 (leaf): what is told of calls.
-/
set_option linter.unusedVariables false
namespace Go.Proofs.Ytlfnmhfmikomkaa
open Go.AL
noncomputable section
def lenOk (n : Nat) : Bool := hold (decide (n ≤ 140737488351232))
def signE : Ent := (43, fun xs _ => match xs with
  | [.bool b] => some (.pure true (.int .i64 (sgnN b)))
  | _ => none)
def ordE : Ent := (14, fun xs _ => match xs with
  | [.str a, .str b] => some (.pure (hold (decide (a.length ≤ 1000000))) (.int .i64 (ordT a b)))
  | _ => none)
def lessE : Ent := (64, fun xs _ => match xs with
  | [.str a, .str b] => some (.pure true (.bool (hold (tlt a b))))
  | _ => none)
def nanE : Ent := (74, fun xs _ => match xs with
  | [.str a] => some (.pure true (.bool false))
  | _ => none)
def nan2E : Ent := (65, fun xs _ => match xs with
  | [.str a] => some (.pure true (.bool false))
  | _ => none)
def bsE : Ent := (35, fun xs _ => match xs with
  | [.slice es s t, .str x] => some (.nm (posN (es.map AVal.strOf) x) fun p => .nm ((es.map AVal.strOf).contains x) fun b => .pure (okW 1 s es && (es.all strIs && (hold (riseL (es.map AVal.strOf)) && lenOk es.length))) (.tuple [.int .i64 (p : Int), .bool (hold b)]))
  | _ => none)
def riseE : Ent := (71, fun xs _ => match xs with
  | [.slice es s t] => some (.pure (okW 1 s es && (es.all strIs && lenOk es.length)) (.bool (hold (riseL (es.map AVal.strOf)))))
  | _ => none)
def riseRE : Ent := (16, fun xs _ => match xs with
  | [.slice es s t] => some (.pure (okW 1 s es && (es.all strIs && (hold (shortL (es.map AVal.strOf)) && lenOk es.length))) (.bool (hold (riseL (es.map AVal.strOf)))))
  | _ => none)
def indexIE : Ent := (68, fun xs _ => match xs with
  | [.slice es s t, .int .i64 n] => some (.nm ((es.map AVal.intOf).contains n) fun y => .nm (if y then ((es.map AVal.intOf).idxOf n : Int) else -1) fun i => .pure (okW 1 s es && (es.all isI64 && lenOk es.length)) (.int .i64 i))
  | _ => none)
def containsIE : Ent := (37, fun xs _ => match xs with
  | [.slice es s t, .int .i64 n] => some (.pure (okW 1 s es && (es.all isI64 && lenOk es.length)) (.bool (hold ((es.map AVal.intOf).contains n))))
  | _ => none)
def rootG (v : AVal) : Bool := rootIs v && (lenOk (rootOf v).1.length && lenOk (rootOf v).2.length)
def rootH (v : AVal) : Bool := rootG v && hold (shortL (rootOf v).1)
def lfG (v : AVal) : Bool := lfIs v && lenOk (lfOf v).2.1.length
def lfH (v : AVal) : Bool := lfG v && hold (shortL (lfOf v).2.1)
def rootE : Ent := (41, fun xs _ => match xs with
  | [v] => some (.pure (rootG v) (.bool (hold (rootB (rootOf v)))))
  | _ => none)
def rootRE : Ent := (47, fun xs _ => match xs with
  | [v] => some (.pure (rootH v) (.bool (hold (rootB (rootOf v)))))
  | _ => none)
def leafE : Ent := (54, fun xs _ => match xs with
  | [v] => some (.pure (lfG v) (.bool (hold (lfB (lfOf v)))))
  | _ => none)
def leafRE : Ent := (48, fun xs _ => match xs with
  | [v] => some (.pure (lfH v) (.bool (hold (lfB (lfOf v)))))
  | _ => none)
def atE : Ent := (38, fun xs _ => match xs with
  | [v, .str s] => some (.nm (atN (rootOf v).1 s) fun p => .pure (rootG v && hold (riseL (rootOf v).1)) (.int .i64 (p : Int)))
  | _ => none)
def atRE : Ent := (51, fun xs _ => match xs with
  | [v, .str s] => some (.nm (atN (rootOf v).1 s) fun p => .pure (rootH v) (.int .i64 (p : Int)))
  | _ => none)
def findE : Ent := (12, fun xs _ => match xs with
  | [v, .str s] => some (.nm (findN (rootOf v) s) fun p => .pure (rootG v) (.int .i64 p))
  | _ => none)
def findRE : Ent := (26, fun xs _ => match xs with
  | [v, .str s] => some (.nm (findN (rootOf v) s) fun p => .pure (rootH v) (.int .i64 p))
  | _ => none)
def cloneE : Ent := (39, fun xs σ => match xs with
  | [.slice es s t] => some (.full (okW 1 s es && (es.all strIs && hold (decide (es.length ≤ 1000000)))) (.mrow σ.nobj es.length) (σ.pushRow es 1))
  | _ => none)
def cloneIE : Ent := (42, fun xs σ => match xs with
  | [.slice es s t] => some (.full (okW 1 s es && (es.all isI64 && hold (decide (es.length ≤ 1000000)))) (.mrow σ.nobj es.length) (σ.pushRow es 1))
  | _ => none)
def insE : Ent := (36, fun xs σ => match xs with
  | [.mrow k n, .int .i64 i, .slice [.str x] 1 .full] => match σ.obj k with
    | some (.buf es s g) => some (.full (Nat.beq g (k + 1) && (Nat.beq s 1 && (es.all strIs && hold (decide (n = es.length ∧ 0 ≤ i ∧ i ≤ es.length ∧ es.length ≤ 1000000))))) (.slice (insC es i.toNat (.str x)) 1 .ro) (σ.del k))
    | _ => none
  | _ => none)
def insIE : Ent := (40, fun xs σ => match xs with
  | [.mrow k n, .int .i64 i, .slice [.int .i64 x] 1 .full] => match σ.obj k with
    | some (.buf es s g) => some (.full (Nat.beq g (k + 1) && (Nat.beq s 1 && (es.all isI64 && hold (decide (n = es.length ∧ 0 ≤ i ∧ i ≤ es.length ∧ es.length ≤ 1000000))))) (.slice (insC es i.toNat (.int .i64 x)) 1 .ro) (σ.del k))
    | _ => none
  | _ => none)
def delE : Ent := (45, fun xs σ => match xs with
  | [.mrow k n, .int .i64 i, .int .i64 j] => match σ.obj k with
    | some (.buf es s g) => some (.full (Nat.beq g (k + 1) && (Nat.beq s 1 && (es.all strIs && hold (decide (n = es.length ∧ 0 ≤ i ∧ i < es.length ∧ j = i + 1 ∧ es.length ≤ 1000000))))) (.slice (delC es i.toNat) 1 .ro) (σ.del k))
    | _ => none
  | _ => none)
def delIE : Ent := (46, fun xs σ => match xs with
  | [.mrow k n, .int .i64 i, .int .i64 j] => match σ.obj k with
    | some (.buf es s g) => some (.full (Nat.beq g (k + 1) && (Nat.beq s 1 && (es.all isI64 && hold (decide (n = es.length ∧ 0 ≤ i ∧ i < es.length ∧ j = i + 1 ∧ es.length ≤ 1000000))))) (.slice (delC es i.toNat) 1 .ro) (σ.del k))
    | _ => none
  | _ => none)
end
end Go.Proofs.Ytlfnmhfmikomkaa
/-
  Seat 11 (leaf): what is laid and taken out: plain definitions and laws.
-/
namespace Go.AL
set_option linter.unusedSimpArgs false
set_option linter.unusedVariables false

/-! ### The least number that is free -/
theorem pig : ∀ (m : Nat) (l : List Int), (∀ k : Nat, 1 ≤ k → k ≤ m → (k : Int) ∈ l) → m ≤ l.length
  | 0, _, _ => Nat.zero_le _
  | m + 1, l, h => by
    have hm := h (m + 1) (by omega) (Nat.le_refl _)
    have ih := pig m (l.erase ((m + 1 : Nat) : Int)) fun k h1 h2 => by
      rw [List.mem_erase_of_ne (by omega)]
      exact h k h1 (by omega)
    rw [List.length_erase_of_mem hm] at ih
    have : 0 < l.length := List.length_pos_of_mem hm
    omega
def freeF : Nat → List Int → Nat → Nat
  | 0, _, n => n
  | f + 1, l, n => if (n : Int) ∈ l then freeF f l (n + 1) else n
def freeN (l : List Int) : Nat := freeF (l.length + 1) l 1
theorem freeF_spec (l : List Int) : ∀ (f n : Nat), 1 ≤ n → l.length + 2 ≤ f + n → (∀ k : Nat, 1 ≤ k → k < n → (k : Int) ∈ l) → 1 ≤ freeF f l n ∧ (freeF f l n : Int) ∉ l ∧ ∀ k : Nat, 1 ≤ k → k < freeF f l n → (k : Int) ∈ l
  | 0, n, h1, h2, h3 => by
    have := pig (n - 1) l fun k hk hk2 => h3 k hk (by omega)
    omega
  | f + 1, n, h1, h2, h3 => by
    unfold freeF
    by_cases hm : (n : Int) ∈ l
    · rw [if_pos hm]
      exact freeF_spec l f (n + 1) (by omega) (by omega) fun k hk hk2 => by
        rcases Nat.lt_or_ge k n with h4 | h4
        · exact h3 k hk h4
        · obtain rfl : k = n := by omega
          exact hm
    · rw [if_neg hm]
      exact ⟨h1, hm, h3⟩
theorem freeN_spec (l : List Int) : 1 ≤ freeN l ∧ (freeN l : Int) ∉ l ∧ ∀ k : Nat, 1 ≤ k → k < freeN l → (k : Int) ∈ l := freeF_spec l _ 1 (Nat.le_refl _) (by omega) fun k h1 h2 => by omega
theorem freeN_le (l : List Int) : freeN l ≤ l.length + 1 := by
  obtain ⟨h1, h2, h3⟩ := freeN_spec l
  have := pig (freeN l - 1) l fun k hk hk2 => h3 k hk (by omega)
  omega
theorem freeN_uniq {l : List Int} {m : Nat} (h1 : 1 ≤ m) (h2 : (m : Int) ∉ l) (h3 : ∀ k : Nat, 1 ≤ k → k < m → (k : Int) ∈ l) : m = freeN l := by
  obtain ⟨g1, g2, g3⟩ := freeN_spec l
  rcases Nat.lt_trichotomy m (freeN l) with h | h | h
  · exact (h2 (g3 m h1 h)).elim
  · exact h
  · exact (g2 (h3 _ g1 h)).elim

/-! ### Insert, Remove -/
def ownB (r : Root) (l : Lf) (s : Txt) : Bool := decide (lfB l = true ∧ findN r s = l.1 ∧ l.1 ≠ 0)
theorem ownB_iff {r : Root} {l : Lf} {s : Txt} : ownB r l s = true ↔ lfB l = true ∧ findN r s = l.1 ∧ l.1 ≠ 0 := by simp [ownB]
theorem ownB_root {r : Root} {l : Lf} {s : Txt} (h : ownB r l s = true) : rootB r = true := by
  obtain ⟨_, h2, h3⟩ := ownB_iff.1 h
  cases hr : rootB r with
  | true => rfl
  | false => simp only [findN, hr] at h2; exact (h3 h2.symm).elim
/-- What the reference asks first. -/
theorem ownB_ref (r : Root) (l : Lf) (s : Txt) : ownB r l s = (rootB r && (lfB l && (findN r s == l.1))) := by
  rw [Bool.eq_iff_iff, ownB_iff]
  simp only [Bool.and_eq_true, beq_iff_eq]
  constructor
  · intro h
    exact ⟨ownB_root (ownB_iff.2 h), h.1, h.2.1⟩
  · rintro ⟨h1, h2, h3⟩
    refine ⟨h2, h3, ?_⟩
    obtain ⟨g1, g2, g3, g4⟩ := rootB_iff.1 h1
    have hle := atN_le r.1 s
    have hlt : atN r.1 s < r.2.length := by omega
    have : findN r s = r.2[atN r.1 s] := by simp [findN, h1, hlt]
    have := g3 _ (List.getElem_mem hlt)
    omega
abbrev Ch := Root × List Lf × Int
def errC (e : Int) : Ch := (([], []), [], e)
def insN (r : Root) (l : Lf) (s : Txt) : Ch :=
  if ownB r l s then
    if 600 < s.length then errC 82
    else if l.2.1.contains s then errC 31
    else
      let es := insL l.2.1 (posN l.2.1 s) s
      if es.length ≤ 4 then (r, [(l.1, es, false)], 0)
      else
        let no := freeN r.2
        let k := atN r.1 s
        ((insL r.1 k (es.getD 3 []), insL r.2 (k + 1) (no : Int)), [(l.1, es.take 3, false), ((no : Int), es.drop 3, false)], 0)
  else errC 100
def remN (r : Root) (l : Lf) (s : Txt) : Ch :=
  if ownB r l s then
    if l.2.1.contains s then
      let es := delL l.2.1 (posN l.2.1 s)
      if 0 < es.length ∨ r.2.length = 1 then (r, [(l.1, es, false)], 0)
      else
        let k := atN r.1 s
        ((delL r.1 (min k (r.1.length - 1)), delL r.2 k), [(l.1, [], true)], 0)
    else errC 101
  else errC 100
theorem insL_length {α : Type} (l : List α) (i : Nat) (x : α) (h : i ≤ l.length) : (insL l i x).length = l.length + 1 := by simp [insL]; omega
theorem delL_length {α : Type} (l : List α) (i : Nat) (h : i < l.length) : (delL l i).length = l.length - 1 := by simp [delL]; omega
theorem pos_idx {l : List Txt} (h : riseL l = true) {s : Txt} (hs : s ∈ l) : l.idxOf s = posN l s := by
  have hc := contains_pos h s
  rw [List.contains_iff_mem.2 hs] at hc
  have hc := hc.symm
  simp only [Bool.and_eq_true, decide_eq_true_eq, beq_iff_eq] at hc
  obtain ⟨h1, h2⟩ := hc
  unfold List.idxOf
  rw [List.findIdx_eq h1]
  have h3 : l[posN l s] = s := by
    rw [List.getD_eq_getElem?_getD, List.getElem?_eq_getElem h1] at h2
    simpa using h2
  refine ⟨by simp [h3], fun j hj => ?_⟩
  have := (posN_lt h s j (by omega)).2 hj
  have := tlt_ne this
  simpa using this
theorem posN_lt_len {l : List Txt} (h : riseL l = true) {s : Txt} (hs : l.contains s = true) : posN l s < l.length := by
  have hc := contains_pos h s
  rw [hs] at hc
  have hc := hc.symm
  simp only [Bool.and_eq_true, decide_eq_true_eq] at hc
  exact hc.1
def chV (x : Ch) : AVal := .tuple [rootV x.1, .slice (lfv x.2.1) 3 .ro, .int .i64 x.2.2]
theorem ch_noOut (n : Nat) (x : Ch) : (chV x).noOut n = true := by simp [chV, AVal.noOut, noOutL, root_noOut, lfv_noOut]
theorem ch_noTok (n : Nat) (x : Ch) : (chV x).noTok n = true := by simp [chV, AVal.noTok, noTokL, root_noTok, lfv_noTok, Tag.below]
theorem wk_strv_nil (s : Nat) (t : Tag) : Wk (.slice [] s t) (.slice (strv []) 1 .ro) := Wk.nil s 1 t
theorem wk_iv_nil (s : Nat) (t : Tag) : Wk (.slice [] s t) (.slice (iv []) 1 .ro) := Wk.nil s 1 t
theorem wk_lfv_nil (s : Nat) (t : Tag) : Wk (.slice [] s t) (.slice (lfv []) 3 .ro) := Wk.nil s 3 t
end Go.AL
/-
  Seat 11 (leaf): what is told of calls, 2.
-/
set_option linter.unusedVariables false
namespace Go.Proofs.Ytlfnmhfmikomkaa
open Go.AL
noncomputable section
/-- A copy that never changes. -/
def cloneSE : Ent := (39, fun xs σ => match xs with
  | [.slice es s t] => some (.pure (okW 1 s es && (es.all strIs && hold (decide (es.length ≤ 1000000)))) (.slice es 1 .ro))
  | _ => none)
def cloneISE : Ent := (42, fun xs σ => match xs with
  | [.slice es s t] => some (.pure (okW 1 s es && (es.all isI64 && hold (decide (es.length ≤ 1000000)))) (.slice es 1 .ro))
  | _ => none)
def rootM (v : AVal) : Bool := rootIs v && hold (decide ((rootOf v).1.length ≤ 1000000 ∧ (rootOf v).2.length ≤ 1000000))
def lfM (v : AVal) : Bool := lfIs v && hold (decide ((lfOf v).2.1.length ≤ 1000000))
/-- The store in which a result's first cell lies. -/
def isR (σ : Sto) : Bool := @decide (∃ c, σ = Sto.push Sto.empty (.cells c)) (Classical.propDecidable _)
def nilRC : List AVal := [.slice [] 0 .nil, .slice [] 0 .nil]
def nilLC : List AVal := [.int .i64 0, .slice [] 0 .nil, .bool false]
def ownE : Ent := (34, fun xs σ => match xs with
  | [v, u, .str s] => some (.br (hold (ownB (rootOf v) (lfOf u) s))
      (.full (rootM v && (lfM u && isR σ)) (.tuple [.agg [.mrow 3 (strv (rootOf v).1).length, .mrow 5 (iv (rootOf v).2).length], .agg [.int .i64 (lfOf u).1, .mrow 7 (strv (lfOf u).2.1).length, .bool false], .int .i64 0])
        (Sto.set (Sto.set (Sto.pushRow (Sto.pushRow (Sto.pushRow (Sto.push (Sto.push σ (.cells nilRC)) (.cells nilLC)) (strv (rootOf v).1) 1) (iv (rootOf v).2) 1) (strv (lfOf u).2.1) 1)
          1 (.cells [.mrow 3 (strv (rootOf v).1).length, .mrow 5 (iv (rootOf v).2).length])) 2 (.cells [.int .i64 (lfOf u).1, .mrow 7 (strv (lfOf u).2.1).length, .bool false])))
      (.full (rootM v && (lfM u && isR σ)) (.tuple [.agg [.slice [] 0 .nil, .slice [] 0 .nil], .agg [.int .i64 0, .slice [] 0 .nil, .bool false], .int .i64 100])
        (Sto.set (Sto.set (Sto.push (Sto.push σ (.cells nilRC)) (.cells nilLC)) 1 (.cells nilRC)) 2 (.cells nilLC))))
  | _ => none)
/-- On the way that is never gone (an error's empty rows). -/
def noE (f : FuncId) (v : AVal) : Ent := (f, fun xs _ => match xs with
  | .slice [] _ .nil :: _ => some (.pure false v)
  | _ => none)
def insOrE : Ent := (insE.1, fun xs σ => match (noE insE.1 (.slice [] 1 .ro)).2 xs σ with
  | some a => some a
  | none => insE.2 xs σ)
def delOrE : Ent := (delE.1, fun xs σ => match (noE delE.1 (.slice [] 1 .ro)).2 xs σ with
  | some a => some a
  | none => delE.2 xs σ)
def hasE : Ent := (49, fun xs _ => match xs with
  | [.slice es s t, .str x] => some (.nm ((es.map AVal.strOf).contains x) fun y => .nm (if y then ((es.map AVal.strOf).idxOf x : Int) else -1) fun i => .pure (okW 1 s es && (es.all strIs && lenOk es.length)) (.int .i64 i))
  | _ => none)
def putE : Ent := (50, fun xs _ => match xs with
  | [.slice es s t, .int .i64 i, .str x] => some (.pure (okW 1 s es && (es.all strIs && hold (decide (0 ≤ i ∧ i ≤ es.length ∧ es.length ≤ 1000000)))) (.slice (strv (insL (es.map AVal.strOf) i.toNat x)) 1 .ro))
  | _ => none)
def cutE : Ent := (52, fun xs _ => match xs with
  | [.slice es s t, .int .i64 i] => some (.pure (okW 1 s es && (es.all strIs && hold (decide (0 ≤ i ∧ i < es.length ∧ es.length ≤ 1000000)))) (.slice (strv (delL (es.map AVal.strOf) i.toNat)) 1 .ro))
  | _ => none)
def chE (f : FuncId) (g : Root → Lf → Txt → Ch) (k : AVal → AVal → Bool) : Ent := (f, fun xs _ => match xs with
  | [v, u, .str s] => some (.nm (g (rootOf v) (lfOf u) s) fun x => .pure (k v u) (.tuple [.agg [.slice (strv x.1.1) 1 .ro, .slice (iv x.1.2) 1 .ro], .slice (lfv x.2.1) 3 .ro, .int .i64 x.2.2]))
  | _ => none)
def insertE : Ent := chE 11 insN fun v u => rootM v && lfM u
def removeE : Ent := chE 18 remN fun v u => rootM v && lfM u
def insertRE : Ent := chE 19 insN fun v u => (rootM v && hold (shortL (rootOf v).1)) && (lfM u && hold (shortL (lfOf u).2.1))
def removeRE : Ent := chE 20 remN fun v u => (rootM v && hold (shortL (rootOf v).1)) && (lfM u && hold (shortL (lfOf u).2.1))
def textsE : Ent := (15, fun xs _ => match xs with
  | [.slice es s t, .slice fs s' t'] => some (.pure (okW 1 s es && (okW 1 s' fs && (es.all strIs && (fs.all strIs && lenOk es.length)))) (.bool (hold (es.map AVal.strOf == fs.map AVal.strOf))))
  | _ => none)
def sameRootE : Ent := (21, fun xs _ => match xs with
  | [v, u] => some (.pure (rootG v && rootG u) (.bool (hold (rootOf v == rootOf u))))
  | _ => none)
def sameE : Ent := (22, fun xs _ => match xs with
  | [.slice es s t, .slice fs s' t'] => some (.pure (okW 3 s es && (okW 3 s' fs && (es.all lfIs && (fs.all lfIs && (lenOk es.length && es.all lfG))))) (.bool (hold (es.map lfOf == fs.map lfOf))))
  | _ => none)
end
end Go.Proofs.Ytlfnmhfmikomkaa
/-
  Seat 11 (leaf): what is told of calls, 3 (the laws' own functions).
-/
set_option linter.unusedVariables false
namespace Go.Proofs.Ytlfnmhfmikomkaa
open Go.AL
def textsB (l : List Txt) : Bool := decide (l.length ≤ 30 ∧ ∀ s ∈ l, s.length ≤ 700)
def smallB (r : Root) (ls : List Lf) : Bool := decide (textsB r.1 = true ∧ r.2.length ≤ 40 ∧ ls.length ≤ 40 ∧ ∀ l ∈ ls, textsB l.2.1 = true)
theorem textsB_iff {l : List Txt} : textsB l = true ↔ l.length ≤ 30 ∧ ∀ s ∈ l, s.length ≤ 700 := by simp only [textsB, decide_eq_true_eq]
theorem smallB_iff {r : Root} {ls : List Lf} : smallB r ls = true ↔ textsB r.1 = true ∧ r.2.length ≤ 40 ∧ ls.length ≤ 40 ∧ ∀ l ∈ ls, textsB l.2.1 = true := by simp only [smallB, decide_eq_true_eq]
noncomputable section
def awakeE : Ent := (9, fun xs _ => match xs with
  | [] => some (.pure true (.bool true))
  | _ => none)
def lawTextsE : Ent := (44, fun xs _ => match xs with
  | [.slice es s t] => some (.pure (okW 1 s es && (es.all strIs && lenOk es.length)) (.bool (hold (textsB (es.map AVal.strOf)))))
  | _ => none)
def smallE : Ent := (17, fun xs _ => match xs with
  | [v, .slice es s t] => some (.pure (rootG v && (okW 3 s es && (es.all lfIs && (lenOk es.length && es.all lfG)))) (.bool (hold (smallB (rootOf v) (es.map lfOf)))))
  | _ => none)
end
end Go.Proofs.Ytlfnmhfmikomkaa
/-
  Seat 11 (leaf): what is told of calls, 4 (spans, and whether all is right).
-/
set_option linter.unusedVariables false
namespace Go.Proofs.Ytlfnmhfmikomkaa
open Go.AL
/-- The leaves that a span has. -/
def rangeN (r : Root) (a b : Txt) : List Int := if rootB r = true ∧ tlt a b = true then (r.2.drop (atN r.1 a)).take (posN r.1 b + 1 - atN r.1 a) else []
def outP (r : Root) (i : Int) (s : Txt) : Bool := decide ((atN r.1 s : Int) ≠ i)
def idxP (p : Txt → Bool) (l : List Txt) : Int := if l.any p then (l.findIdx p : Int) else -1
def rightB (r : Root) (ls : List Lf) : Bool := decide (rootB r = true ∧ ls.length = r.2.length ∧ ∀ i, i < ls.length → lfB (ls.getD i (0, [], false)) = true ∧ (ls.getD i (0, [], false)).1 = r.2.getD i 0 ∧ ∀ s ∈ (ls.getD i (0, [], false)).2.1, atN r.1 s = i)
noncomputable section
def rangeE : Ent := (13, fun xs _ => match xs with
  | [v, .str a, .str b] => some (.nm (rangeN (rootOf v) a b) fun x => .pure (rootM v) (.slice (iv x) 1 .ro))
  | _ => none)
def rangeRE : Ent := (23, fun xs _ => match xs with
  | [v, .str a, .str b] => some (.nm (rangeN (rootOf v) a b) fun x => .pure (rootM v && (hold (shortL (rootOf v).1) && hold (decide (a.length ≤ 1000000)))) (.slice (iv x) 1 .ro))
  | _ => none)
def rightRE : Ent := (25, fun xs _ => match xs with
  | [v, .slice es s t] => some (.pure (rootH v && (okW 3 s es && (es.all lfIs && (lenOk es.length && es.all lfH)))) (.bool (hold (rightB (rootOf v) (es.map lfOf)))))
  | _ => none)
def rightE : Ent := (24, fun xs _ => match xs with
  | [v, .slice es s t] => some (.pure (rootG v && (okW 3 s es && (es.all lfIs && (lenOk es.length && es.all lfG)))) (.bool (hold (rightB (rootOf v) (es.map lfOf)))))
  | _ => none)
end
end Go.Proofs.Ytlfnmhfmikomkaa
/-
  Seat 11 (leaf): what is told of calls, 5 (a function value).
-/
set_option linter.unusedVariables false
namespace Go.Proofs.Ytlfnmhfmikomkaa
open Go.AL
noncomputable section
def right1E : Ent := (53, fun xs _ => match xs with
  | [.str s, .iptr cs, .iptr [.int .i64 i]] => some (.pure (rootG (.agg cs) && hold (riseL (rootOf (.agg cs)).1)) (.bool (hold (outP (rootOf (.agg cs)) i s))))
  | _ => none)
def isRight1 (g : FuncId) : Bool := Nat.beq g 53
def indexFE : Ent := (72, fun xs _ => match xs with
  | [.slice es s t, .func (.func g) [] [.iptr cs, .iptr [.int .i64 i]]] => some (.nm (idxP (outP (rootOf (.agg cs)) i) (es.map AVal.strOf)) fun y => .pure (isRight1 g && (okW 1 s es && (es.all strIs && (lenOk es.length && (rootG (.agg cs) && hold (riseL (rootOf (.agg cs)).1)))))) (.int .i64 y))
  | _ => none)
def containsFE : Ent := (55, fun xs _ => match xs with
  | [.slice es s t, .func (.func g) [] [.iptr cs, .iptr [.int .i64 i]]] => some (.pure (isRight1 g && (okW 1 s es && (es.all strIs && (lenOk es.length && (rootG (.agg cs) && hold (riseL (rootOf (.agg cs)).1)))))) (.bool (hold ((es.map AVal.strOf).any (outP (rootOf (.agg cs)) i)))))
  | _ => none)
end
end Go.Proofs.Ytlfnmhfmikomkaa
end

section
set_option linter.unusedVariables false
namespace Go.Proofs.Ytlfnmhfmikomkaa
open Go.AL
/-- A number in two bytes. -/
def twoB (n : Int) : Txt := [UInt8.ofNat (n / 256 % 256).toNat, UInt8.ofNat (n % 256).toNat]
def encT (l : List Txt) : Txt := l.flatMap fun s => twoB (s.length : Int) ++ s
def encN (l : List Int) : Txt := l.flatMap twoB
def tallB (s : Txt) : Bool := decide (600 < s.length)
def rootOk (r : Root) : Bool := rootB r && (decide (r.2.length ≤ 65535) && (r.2.all (fun n => decide (n ≤ 65535)) && !r.1.any tallB))
/-- A root's bytes, and the error. -/
def rootN (r : Root) : Txt × Int := if rootOk r then (twoB (r.1.length : Int) ++ encT r.1 ++ encN r.2, 0) else ([], 2)
def leafOk (l : Lf) : Bool := lfB l && !l.2.1.any tallB
def leafN (l : Lf) : Txt × Int := if leafOk l then (encT l.2.1, 0) else ([], 2)
/-- A number off the front. -/
def numN (s : Txt) : Int × Txt × Bool := match s with
  | a :: b :: r => ((a.toNat : Int) * 256 + (b.toNat : Int), r, true)
  | _ => (0, s, false)
/-- A text off the front. -/
def textN (s : Txt) : Txt × Txt × Bool :=
  if (numN s).2.2 then (if (numN s).2.1.length < (numN s).1.toNat then ([], (numN s).2.1, false) else ((numN s).2.1.take (numN s).1.toNat, (numN s).2.1.drop (numN s).1.toNat, true)) else ([], (numN s).2.1, false)
/-- So many texts off the front. -/
def textsN : Nat → Txt → Option (List Txt × Txt)
  | 0, s => some ([], s)
  | k + 1, s => if (textN s).2.2 then (textsN k (textN s).2.1).map fun x => ((textN s).1 :: x.1, x.2) else none
def numsN : Nat → Txt → Option (List Int × Txt)
  | 0, s => some ([], s)
  | k + 1, s => if (numN s).2.2 then (numsN k (numN s).2.1).map fun x => ((numN s).1 :: x.1, x.2) else none
/-- The root of bytes, and the error. -/
def parseRootN (s : Txt) : Root × Int := match textsN (numN s).1.toNat (numN s).2.1 with
  | none => (([], []), 10)
  | some (a, t) => match numsN ((numN s).1.toNat + 1) t with
    | none => (([], []), 10)
    | some (b, _) => if (rootN (a, b)).2 = 0 ∧ (rootN (a, b)).1 = s then ((a, b), 0) else (([], []), 10)
/-- All texts of bytes. -/
def allT : Nat → Txt → Option (List Txt)
  | _, [] => some []
  | 0, _ => none
  | k + 1, s => if (textN s).2.2 then (allT k (textN s).2.1).map fun x => (textN s).1 :: x else none
def parseLeafN (no : Int) (s : Txt) : Lf × Int := match allT s.length s with
  | none => ((0, [], false), 10)
  | some a => if (leafN (no, a, false)).2 = 0 then ((no, a, false), 0) else ((0, [], false), 10)
noncomputable section
def lenB (n : Nat) : Bool := hold (decide (n ≤ 1000000))
def tallE : Ent := (57, fun xs _ => match xs with
  | [.str s] => some (.pure true (.bool (hold (tallB s))))
  | _ => none)
def isTall (g : FuncId) : Bool := Nat.beq g 57
def indexTE : Ent := (72, fun xs _ => match xs with
  | [.slice es s t, .func (.func g) [] []] => some (.nm (idxP tallB (es.map AVal.strOf)) fun i => .pure (isTall g && (okW 1 s es && (es.all strIs && lenB es.length))) (.int .i64 i))
  | _ => none)
def containsTE : Ent := (55, fun xs _ => match xs with
  | [.slice es s t, .func (.func g) [] []] => some (.pure (isTall g && (okW 1 s es && (es.all strIs && lenB es.length))) (.bool (hold ((es.map AVal.strOf).any tallB))))
  | _ => none)
/-- The greatest number. -/
def maxN (l : List Int) : Int := l.foldl max (l.headD 0)
def maxE : Ent := (56, fun xs _ => match xs with
  | [.slice es s t] => some (.nm (maxN (es.map AVal.intOf)) fun y => .pure (okW 1 s es && (es.all isI64 && hold (decide (0 < es.length ∧ es.length ≤ 1000000)))) (.int .i64 y))
  | _ => none)
def twoE : Ent := (59, fun xs σ => match xs with
  | [.slice es s t, .int .i64 n] => match t with
    | .own p => some (.full (Nat.beq s 1 && (hold (decide (σ.own p = some es.length)) && lenB es.length)) (.slice (es ++ bw (twoB n)) 1 (.own p)) (σ.setOwn p (es.length + 2)))
    | .nil => match es with
      | [] => some (.full true (.slice (bw (twoB n)) 1 (.own σ.nown)) (σ.pushOwn 2))
      | _ => none
    | _ => none
  | _ => none)
def textsTE : Ent := (58, fun xs σ => match xs with
  | [.slice es s t, .slice fs s' t'] => match t with
    | .own p => some (.nm (encT (fs.map AVal.strOf)) fun y => .full (Nat.beq s 1 && (hold (decide (σ.own p = some es.length)) && (es.all byteIs && (lenB (es.length + y.length) && (okW 1 s' fs && (fs.all strIs && lenB fs.length)))))) (.slice (es ++ bw y) 1 (.own p)) (σ.setOwn p (es.length + y.length)))
    | .nil => match es with
      | [] => some (.nm (encT (fs.map AVal.strOf)) fun y => .full (lenB y.length && (okW 1 s' fs && (fs.all strIs && lenB fs.length))) (.slice (bw y) 1 (.own σ.nown)) (σ.pushOwn y.length))
      | _ => none
    | _ => none
  | _ => none)
def rootM2 (v : AVal) : Bool := rootG v && (lenB ((rootOf v).1.length + 200000) && (lenB (rootOf v).2.length && lenB ((encT (rootOf v).1).length + 200000)))
def lfM2 (v : AVal) : Bool := lfG v && (lenB (lfOf v).2.1.length && lenB (encT (lfOf v).2.1).length)
def rootBytesE : Ent := (28, fun xs _ => match xs with
  | [v] => some (.nm (rootN (rootOf v)) fun y => .pure (rootM2 v) (.tuple [.str y.1, .int .i64 y.2]))
  | _ => none)
def leafBytesE : Ent := (31, fun xs _ => match xs with
  | [v] => some (.nm (leafN (lfOf v)) fun y => .pure (lfM2 v) (.tuple [.str y.1, .int .i64 y.2]))
  | _ => none)
def numberE : Ent := (62, fun xs _ => match xs with
  | [.str s] => some (.nm (numN s) fun y => .pure (lenB s.length) (.tuple [.int .i64 y.1, .str y.2.1, .bool y.2.2]))
  | _ => none)
def sCloneE : Ent := (77, fun xs _ => match xs with
  | [.str s] => some (.pure (lenB s.length) (.str s))
  | _ => none)
def strCloneE : Ent := (73, fun xs _ => match xs with
  | [.str s] => some (.pure (lenB s.length) (.str s))
  | _ => none)
def textE : Ent := (63, fun xs _ => match xs with
  | [.str s] => some (.nm (textN s) fun y => .pure (lenB s.length) (.tuple [.str y.1, .str y.2.1, .bool y.2.2]))
  | _ => none)
def parseRootE : Ent := (30, fun xs _ => match xs with
  | [.str s] => some (.nm (parseRootN s) fun y => .pure (lenB (s.length + 200000)) (.tuple [rootV y.1, .int .i64 y.2]))
  | _ => none)
def parseLeafE : Ent := (33, fun xs _ => match xs with
  | [.int .i64 no, .str s] => some (.nm (parseLeafN no s) fun y => .pure (lenB s.length) (.tuple [lfV y.1, .int .i64 y.2]))
  | _ => none)
/-- The reference's. -/
def twoRE : Ent := (61, fun xs _ => match xs with
  | [.int .i64 n] => some (.pure (hold (decide (0 ≤ n))) (.str (twoB n)))
  | _ => none)
def layE : Ent := (60, fun xs _ => match xs with
  | [.slice es s t] => some (.nm ((es.map AVal.strOf).any tallB) fun b => .nm (if b then [] else encT (es.map AVal.strOf)) fun y => .pure (okW 1 s es && (es.all strIs && (lenB es.length && lenB (encT (es.map AVal.strOf)).length))) (.tuple [.str y, .bool !b]))
  | _ => none)
def rootBytesRE : Ent := (29, fun xs _ => match xs with
  | [v] => some (.nm (rootN (rootOf v)) fun y => .pure (rootM2 v && rootH v) (.tuple [.str y.1, .bool (y.2 == 0)]))
  | _ => none)
def leafBytesRE : Ent := (32, fun xs _ => match xs with
  | [v] => some (.nm (leafN (lfOf v)) fun y => .pure (lfM2 v && lfH v) (.tuple [.str y.1, .bool (y.2 == 0)]))
  | _ => none)
end
end Go.Proofs.Ytlfnmhfmikomkaa
end

section
set_option maxRecDepth 100000
set_option maxHeartbeats 0
set_option linter.unusedVariables false
namespace Go.Proofs.Ytlfnmhfmikomkaa.Ju
open Go.AL Go.Proofs
noncomputable def cMax : Cfg := { keep := [0, 2, 3, 4, 7, 15], cut := [(11, [0, 3, 4], []), (16, [3], [])] }
noncomputable def cRootB : Cfg := { keep := [0, 1, 2, 3, 4, 6, 26, 35, 36, 37, 38], cut := [(11, [4, 35, 36, 37], []), (18, [4], [])], orc := ofList [rootE, maxE, containsTE, twoE, textsTE], grow := [(4, 1)] }
noncomputable def cLeafB : Cfg := { keep := [0, 1, 2, 3, 11], cut := [], orc := ofList [leafE, containsTE, textsTE] }
noncomputable def cRootBR : Cfg := { keep := [0, 1, 2, 3, 4, 5, 6, 7, 16, 33, 54], cut := [(13, [1, 5, 6, 7], [1]), (20, [5, 6], [])], orc := ofList [rootRE, layE, twoRE] }
noncomputable def cLeafBR : Cfg := { keep := [0, 1, 2, 3, 6], cut := [], orc := ofList [leafRE, layE] }
noncomputable def cPR : Cfg := { keep := [0, 2, 3, 4, 5, 6, 7, 8, 9, 10, 11, 18, 19, 20, 28, 38, 39, 40, 48, 68], cut := [(9, [0, 2, 4, 5, 6, 18, 19], [2, 4]), (25, [0, 2, 4, 6, 38, 39], [2, 4]), (22, [0, 2, 4, 5, 6], [2, 4]), (38, [0, 2, 4], [2, 4])], orc := ofList [numberE, textE, rootBytesE] }
noncomputable def cPL : Cfg := { keep := [0, 1, 4, 5, 6, 7, 8, 9, 10, 12, 17, 25, 40], cut := [(7, [4, 6, 7], [4, 6]), (16, [4, 6], [4, 6])], orc := ofList [textE, leafBytesE] }
noncomputable def code_28_ : Code := (Try.f28.body).getD .skip
noncomputable def code_29_ : Code := (Try.f29.body).getD .skip
noncomputable def code_30_ : Code := (Try.f30.body).getD .skip
noncomputable def code_31_ : Code := (Try.f31.body).getD .skip
noncomputable def code_32_ : Code := (Try.f32.body).getD .skip
noncomputable def code_33_ : Code := (Try.f33.body).getD .skip
noncomputable def code_56_ : Code := (Try.f56.body).getD .skip
noncomputable def code_33_1_1_1 : Code := codeAt code_33_ [1, 1, 1]
noncomputable def code_28_1_1_1_1 : Code := codeAt code_28_ [1, 1, 1, 1]
noncomputable def code_30_1_1_1_1 : Code := codeAt code_30_ [1, 1, 1, 1]
noncomputable def code_56_1_1_1_1 : Code := codeAt code_56_ [1, 1, 1, 1]
noncomputable def code_29_1_1_1_1_1 : Code := codeAt code_29_ [1, 1, 1, 1, 1]
noncomputable def code_30_1_1_1_1_1 : Code := codeAt code_30_ [1, 1, 1, 1, 1]
noncomputable def code_33_1_1_0_1_0_0 : Code := codeAt code_33_ [1, 1, 0, 1, 0, 0]
noncomputable def code_28_1_1_1_0_1_0_0 : Code := codeAt code_28_ [1, 1, 1, 0, 1, 0, 0]
noncomputable def code_30_1_1_1_0_1_0_0 : Code := codeAt code_30_ [1, 1, 1, 0, 1, 0, 0]
noncomputable def code_56_1_1_1_0_1_0_0 : Code := codeAt code_56_ [1, 1, 1, 0, 1, 0, 0]
noncomputable def code_29_1_1_1_1_0_1_0_0 : Code := codeAt code_29_ [1, 1, 1, 1, 0, 1, 0, 0]
noncomputable def code_30_1_1_1_1_0_1_0_0 : Code := codeAt code_30_ [1, 1, 1, 1, 0, 1, 0, 0]
theorem max_r (l : List Int) (Q : AVal → Sto → Prop) : vc Try.prog cMax code_56_ (endK Try.prog Try.f56.results.toList Q) (St.start Try.f56.ntmps [.slice (iv l) 1 .ro] (Sto.empty)) =
  (brV (hold (decide ((↑(List.length (iv l)) : Int) < (1 : Int)))) true False (gb (decide ((0 : Int) ≤ (0 : Int) ∧ (0 : Int) < (↑(List.length (iv l)) : Int))) (gb (decide (1 ≤ List.length (elemAt (iv l) (0 : Int)) ∧ 0 < 1) && etaOk (Sh.int IntKind.i64) (List.getD (elemAt (iv l) (0 : Int)) 0 AVal.undef)) (loopV (fun s => St.norm [] [0, 3, 4] [] s) (vc Try.prog cMax code_56_1_1_1_0_1_0_0) (blockK 0 (thenK (fun s => cutV (vc Try.prog cMax code_56_1_1_1_1 (endK Try.prog (Array.toList (Go.Func.results Try.f56)) Q)) (St.norm [] [3] [] s)) (endK Try.prog (Array.toList (Go.Func.results Try.f56)) Q))) (St.mk 25 [(0, AVal.slice (iv l) 1 Tag.ro), (3, AVal.int IntKind.i64 (AVal.intOf (List.getD (elemAt (iv l) (0 : Int)) 0 AVal.undef))), (4, AVal.int IntKind.i64 (1 : Int))] [] [] Sto.empty))))) := by kernel_rfl
theorem max_i (l : List Int) (Q : AVal → Sto → Prop) (ho : OrcOk Try.prog cMax) (h : brV (hold (decide ((↑(List.length (iv l)) : Int) < (1 : Int)))) true False (gb (decide ((0 : Int) ≤ (0 : Int) ∧ (0 : Int) < (↑(List.length (iv l)) : Int))) (gb (decide (1 ≤ List.length (elemAt (iv l) (0 : Int)) ∧ 0 < 1) && etaOk (Sh.int IntKind.i64) (List.getD (elemAt (iv l) (0 : Int)) 0 AVal.undef)) (loopV (fun s => St.norm [] [0, 3, 4] [] s) (vc Try.prog cMax code_56_1_1_1_0_1_0_0) (blockK 0 (thenK (fun s => cutV (vc Try.prog cMax code_56_1_1_1_1 (endK Try.prog (Array.toList (Go.Func.results Try.f56)) Q)) (St.norm [] [3] [] s)) (endK Try.prog (Array.toList (Go.Func.results Try.f56)) Q))) (St.mk 25 [(0, AVal.slice (iv l) 1 Tag.ro), (3, AVal.int IntKind.i64 (AVal.intOf (List.getD (elemAt (iv l) (0 : Int)) 0 AVal.undef))), (4, AVal.int IntKind.i64 (1 : Int))] [] [] Sto.empty))))) : ACall Try.prog 56 [.slice (iv l) 1 .ro] (Sto.empty) Q :=
  ACall.intro hmix Try.func56 (c := code_56_) (by kernel_rfl) cMax ho (Nat.le_of_ble_eq_true (by kernel_rfl)) (by rw [max_r]; exact h)
noncomputable def maxL_S (l : List Int) (m : Int) (i : Nat) : St := St.mk 25 [(0, .slice (iv l) 1 .ro), (3, .int .i64 m), (4, .int .i64 (i : Int))] [] [] (Sto.empty)
noncomputable abbrev maxL_C : Code := code_56_1_1_1_0_1_0_0
theorem maxL_r (l : List Int) (m : Int) (i : Nat) (L : St → Prop) (K : Exit → St → Prop) : vc Try.prog cMax code_56_1_1_1_0_1_0_0 (thenK (fun s => L (St.norm [] [0, 3, 4] [] s)) K) (St.mk 25 [(0, .slice (iv l) 1 .ro), (3, .int .i64 m), (4, .int .i64 (i : Int))] [] [] (Sto.empty)) =
  (brV (hold (decide ((↑i : Int) < (↑(List.length (iv l)) : Int)))) true (gb (decide ((0 : Int) ≤ (↑i : Int) ∧ (↑i : Int) < (↑(List.length (iv l)) : Int))) (gb (decide (1 ≤ List.length (elemAt (iv l) (↑i : Int)) ∧ 0 < 1) && etaOk (Sh.int IntKind.i64) (List.getD (elemAt (iv l) (↑i : Int)) 0 AVal.undef)) (L (St.mk 25 [(0, AVal.slice (iv l) 1 Tag.ro), (3, AVal.int IntKind.i64 (if m < AVal.intOf (List.getD (elemAt (iv l) (↑i : Int)) 0 AVal.undef) then AVal.intOf (List.getD (elemAt (iv l) (↑i : Int)) 0 AVal.undef) else m)), (4, AVal.int IntKind.i64 (IntKind.wrap IntKind.i64 ((↑i : Int) + (1 : Int))))] [] [] Sto.empty)))) (K (Exit.exit 0) (St.mk 25 [(0, AVal.slice (iv l) 1 Tag.ro), (3, AVal.int IntKind.i64 m), (4, AVal.int IntKind.i64 (↑i : Int)), (15, AVal.bool (hold (decide ((↑i : Int) < (↑(List.length (iv l)) : Int)))))] [] [] Sto.empty))) := by kernel_rfl
noncomputable def maxF_S (m : Int) : St := St.mk 25 [(3, .int .i64 m)] [] [] (Sto.empty)
noncomputable abbrev maxF_C : Code := code_56_1_1_1_1
theorem maxF_r (m : Int) (Q : AVal → Sto → Prop) : vc Try.prog cMax code_56_1_1_1_1 (endK Try.prog Try.f56.results.toList Q) (St.mk 25 [(3, .int .i64 m)] [] [] (Sto.empty)) =
  (Q (AVal.int IntKind.i64 m) Sto.empty) := by kernel_rfl
theorem rootBt_r (r : Root) (Q : AVal → Sto → Prop) : vc Try.prog cRootB code_28_ (endK Try.prog Try.f28.results.toList Q) (St.start Try.f28.ntmps [rootV r] (Sto.empty)) =
  (gb (Go.Proofs.Ytlfnmhfmikomkaa.rootG (AVal.agg [AVal.slice (strv (Prod.fst r)) 1 Tag.ro, AVal.slice (iv (Prod.snd r)) 1 Tag.ro])) (brV (!hold (rootB (List.map AVal.strOf (strv (Prod.fst r)), List.map AVal.intOf (iv (Prod.snd r))))) false (brV (hold (decide ((65535 : Int) < (↑(List.length (iv (Prod.snd r))) : Int)))) false (∀ (y : Int), y = Go.Proofs.Ytlfnmhfmikomkaa.maxN (List.map AVal.intOf (iv (Prod.snd r))) → gb (List.all (iv (Prod.snd r)) isI64 && hold (decide (0 < List.length (iv (Prod.snd r)) ∧ List.length (iv (Prod.snd r)) ≤ 1000000))) (brV (hold (decide ((65535 : Int) < y))) false (gb (List.all (strv (Prod.fst r)) strIs && Go.Proofs.Ytlfnmhfmikomkaa.lenB (List.length (strv (Prod.fst r)))) (brV (hold (List.any (List.map AVal.strOf (strv (Prod.fst r))) Go.Proofs.Ytlfnmhfmikomkaa.tallB)) true (Q (AVal.tuple [AVal.str [], AVal.int IntKind.i64 (2 : Int)]) Sto.empty) (∀ (y : Txt), y = Go.Proofs.Ytlfnmhfmikomkaa.encT (List.map AVal.strOf (strv (Prod.fst r))) → gb (hold true && (List.all (bw (Go.Proofs.Ytlfnmhfmikomkaa.twoB (↑(List.length (strv (Prod.fst r))) : Int))) byteIs && (Go.Proofs.Ytlfnmhfmikomkaa.lenB (2 + List.length y) && (List.all (strv (Prod.fst r)) strIs && Go.Proofs.Ytlfnmhfmikomkaa.lenB (List.length (strv (Prod.fst r))))))) (loopV (fun s => St.norm [(4, 1)] [4, 35, 36, 37] [] s) (vc Try.prog cRootB code_28_1_1_1_0_1_0_0) (blockK 0 (thenK (fun s => cutV (vc Try.prog cRootB code_28_1_1_1_1 (endK Try.prog (Array.toList (Go.Func.results Try.f28)) Q)) (St.norm [(4, 1)] [4] [] s)) (endK Try.prog (Array.toList (Go.Func.results Try.f28)) Q))) (St.mk 47 [(4, AVal.slice (bw (Go.Proofs.Ytlfnmhfmikomkaa.twoB (↑(List.length (strv (Prod.fst r))) : Int)) ++ bw y) 1 (Tag.own 0)), (35, AVal.slice (iv (Prod.snd r)) 1 Tag.ro), (36, AVal.int IntKind.i64 (↑(List.length (iv (Prod.snd r))) : Int)), (37, AVal.int IntKind.i64 (0 : Int))] [] [] (Sto.setOwn (Sto.pushOwn Sto.empty 2) 0 (2 + List.length y))))))) (Q (AVal.tuple [AVal.str [], AVal.int IntKind.i64 (2 : Int)]) Sto.empty))) (Q (AVal.tuple [AVal.str [], AVal.int IntKind.i64 (2 : Int)]) Sto.empty)) (Q (AVal.tuple [AVal.str [], AVal.int IntKind.i64 (2 : Int)]) Sto.empty))) := by kernel_rfl
theorem rootBt_i (r : Root) (Q : AVal → Sto → Prop) (ho : OrcOk Try.prog cRootB) (h : gb (Go.Proofs.Ytlfnmhfmikomkaa.rootG (AVal.agg [AVal.slice (strv (Prod.fst r)) 1 Tag.ro, AVal.slice (iv (Prod.snd r)) 1 Tag.ro])) (brV (!hold (rootB (List.map AVal.strOf (strv (Prod.fst r)), List.map AVal.intOf (iv (Prod.snd r))))) false (brV (hold (decide ((65535 : Int) < (↑(List.length (iv (Prod.snd r))) : Int)))) false (∀ (y : Int), y = Go.Proofs.Ytlfnmhfmikomkaa.maxN (List.map AVal.intOf (iv (Prod.snd r))) → gb (List.all (iv (Prod.snd r)) isI64 && hold (decide (0 < List.length (iv (Prod.snd r)) ∧ List.length (iv (Prod.snd r)) ≤ 1000000))) (brV (hold (decide ((65535 : Int) < y))) false (gb (List.all (strv (Prod.fst r)) strIs && Go.Proofs.Ytlfnmhfmikomkaa.lenB (List.length (strv (Prod.fst r)))) (brV (hold (List.any (List.map AVal.strOf (strv (Prod.fst r))) Go.Proofs.Ytlfnmhfmikomkaa.tallB)) true (Q (AVal.tuple [AVal.str [], AVal.int IntKind.i64 (2 : Int)]) Sto.empty) (∀ (y : Txt), y = Go.Proofs.Ytlfnmhfmikomkaa.encT (List.map AVal.strOf (strv (Prod.fst r))) → gb (hold true && (List.all (bw (Go.Proofs.Ytlfnmhfmikomkaa.twoB (↑(List.length (strv (Prod.fst r))) : Int))) byteIs && (Go.Proofs.Ytlfnmhfmikomkaa.lenB (2 + List.length y) && (List.all (strv (Prod.fst r)) strIs && Go.Proofs.Ytlfnmhfmikomkaa.lenB (List.length (strv (Prod.fst r))))))) (loopV (fun s => St.norm [(4, 1)] [4, 35, 36, 37] [] s) (vc Try.prog cRootB code_28_1_1_1_0_1_0_0) (blockK 0 (thenK (fun s => cutV (vc Try.prog cRootB code_28_1_1_1_1 (endK Try.prog (Array.toList (Go.Func.results Try.f28)) Q)) (St.norm [(4, 1)] [4] [] s)) (endK Try.prog (Array.toList (Go.Func.results Try.f28)) Q))) (St.mk 47 [(4, AVal.slice (bw (Go.Proofs.Ytlfnmhfmikomkaa.twoB (↑(List.length (strv (Prod.fst r))) : Int)) ++ bw y) 1 (Tag.own 0)), (35, AVal.slice (iv (Prod.snd r)) 1 Tag.ro), (36, AVal.int IntKind.i64 (↑(List.length (iv (Prod.snd r))) : Int)), (37, AVal.int IntKind.i64 (0 : Int))] [] [] (Sto.setOwn (Sto.pushOwn Sto.empty 2) 0 (2 + List.length y))))))) (Q (AVal.tuple [AVal.str [], AVal.int IntKind.i64 (2 : Int)]) Sto.empty))) (Q (AVal.tuple [AVal.str [], AVal.int IntKind.i64 (2 : Int)]) Sto.empty)) (Q (AVal.tuple [AVal.str [], AVal.int IntKind.i64 (2 : Int)]) Sto.empty))) : ACall Try.prog 28 [rootV r] (Sto.empty) Q :=
  ACall.intro hmix Try.func28 (c := code_28_) (by kernel_rfl) cRootB ho (Nat.le_of_ble_eq_true (by kernel_rfl)) (by rw [rootBt_r]; exact h)
noncomputable def rootBL_S (o : Txt) (l : List Int) (p n i : Nat) (σ : Sto) : St := St.mk 47 [(4, .slice (bw o) 1 (.own p)), (35, .slice (iv l) 1 .ro), (36, .int .i64 (n : Int)), (37, .int .i64 (i : Int))] [] [] (σ)
noncomputable abbrev rootBL_C : Code := code_28_1_1_1_0_1_0_0
theorem rootBL_r (o : Txt) (l : List Int) (p n i : Nat) (σ : Sto) (L : St → Prop) (K : Exit → St → Prop) : vc Try.prog cRootB code_28_1_1_1_0_1_0_0 (thenK (fun s => L (St.norm [(4, 1)] [4, 35, 36, 37] [] s)) K) (St.mk 47 [(4, .slice (bw o) 1 (.own p)), (35, .slice (iv l) 1 .ro), (36, .int .i64 (n : Int)), (37, .int .i64 (i : Int))] [] [] (σ)) =
  (brV (hold (decide ((↑i : Int) < (↑n : Int)))) true (gb (decide ((0 : Int) ≤ (↑i : Int) ∧ (↑i : Int) < (↑(List.length (iv l)) : Int))) (gb (decide (1 ≤ List.length (elemAt (iv l) (↑i : Int)) ∧ 0 < 1) && etaOk (Sh.int IntKind.i64) (List.getD (elemAt (iv l) (↑i : Int)) 0 AVal.undef)) (gb (hold (decide (Sto.own σ p = some (List.length (bw o)))) && Go.Proofs.Ytlfnmhfmikomkaa.lenB (List.length (bw o))) (L (St.mk 47 [(4, AVal.slice (bw o ++ bw (Go.Proofs.Ytlfnmhfmikomkaa.twoB (AVal.intOf (List.getD (elemAt (iv l) (↑i : Int)) 0 AVal.undef)))) 1 (Tag.own p)), (35, AVal.slice (iv l) 1 Tag.ro), (36, AVal.int IntKind.i64 (↑n : Int)), (37, AVal.int IntKind.i64 (IntKind.wrap IntKind.i64 ((↑i : Int) + (1 : Int))))] [] [] (Sto.setOwn σ p (List.length (bw o) + 2))))))) (K (Exit.exit 0) (St.mk 47 [(4, AVal.slice (bw o) 1 (Tag.own p)), (35, AVal.slice (iv l) 1 Tag.ro), (36, AVal.int IntKind.i64 (↑n : Int)), (37, AVal.int IntKind.i64 (↑i : Int)), (38, AVal.bool (hold (decide ((↑i : Int) < (↑n : Int)))))] [] [] σ))) := by kernel_rfl
noncomputable def rootBF_S (o : Txt) (p : Nat) (σ : Sto) : St := St.mk 47 [(4, .slice (bw o) 1 (.own p))] [] [] (σ)
noncomputable abbrev rootBF_C : Code := code_28_1_1_1_1
theorem rootBF_r (o : Txt) (p : Nat) (σ : Sto) (Q : AVal → Sto → Prop) : vc Try.prog cRootB code_28_1_1_1_1 (endK Try.prog Try.f28.results.toList Q) (St.mk 47 [(4, .slice (bw o) 1 (.own p))] [] [] (σ)) =
  (gb (decide (List.all (bw o) isU8 = true)) (Q (AVal.tuple [AVal.str (List.map AL.byteOf (bw o)), AVal.int IntKind.i64 (0 : Int)]) σ)) := by kernel_rfl
theorem leafBt_r (x : Lf) (Q : AVal → Sto → Prop) : vc Try.prog cLeafB code_31_ (endK Try.prog Try.f31.results.toList Q) (St.start Try.f31.ntmps [lfV x] (Sto.empty)) =
  (gb (Go.Proofs.Ytlfnmhfmikomkaa.lfG (AVal.agg [AVal.int IntKind.i64 (Prod.fst x), AVal.slice (strv (Prod.fst (Prod.snd x))) 1 Tag.ro, AVal.bool (Prod.snd (Prod.snd x))])) (brV (!hold (lfB (Prod.fst x, List.map AVal.strOf (strv (Prod.fst (Prod.snd x))), Prod.snd (Prod.snd x)))) false (gb (List.all (strv (Prod.fst (Prod.snd x))) strIs && Go.Proofs.Ytlfnmhfmikomkaa.lenB (List.length (strv (Prod.fst (Prod.snd x))))) (brV (hold (List.any (List.map AVal.strOf (strv (Prod.fst (Prod.snd x)))) Go.Proofs.Ytlfnmhfmikomkaa.tallB)) true (Q (AVal.tuple [AVal.str [], AVal.int IntKind.i64 (2 : Int)]) Sto.empty) (∀ (y : Txt), y = Go.Proofs.Ytlfnmhfmikomkaa.encT (List.map AVal.strOf (strv (Prod.fst (Prod.snd x)))) → gb (Go.Proofs.Ytlfnmhfmikomkaa.lenB (List.length y) && (List.all (strv (Prod.fst (Prod.snd x))) strIs && Go.Proofs.Ytlfnmhfmikomkaa.lenB (List.length (strv (Prod.fst (Prod.snd x)))))) (gb (decide (List.all (bw y) isU8 = true)) (Q (AVal.tuple [AVal.str (List.map AL.byteOf (bw y)), AVal.int IntKind.i64 (0 : Int)]) (Sto.pushOwn Sto.empty (List.length y))))))) (Q (AVal.tuple [AVal.str [], AVal.int IntKind.i64 (2 : Int)]) Sto.empty))) := by kernel_rfl
theorem leafBt_i (x : Lf) (Q : AVal → Sto → Prop) (ho : OrcOk Try.prog cLeafB) (h : gb (Go.Proofs.Ytlfnmhfmikomkaa.lfG (AVal.agg [AVal.int IntKind.i64 (Prod.fst x), AVal.slice (strv (Prod.fst (Prod.snd x))) 1 Tag.ro, AVal.bool (Prod.snd (Prod.snd x))])) (brV (!hold (lfB (Prod.fst x, List.map AVal.strOf (strv (Prod.fst (Prod.snd x))), Prod.snd (Prod.snd x)))) false (gb (List.all (strv (Prod.fst (Prod.snd x))) strIs && Go.Proofs.Ytlfnmhfmikomkaa.lenB (List.length (strv (Prod.fst (Prod.snd x))))) (brV (hold (List.any (List.map AVal.strOf (strv (Prod.fst (Prod.snd x)))) Go.Proofs.Ytlfnmhfmikomkaa.tallB)) true (Q (AVal.tuple [AVal.str [], AVal.int IntKind.i64 (2 : Int)]) Sto.empty) (∀ (y : Txt), y = Go.Proofs.Ytlfnmhfmikomkaa.encT (List.map AVal.strOf (strv (Prod.fst (Prod.snd x)))) → gb (Go.Proofs.Ytlfnmhfmikomkaa.lenB (List.length y) && (List.all (strv (Prod.fst (Prod.snd x))) strIs && Go.Proofs.Ytlfnmhfmikomkaa.lenB (List.length (strv (Prod.fst (Prod.snd x)))))) (gb (decide (List.all (bw y) isU8 = true)) (Q (AVal.tuple [AVal.str (List.map AL.byteOf (bw y)), AVal.int IntKind.i64 (0 : Int)]) (Sto.pushOwn Sto.empty (List.length y))))))) (Q (AVal.tuple [AVal.str [], AVal.int IntKind.i64 (2 : Int)]) Sto.empty))) : ACall Try.prog 31 [lfV x] (Sto.empty) Q :=
  ACall.intro hmix Try.func31 (c := code_31_) (by kernel_rfl) cLeafB ho (Nat.le_of_ble_eq_true (by kernel_rfl)) (by rw [leafBt_r]; exact h)
theorem rootBR_r (r : Root) (Q : AVal → Sto → Prop) : vc Try.prog cRootBR code_29_ (endK Try.prog Try.f29.results.toList Q) (St.start Try.f29.ntmps [rootV r] (Sto.empty)) =
  (gb (Go.Proofs.Ytlfnmhfmikomkaa.rootH (AVal.agg [AVal.slice (strv (Prod.fst r)) 1 Tag.ro, AVal.slice (iv (Prod.snd r)) 1 Tag.ro])) (brV (!hold (rootB (List.map AVal.strOf (strv (Prod.fst r)), List.map AVal.intOf (iv (Prod.snd r))))) false (brV (hold (decide ((65535 : Int) < (↑(List.length (iv (Prod.snd r))) : Int)))) true (Q (AVal.tuple [AVal.str [], AVal.bool false]) Sto.empty) (∀ (y : Bool), y = List.any (List.map AVal.strOf (strv (Prod.fst r))) Go.Proofs.Ytlfnmhfmikomkaa.tallB → ∀ (y_1 : List UInt8), (y_1 = if y = true then [] else Go.Proofs.Ytlfnmhfmikomkaa.encT (List.map AVal.strOf (strv (Prod.fst r)))) → gb (List.all (strv (Prod.fst r)) strIs && (Go.Proofs.Ytlfnmhfmikomkaa.lenB (List.length (strv (Prod.fst r))) && Go.Proofs.Ytlfnmhfmikomkaa.lenB (List.length (Go.Proofs.Ytlfnmhfmikomkaa.encT (List.map AVal.strOf (strv (Prod.fst r))))))) (gb (hold (decide ((0 : Int) ≤ (↑(List.length (strv (Prod.fst r))) : Int)))) (gb (decide (2 + List.length y_1 ≤ 9223372036854775807)) (loopV (fun s => St.norm [] [1, 5, 6, 7] [1] s) (vc Try.prog cRootBR code_29_1_1_1_1_0_1_0_0) (blockK 0 (thenK (fun s => cutV (vc Try.prog cRootBR code_29_1_1_1_1_1 (endK Try.prog (Array.toList (Go.Func.results Try.f29)) Q)) (St.norm [] [5, 6] [] s)) (endK Try.prog (Array.toList (Go.Func.results Try.f29)) Q))) (St.mk 56 [(1, AVal.ptr (Oid.loc 1) 0), (5, AVal.bool !y), (6, AVal.str (Go.Proofs.Ytlfnmhfmikomkaa.twoB (↑(List.length (strv (Prod.fst r))) : Int) ++ y_1)), (7, AVal.int IntKind.i64 (0 : Int))] [] [(1, AObj.cells [AVal.slice (strv (Prod.fst r)) 1 Tag.ro, AVal.slice (iv (Prod.snd r)) 1 Tag.ro])] Sto.empty)))))) (Q (AVal.tuple [AVal.str [], AVal.bool false]) Sto.empty))) := by kernel_rfl
theorem rootBR_i (r : Root) (Q : AVal → Sto → Prop) (ho : OrcOk Try.prog cRootBR) (h : gb (Go.Proofs.Ytlfnmhfmikomkaa.rootH (AVal.agg [AVal.slice (strv (Prod.fst r)) 1 Tag.ro, AVal.slice (iv (Prod.snd r)) 1 Tag.ro])) (brV (!hold (rootB (List.map AVal.strOf (strv (Prod.fst r)), List.map AVal.intOf (iv (Prod.snd r))))) false (brV (hold (decide ((65535 : Int) < (↑(List.length (iv (Prod.snd r))) : Int)))) true (Q (AVal.tuple [AVal.str [], AVal.bool false]) Sto.empty) (∀ (y : Bool), y = List.any (List.map AVal.strOf (strv (Prod.fst r))) Go.Proofs.Ytlfnmhfmikomkaa.tallB → ∀ (y_1 : List UInt8), (y_1 = if y = true then [] else Go.Proofs.Ytlfnmhfmikomkaa.encT (List.map AVal.strOf (strv (Prod.fst r)))) → gb (List.all (strv (Prod.fst r)) strIs && (Go.Proofs.Ytlfnmhfmikomkaa.lenB (List.length (strv (Prod.fst r))) && Go.Proofs.Ytlfnmhfmikomkaa.lenB (List.length (Go.Proofs.Ytlfnmhfmikomkaa.encT (List.map AVal.strOf (strv (Prod.fst r))))))) (gb (hold (decide ((0 : Int) ≤ (↑(List.length (strv (Prod.fst r))) : Int)))) (gb (decide (2 + List.length y_1 ≤ 9223372036854775807)) (loopV (fun s => St.norm [] [1, 5, 6, 7] [1] s) (vc Try.prog cRootBR code_29_1_1_1_1_0_1_0_0) (blockK 0 (thenK (fun s => cutV (vc Try.prog cRootBR code_29_1_1_1_1_1 (endK Try.prog (Array.toList (Go.Func.results Try.f29)) Q)) (St.norm [] [5, 6] [] s)) (endK Try.prog (Array.toList (Go.Func.results Try.f29)) Q))) (St.mk 56 [(1, AVal.ptr (Oid.loc 1) 0), (5, AVal.bool !y), (6, AVal.str (Go.Proofs.Ytlfnmhfmikomkaa.twoB (↑(List.length (strv (Prod.fst r))) : Int) ++ y_1)), (7, AVal.int IntKind.i64 (0 : Int))] [] [(1, AObj.cells [AVal.slice (strv (Prod.fst r)) 1 Tag.ro, AVal.slice (iv (Prod.snd r)) 1 Tag.ro])] Sto.empty)))))) (Q (AVal.tuple [AVal.str [], AVal.bool false]) Sto.empty))) : ACall Try.prog 29 [rootV r] (Sto.empty) Q :=
  ACall.intro hmix Try.func29 (c := code_29_) (by kernel_rfl) cRootBR ho (Nat.le_of_ble_eq_true (by kernel_rfl)) (by rw [rootBR_r]; exact h)
noncomputable def rootBRL_S (r : Root) (b : Bool) (o : Txt) (i : Nat) : St := St.mk 56 [(1, .ptr (.loc 1) 0), (5, .bool b), (6, .str o), (7, .int .i64 (i : Int))] [] [(1, .cells (rootC r))] (Sto.empty)
noncomputable abbrev rootBRL_C : Code := code_29_1_1_1_1_0_1_0_0
theorem rootBRL_r (r : Root) (b : Bool) (o : Txt) (i : Nat) (L : St → Prop) (K : Exit → St → Prop) : vc Try.prog cRootBR code_29_1_1_1_1_0_1_0_0 (thenK (fun s => L (St.norm [] [1, 5, 6, 7] [1] s)) K) (St.mk 56 [(1, .ptr (.loc 1) 0), (5, .bool b), (6, .str o), (7, .int .i64 (i : Int))] [] [(1, .cells (rootC r))] (Sto.empty)) =
  (brV (hold (decide ((↑i : Int) < (↑(List.length (iv (Prod.snd r))) : Int)))) true (brV b true (gb (decide ((0 : Int) ≤ (↑i : Int) ∧ (↑i : Int) < (↑(List.length (iv (Prod.snd r))) : Int))) (gb (decide (1 ≤ List.length (elemAt (iv (Prod.snd r)) (↑i : Int)) ∧ 0 < 1) && etaOk (Sh.int IntKind.i64) (List.getD (elemAt (iv (Prod.snd r)) (↑i : Int)) 0 AVal.undef)) (gb (decide ((0 : Int) ≤ (↑i : Int) ∧ (↑i : Int) < (↑(List.length (iv (Prod.snd r))) : Int))) (gb (decide (1 ≤ List.length (elemAt (iv (Prod.snd r)) (↑i : Int)) ∧ 0 < 1) && etaOk (Sh.int IntKind.i64) (List.getD (elemAt (iv (Prod.snd r)) (↑i : Int)) 0 AVal.undef)) (gb (hold (decide ((0 : Int) ≤ AVal.intOf (List.getD (elemAt (iv (Prod.snd r)) (↑i : Int)) 0 AVal.undef)))) (gb (decide (List.length o + 2 ≤ 9223372036854775807)) (L (St.mk 56 [(1, AVal.ptr (Oid.loc 1) 0), (5, AVal.bool (hold (decide (AVal.intOf (List.getD (elemAt (iv (Prod.snd r)) (↑i : Int)) 0 AVal.undef) ≤ (65535 : Int))))), (6, AVal.str (o ++ Go.Proofs.Ytlfnmhfmikomkaa.twoB (AVal.intOf (List.getD (elemAt (iv (Prod.snd r)) (↑i : Int)) 0 AVal.undef)))), (7, AVal.int IntKind.i64 (IntKind.wrap IntKind.i64 ((↑i : Int) + (1 : Int))))] [] [(1, AObj.cells [AVal.slice (strv (Prod.fst r)) 1 Tag.ro, AVal.slice (iv (Prod.snd r)) 1 Tag.ro])] Sto.empty)))))))) (gb (decide ((0 : Int) ≤ (↑i : Int) ∧ (↑i : Int) < (↑(List.length (iv (Prod.snd r))) : Int))) (gb (decide (1 ≤ List.length (elemAt (iv (Prod.snd r)) (↑i : Int)) ∧ 0 < 1) && etaOk (Sh.int IntKind.i64) (List.getD (elemAt (iv (Prod.snd r)) (↑i : Int)) 0 AVal.undef)) (gb (hold (decide ((0 : Int) ≤ AVal.intOf (List.getD (elemAt (iv (Prod.snd r)) (↑i : Int)) 0 AVal.undef)))) (gb (decide (List.length o + 2 ≤ 9223372036854775807)) (L (St.mk 56 [(1, AVal.ptr (Oid.loc 1) 0), (5, AVal.bool false), (6, AVal.str (o ++ Go.Proofs.Ytlfnmhfmikomkaa.twoB (AVal.intOf (List.getD (elemAt (iv (Prod.snd r)) (↑i : Int)) 0 AVal.undef)))), (7, AVal.int IntKind.i64 (IntKind.wrap IntKind.i64 ((↑i : Int) + (1 : Int))))] [] [(1, AObj.cells [AVal.slice (strv (Prod.fst r)) 1 Tag.ro, AVal.slice (iv (Prod.snd r)) 1 Tag.ro])] Sto.empty))))))) (K (Exit.exit 0) (St.mk 56 [(1, AVal.ptr (Oid.loc 1) 0), (5, AVal.bool b), (6, AVal.str o), (7, AVal.int IntKind.i64 (↑i : Int)), (33, AVal.bool (hold (decide ((↑i : Int) < (↑(List.length (iv (Prod.snd r))) : Int)))))] [] [(1, AObj.cells [AVal.slice (strv (Prod.fst r)) 1 Tag.ro, AVal.slice (iv (Prod.snd r)) 1 Tag.ro])] Sto.empty))) := by kernel_rfl
noncomputable def rootBRF_S (b : Bool) (o : Txt) : St := St.mk 56 [(5, .bool b), (6, .str o)] [] [] (Sto.empty)
noncomputable abbrev rootBRF_C : Code := code_29_1_1_1_1_1
theorem rootBRF_r (b : Bool) (o : Txt) (Q : AVal → Sto → Prop) : vc Try.prog cRootBR code_29_1_1_1_1_1 (endK Try.prog Try.f29.results.toList Q) (St.mk 56 [(5, .bool b), (6, .str o)] [] [] (Sto.empty)) =
  (brV (!b) true (Q (AVal.tuple [AVal.str [], AVal.bool false]) Sto.empty) (Q (AVal.tuple [AVal.str o, AVal.bool true]) Sto.empty)) := by kernel_rfl
theorem leafBR_r (x : Lf) (Q : AVal → Sto → Prop) : vc Try.prog cLeafBR code_32_ (endK Try.prog Try.f32.results.toList Q) (St.start Try.f32.ntmps [lfV x] (Sto.empty)) =
  (gb (Go.Proofs.Ytlfnmhfmikomkaa.lfH (AVal.agg [AVal.int IntKind.i64 (Prod.fst x), AVal.slice (strv (Prod.fst (Prod.snd x))) 1 Tag.ro, AVal.bool (Prod.snd (Prod.snd x))])) (brV (!hold (lfB (Prod.fst x, List.map AVal.strOf (strv (Prod.fst (Prod.snd x))), Prod.snd (Prod.snd x)))) true (Q (AVal.tuple [AVal.str [], AVal.bool false]) Sto.empty) (∀ (y : Bool), y = List.any (List.map AVal.strOf (strv (Prod.fst (Prod.snd x)))) Go.Proofs.Ytlfnmhfmikomkaa.tallB → ∀ (y_1 : List UInt8), (y_1 = if y = true then [] else Go.Proofs.Ytlfnmhfmikomkaa.encT (List.map AVal.strOf (strv (Prod.fst (Prod.snd x))))) → gb (List.all (strv (Prod.fst (Prod.snd x))) strIs && (Go.Proofs.Ytlfnmhfmikomkaa.lenB (List.length (strv (Prod.fst (Prod.snd x)))) && Go.Proofs.Ytlfnmhfmikomkaa.lenB (List.length (Go.Proofs.Ytlfnmhfmikomkaa.encT (List.map AVal.strOf (strv (Prod.fst (Prod.snd x)))))))) (Q (AVal.tuple [AVal.str y_1, AVal.bool !y]) Sto.empty)))) := by kernel_rfl
theorem leafBR_i (x : Lf) (Q : AVal → Sto → Prop) (ho : OrcOk Try.prog cLeafBR) (h : gb (Go.Proofs.Ytlfnmhfmikomkaa.lfH (AVal.agg [AVal.int IntKind.i64 (Prod.fst x), AVal.slice (strv (Prod.fst (Prod.snd x))) 1 Tag.ro, AVal.bool (Prod.snd (Prod.snd x))])) (brV (!hold (lfB (Prod.fst x, List.map AVal.strOf (strv (Prod.fst (Prod.snd x))), Prod.snd (Prod.snd x)))) true (Q (AVal.tuple [AVal.str [], AVal.bool false]) Sto.empty) (∀ (y : Bool), y = List.any (List.map AVal.strOf (strv (Prod.fst (Prod.snd x)))) Go.Proofs.Ytlfnmhfmikomkaa.tallB → ∀ (y_1 : List UInt8), (y_1 = if y = true then [] else Go.Proofs.Ytlfnmhfmikomkaa.encT (List.map AVal.strOf (strv (Prod.fst (Prod.snd x))))) → gb (List.all (strv (Prod.fst (Prod.snd x))) strIs && (Go.Proofs.Ytlfnmhfmikomkaa.lenB (List.length (strv (Prod.fst (Prod.snd x)))) && Go.Proofs.Ytlfnmhfmikomkaa.lenB (List.length (Go.Proofs.Ytlfnmhfmikomkaa.encT (List.map AVal.strOf (strv (Prod.fst (Prod.snd x)))))))) (Q (AVal.tuple [AVal.str y_1, AVal.bool !y]) Sto.empty)))) : ACall Try.prog 32 [lfV x] (Sto.empty) Q :=
  ACall.intro hmix Try.func32 (c := code_32_) (by kernel_rfl) cLeafBR ho (Nat.le_of_ble_eq_true (by kernel_rfl)) (by rw [leafBR_r]; exact h)
theorem pr_r (s : Txt) (Q : AVal → Sto → Prop) : vc Try.prog cPR code_30_ (endK Try.prog Try.f30.results.toList Q) (St.start Try.f30.ntmps [.str s] (Sto.empty)) =
  (∀ (y : Int × Txt × Bool), y = Go.Proofs.Ytlfnmhfmikomkaa.numN s → gb (Go.Proofs.Ytlfnmhfmikomkaa.lenB (List.length s)) (loopV (fun s => St.norm [] [0, 2, 4, 5, 6, 18, 19] [2, 4] s) (vc Try.prog cPR code_30_1_1_1_0_1_0_0) (blockK 0 (thenK (fun s => cutV (vc Try.prog cPR code_30_1_1_1_1 (endK Try.prog (Array.toList (Go.Func.results Try.f30)) Q)) (St.norm [] [0, 2, 4, 5, 6] [2, 4] s)) (endK Try.prog (Array.toList (Go.Func.results Try.f30)) Q))) (St.mk 71 [(0, AVal.str s), (2, AVal.ptr (Oid.loc 2) 0), (4, AVal.ptr (Oid.loc 4) 0), (5, AVal.int IntKind.i64 (Prod.fst y)), (6, AVal.str (Prod.fst (Prod.snd y))), (18, AVal.int IntKind.i64 (Prod.fst y)), (19, AVal.int IntKind.i64 (0 : Int))] [] [(2, AObj.cells [AVal.slice [] 0 Tag.nil, AVal.slice [] 0 Tag.nil]), (4, AObj.cells [AVal.slice [] 0 Tag.nil, AVal.slice [] 0 Tag.nil])] Sto.empty))) := by kernel_rfl
theorem pr_i (s : Txt) (Q : AVal → Sto → Prop) (ho : OrcOk Try.prog cPR) (h : ∀ (y : Int × Txt × Bool), y = Go.Proofs.Ytlfnmhfmikomkaa.numN s → gb (Go.Proofs.Ytlfnmhfmikomkaa.lenB (List.length s)) (loopV (fun s => St.norm [] [0, 2, 4, 5, 6, 18, 19] [2, 4] s) (vc Try.prog cPR code_30_1_1_1_0_1_0_0) (blockK 0 (thenK (fun s => cutV (vc Try.prog cPR code_30_1_1_1_1 (endK Try.prog (Array.toList (Go.Func.results Try.f30)) Q)) (St.norm [] [0, 2, 4, 5, 6] [2, 4] s)) (endK Try.prog (Array.toList (Go.Func.results Try.f30)) Q))) (St.mk 71 [(0, AVal.str s), (2, AVal.ptr (Oid.loc 2) 0), (4, AVal.ptr (Oid.loc 4) 0), (5, AVal.int IntKind.i64 (Prod.fst y)), (6, AVal.str (Prod.fst (Prod.snd y))), (18, AVal.int IntKind.i64 (Prod.fst y)), (19, AVal.int IntKind.i64 (0 : Int))] [] [(2, AObj.cells [AVal.slice [] 0 Tag.nil, AVal.slice [] 0 Tag.nil]), (4, AObj.cells [AVal.slice [] 0 Tag.nil, AVal.slice [] 0 Tag.nil])] Sto.empty))) : ACall Try.prog 30 [.str s] (Sto.empty) Q :=
  ACall.intro hmix Try.func30 (c := code_30_) (by kernel_rfl) cPR ho (Nat.le_of_ble_eq_true (by kernel_rfl)) (by rw [pr_r]; exact h)
noncomputable def prANN_S (s left : Txt) (n : Int) (m i : Nat) : St := St.mk 71 [(0, .str s), (2, .ptr (.loc 2) 0), (4, .ptr (.loc 4) 0), (5, .int .i64 n), (6, .str left), (18, .int .i64 (m : Int)), (19, .int .i64 (i : Int))] [] [(2, .cells [.slice [] 0 .nil, .slice [] 0 .nil]), (4, .cells [.slice [] 0 .nil, .slice [] 0 .nil])] (Sto.empty)
noncomputable abbrev prANN_C : Code := code_30_1_1_1_0_1_0_0
theorem prANN_r (s left : Txt) (n : Int) (m i : Nat) (L : St → Prop) (K : Exit → St → Prop) : vc Try.prog cPR code_30_1_1_1_0_1_0_0 (thenK (fun s => L (St.norm [] [0, 2, 4, 5, 6, 18, 19] [2, 4] s)) K) (St.mk 71 [(0, .str s), (2, .ptr (.loc 2) 0), (4, .ptr (.loc 4) 0), (5, .int .i64 n), (6, .str left), (18, .int .i64 (m : Int)), (19, .int .i64 (i : Int))] [] [(2, .cells [.slice [] 0 .nil, .slice [] 0 .nil]), (4, .cells [.slice [] 0 .nil, .slice [] 0 .nil])] (Sto.empty)) =
  (brV (hold (decide ((↑i : Int) < (↑m : Int)))) true (∀ (y : Txt × Txt × Bool), y = Go.Proofs.Ytlfnmhfmikomkaa.textN left → gb (Go.Proofs.Ytlfnmhfmikomkaa.lenB (List.length left)) (brV (!Prod.snd (Prod.snd y)) true (K Exit.ret (St.mk 71 [(0, AVal.str s), (2, AVal.ptr (Oid.loc 2) 0), (4, AVal.ptr (Oid.loc 4) 0), (5, AVal.int IntKind.i64 n), (6, AVal.str (Prod.fst (Prod.snd y))), (18, AVal.int IntKind.i64 (↑m : Int)), (19, AVal.int IntKind.i64 (↑i : Int)), (20, AVal.bool (hold (decide ((↑i : Int) < (↑m : Int))))), (8, AVal.str (Prod.fst y)), (7, AVal.bool (Prod.snd (Prod.snd y))), (28, AVal.bool !Prod.snd (Prod.snd y)), (3, AVal.int IntKind.i64 (10 : Int))] [] [(2, AObj.cells [AVal.slice [] 0 Tag.nil, AVal.slice [] 0 Tag.nil]), (4, AObj.cells [AVal.slice [] 0 Tag.nil, AVal.slice [] 0 Tag.nil])] Sto.empty)) (L (St.mk 71 [(0, AVal.str s), (2, AVal.ptr (Oid.loc 2) 0), (4, AVal.ptr (Oid.loc 4) 0), (5, AVal.int IntKind.i64 n), (6, AVal.str (Prod.fst (Prod.snd y))), (18, AVal.int IntKind.i64 (↑m : Int)), (19, AVal.int IntKind.i64 (IntKind.wrap IntKind.i64 ((↑i : Int) + (1 : Int))))] [] [(2, AObj.cells [AVal.slice [] 0 Tag.nil, AVal.slice [] 0 Tag.nil]), (4, AObj.cells [AVal.slice [AVal.str (Prod.fst y)] 1 (Tag.own 0), AVal.slice [] 0 Tag.nil])] (Sto.pushOwn Sto.empty 1))))) (K (Exit.exit 0) (St.mk 71 [(0, AVal.str s), (2, AVal.ptr (Oid.loc 2) 0), (4, AVal.ptr (Oid.loc 4) 0), (5, AVal.int IntKind.i64 n), (6, AVal.str left), (18, AVal.int IntKind.i64 (↑m : Int)), (19, AVal.int IntKind.i64 (↑i : Int)), (20, AVal.bool (hold (decide ((↑i : Int) < (↑m : Int)))))] [] [(2, AObj.cells [AVal.slice [] 0 Tag.nil, AVal.slice [] 0 Tag.nil]), (4, AObj.cells [AVal.slice [] 0 Tag.nil, AVal.slice [] 0 Tag.nil])] Sto.empty))) := by kernel_rfl
noncomputable def prCNN_S (s left : Txt) (n : Int) : St := St.mk 71 [(0, .str s), (2, .ptr (.loc 2) 0), (4, .ptr (.loc 4) 0), (5, .int .i64 n), (6, .str left)] [] [(2, .cells [.slice [] 0 .nil, .slice [] 0 .nil]), (4, .cells [.slice [] 0 .nil, .slice [] 0 .nil])] (Sto.empty)
noncomputable abbrev prCNN_C : Code := code_30_1_1_1_1
theorem prCNN_r (s left : Txt) (n : Int) (K : Exit → St → Prop) : vc Try.prog cPR code_30_1_1_1_1 K (St.mk 71 [(0, .str s), (2, .ptr (.loc 2) 0), (4, .ptr (.loc 4) 0), (5, .int .i64 n), (6, .str left)] [] [(2, .cells [.slice [] 0 .nil, .slice [] 0 .nil]), (4, .cells [.slice [] 0 .nil, .slice [] 0 .nil])] (Sto.empty)) =
  (loopV (fun s => St.norm [] [0, 2, 4, 6, 38, 39] [2, 4] s) (vc Try.prog cPR code_30_1_1_1_1_0_1_0_0) (blockK 2 (thenK (fun s => cutV (vc Try.prog cPR code_30_1_1_1_1_1 K) (St.norm [] [0, 2, 4] [2, 4] s)) K)) (St.mk 71 [(0, AVal.str s), (2, AVal.ptr (Oid.loc 2) 0), (4, AVal.ptr (Oid.loc 4) 0), (6, AVal.str left), (38, AVal.int IntKind.i64 (IntKind.wrap IntKind.i64 (n + (1 : Int)))), (39, AVal.int IntKind.i64 (0 : Int))] [] [(2, AObj.cells [AVal.slice [] 0 Tag.nil, AVal.slice [] 0 Tag.nil]), (4, AObj.cells [AVal.slice [] 0 Tag.nil, AVal.slice [] 0 Tag.nil])] Sto.empty)) := by kernel_rfl
noncomputable def prAON_S (s left : Txt) (n : Int) (m i : Nat) (l : List Txt) (k : Nat) : St := St.mk 71 [(0, .str s), (2, .ptr (.loc 2) 0), (4, .ptr (.loc 4) 0), (5, .int .i64 n), (6, .str left), (18, .int .i64 (m : Int)), (19, .int .i64 (i : Int))] [] [(2, .cells [.slice [] 0 .nil, .slice [] 0 .nil]), (4, .cells [.slice (strv l) 1 (.own 0), .slice [] 0 .nil])] (Sto.pushOwn Sto.empty k)
noncomputable abbrev prAON_C : Code := code_30_1_1_1_0_1_0_0
theorem prAON_r (s left : Txt) (n : Int) (m i : Nat) (l : List Txt) (k : Nat) (L : St → Prop) (K : Exit → St → Prop) : vc Try.prog cPR code_30_1_1_1_0_1_0_0 (thenK (fun s => L (St.norm [] [0, 2, 4, 5, 6, 18, 19] [2, 4] s)) K) (St.mk 71 [(0, .str s), (2, .ptr (.loc 2) 0), (4, .ptr (.loc 4) 0), (5, .int .i64 n), (6, .str left), (18, .int .i64 (m : Int)), (19, .int .i64 (i : Int))] [] [(2, .cells [.slice [] 0 .nil, .slice [] 0 .nil]), (4, .cells [.slice (strv l) 1 (.own 0), .slice [] 0 .nil])] (Sto.pushOwn Sto.empty k)) =
  (brV (hold (decide ((↑i : Int) < (↑m : Int)))) true (∀ (y : Txt × Txt × Bool), y = Go.Proofs.Ytlfnmhfmikomkaa.textN left → gb (Go.Proofs.Ytlfnmhfmikomkaa.lenB (List.length left)) (brV (!Prod.snd (Prod.snd y)) true (K Exit.ret (St.mk 71 [(0, AVal.str s), (2, AVal.ptr (Oid.loc 2) 0), (4, AVal.ptr (Oid.loc 4) 0), (5, AVal.int IntKind.i64 n), (6, AVal.str (Prod.fst (Prod.snd y))), (18, AVal.int IntKind.i64 (↑m : Int)), (19, AVal.int IntKind.i64 (↑i : Int)), (20, AVal.bool (hold (decide ((↑i : Int) < (↑m : Int))))), (8, AVal.str (Prod.fst y)), (7, AVal.bool (Prod.snd (Prod.snd y))), (28, AVal.bool !Prod.snd (Prod.snd y)), (3, AVal.int IntKind.i64 (10 : Int))] [] [(2, AObj.cells [AVal.slice [] 0 Tag.nil, AVal.slice [] 0 Tag.nil]), (4, AObj.cells [AVal.slice (strv l) 1 (Tag.own 0), AVal.slice [] 0 Tag.nil])] (Sto.pushOwn Sto.empty k))) (gb (decide (decide (true = true ∧ some k = some (List.length (strv l)) ∧ (List.length (strv l) + 1) * 16 ≤ 140737488355328 ∧ List.length (strv l) + 1 ≤ 9223372036854775807) = true ∧ true = true)) (L (St.mk 71 [(0, AVal.str s), (2, AVal.ptr (Oid.loc 2) 0), (4, AVal.ptr (Oid.loc 4) 0), (5, AVal.int IntKind.i64 n), (6, AVal.str (Prod.fst (Prod.snd y))), (18, AVal.int IntKind.i64 (↑m : Int)), (19, AVal.int IntKind.i64 (IntKind.wrap IntKind.i64 ((↑i : Int) + (1 : Int))))] [] [(2, AObj.cells [AVal.slice [] 0 Tag.nil, AVal.slice [] 0 Tag.nil]), (4, AObj.cells [AVal.slice (strv l ++ [AVal.str (Prod.fst y)]) 1 (Tag.own 0), AVal.slice [] 0 Tag.nil])] (Sto.setOwn (Sto.pushOwn Sto.empty k) 0 (List.length (strv l) + 1))))))) (K (Exit.exit 0) (St.mk 71 [(0, AVal.str s), (2, AVal.ptr (Oid.loc 2) 0), (4, AVal.ptr (Oid.loc 4) 0), (5, AVal.int IntKind.i64 n), (6, AVal.str left), (18, AVal.int IntKind.i64 (↑m : Int)), (19, AVal.int IntKind.i64 (↑i : Int)), (20, AVal.bool (hold (decide ((↑i : Int) < (↑m : Int)))))] [] [(2, AObj.cells [AVal.slice [] 0 Tag.nil, AVal.slice [] 0 Tag.nil]), (4, AObj.cells [AVal.slice (strv l) 1 (Tag.own 0), AVal.slice [] 0 Tag.nil])] (Sto.pushOwn Sto.empty k)))) := by kernel_rfl
noncomputable def prCON_S (s left : Txt) (n : Int) (l : List Txt) (k : Nat) : St := St.mk 71 [(0, .str s), (2, .ptr (.loc 2) 0), (4, .ptr (.loc 4) 0), (5, .int .i64 n), (6, .str left)] [] [(2, .cells [.slice [] 0 .nil, .slice [] 0 .nil]), (4, .cells [.slice (strv l) 1 (.own 0), .slice [] 0 .nil])] (Sto.pushOwn Sto.empty k)
noncomputable abbrev prCON_C : Code := code_30_1_1_1_1
theorem prCON_r (s left : Txt) (n : Int) (l : List Txt) (k : Nat) (K : Exit → St → Prop) : vc Try.prog cPR code_30_1_1_1_1 K (St.mk 71 [(0, .str s), (2, .ptr (.loc 2) 0), (4, .ptr (.loc 4) 0), (5, .int .i64 n), (6, .str left)] [] [(2, .cells [.slice [] 0 .nil, .slice [] 0 .nil]), (4, .cells [.slice (strv l) 1 (.own 0), .slice [] 0 .nil])] (Sto.pushOwn Sto.empty k)) =
  (loopV (fun s => St.norm [] [0, 2, 4, 6, 38, 39] [2, 4] s) (vc Try.prog cPR code_30_1_1_1_1_0_1_0_0) (blockK 2 (thenK (fun s => cutV (vc Try.prog cPR code_30_1_1_1_1_1 K) (St.norm [] [0, 2, 4] [2, 4] s)) K)) (St.mk 71 [(0, AVal.str s), (2, AVal.ptr (Oid.loc 2) 0), (4, AVal.ptr (Oid.loc 4) 0), (6, AVal.str left), (38, AVal.int IntKind.i64 (IntKind.wrap IntKind.i64 (n + (1 : Int)))), (39, AVal.int IntKind.i64 (0 : Int))] [] [(2, AObj.cells [AVal.slice [] 0 Tag.nil, AVal.slice [] 0 Tag.nil]), (4, AObj.cells [AVal.slice (strv l) 1 (Tag.own 0), AVal.slice [] 0 Tag.nil])] (Sto.pushOwn Sto.empty k))) := by kernel_rfl
noncomputable def prBNN_S (s left : Txt) (m i : Nat) : St := St.mk 71 [(0, .str s), (2, .ptr (.loc 2) 0), (4, .ptr (.loc 4) 0), (6, .str left), (38, .int .i64 (m : Int)), (39, .int .i64 (i : Int))] [] [(2, .cells [.slice [] 0 .nil, .slice [] 0 .nil]), (4, .cells [.slice [] 0 .nil, .slice [] 0 .nil])] (Sto.empty)
noncomputable abbrev prBNN_C : Code := code_30_1_1_1_1_0_1_0_0
theorem prBNN_r (s left : Txt) (m i : Nat) (L : St → Prop) (K : Exit → St → Prop) : vc Try.prog cPR code_30_1_1_1_1_0_1_0_0 (thenK (fun s => L (St.norm [] [0, 2, 4, 6, 38, 39] [2, 4] s)) K) (St.mk 71 [(0, .str s), (2, .ptr (.loc 2) 0), (4, .ptr (.loc 4) 0), (6, .str left), (38, .int .i64 (m : Int)), (39, .int .i64 (i : Int))] [] [(2, .cells [.slice [] 0 .nil, .slice [] 0 .nil]), (4, .cells [.slice [] 0 .nil, .slice [] 0 .nil])] (Sto.empty)) =
  (brV (hold (decide ((↑i : Int) < (↑m : Int)))) true (∀ (y : Int × Txt × Bool), y = Go.Proofs.Ytlfnmhfmikomkaa.numN left → gb (Go.Proofs.Ytlfnmhfmikomkaa.lenB (List.length left)) (brV (!Prod.snd (Prod.snd y)) true (K Exit.ret (St.mk 71 [(0, AVal.str s), (2, AVal.ptr (Oid.loc 2) 0), (4, AVal.ptr (Oid.loc 4) 0), (6, AVal.str (Prod.fst (Prod.snd y))), (38, AVal.int IntKind.i64 (↑m : Int)), (39, AVal.int IntKind.i64 (↑i : Int)), (40, AVal.bool (hold (decide ((↑i : Int) < (↑m : Int))))), (9, AVal.int IntKind.i64 (Prod.fst y)), (7, AVal.bool (Prod.snd (Prod.snd y))), (48, AVal.bool !Prod.snd (Prod.snd y)), (3, AVal.int IntKind.i64 (10 : Int))] [] [(2, AObj.cells [AVal.slice [] 0 Tag.nil, AVal.slice [] 0 Tag.nil]), (4, AObj.cells [AVal.slice [] 0 Tag.nil, AVal.slice [] 0 Tag.nil])] Sto.empty)) (L (St.mk 71 [(0, AVal.str s), (2, AVal.ptr (Oid.loc 2) 0), (4, AVal.ptr (Oid.loc 4) 0), (6, AVal.str (Prod.fst (Prod.snd y))), (38, AVal.int IntKind.i64 (↑m : Int)), (39, AVal.int IntKind.i64 (IntKind.wrap IntKind.i64 ((↑i : Int) + (1 : Int))))] [] [(2, AObj.cells [AVal.slice [] 0 Tag.nil, AVal.slice [] 0 Tag.nil]), (4, AObj.cells [AVal.slice [] 0 Tag.nil, AVal.slice [AVal.int IntKind.i64 (Prod.fst y)] 1 (Tag.own 0)])] (Sto.pushOwn Sto.empty 1))))) (K (Exit.exit 2) (St.mk 71 [(0, AVal.str s), (2, AVal.ptr (Oid.loc 2) 0), (4, AVal.ptr (Oid.loc 4) 0), (6, AVal.str left), (38, AVal.int IntKind.i64 (↑m : Int)), (39, AVal.int IntKind.i64 (↑i : Int)), (40, AVal.bool (hold (decide ((↑i : Int) < (↑m : Int)))))] [] [(2, AObj.cells [AVal.slice [] 0 Tag.nil, AVal.slice [] 0 Tag.nil]), (4, AObj.cells [AVal.slice [] 0 Tag.nil, AVal.slice [] 0 Tag.nil])] Sto.empty))) := by kernel_rfl
noncomputable def prBON_S (s left : Txt) (m i : Nat) (l : List Txt) (k : Nat) : St := St.mk 71 [(0, .str s), (2, .ptr (.loc 2) 0), (4, .ptr (.loc 4) 0), (6, .str left), (38, .int .i64 (m : Int)), (39, .int .i64 (i : Int))] [] [(2, .cells [.slice [] 0 .nil, .slice [] 0 .nil]), (4, .cells [.slice (strv l) 1 (.own 0), .slice [] 0 .nil])] (Sto.pushOwn Sto.empty k)
noncomputable abbrev prBON_C : Code := code_30_1_1_1_1_0_1_0_0
theorem prBON_r (s left : Txt) (m i : Nat) (l : List Txt) (k : Nat) (L : St → Prop) (K : Exit → St → Prop) : vc Try.prog cPR code_30_1_1_1_1_0_1_0_0 (thenK (fun s => L (St.norm [] [0, 2, 4, 6, 38, 39] [2, 4] s)) K) (St.mk 71 [(0, .str s), (2, .ptr (.loc 2) 0), (4, .ptr (.loc 4) 0), (6, .str left), (38, .int .i64 (m : Int)), (39, .int .i64 (i : Int))] [] [(2, .cells [.slice [] 0 .nil, .slice [] 0 .nil]), (4, .cells [.slice (strv l) 1 (.own 0), .slice [] 0 .nil])] (Sto.pushOwn Sto.empty k)) =
  (brV (hold (decide ((↑i : Int) < (↑m : Int)))) true (∀ (y : Int × Txt × Bool), y = Go.Proofs.Ytlfnmhfmikomkaa.numN left → gb (Go.Proofs.Ytlfnmhfmikomkaa.lenB (List.length left)) (brV (!Prod.snd (Prod.snd y)) true (K Exit.ret (St.mk 71 [(0, AVal.str s), (2, AVal.ptr (Oid.loc 2) 0), (4, AVal.ptr (Oid.loc 4) 0), (6, AVal.str (Prod.fst (Prod.snd y))), (38, AVal.int IntKind.i64 (↑m : Int)), (39, AVal.int IntKind.i64 (↑i : Int)), (40, AVal.bool (hold (decide ((↑i : Int) < (↑m : Int))))), (9, AVal.int IntKind.i64 (Prod.fst y)), (7, AVal.bool (Prod.snd (Prod.snd y))), (48, AVal.bool !Prod.snd (Prod.snd y)), (3, AVal.int IntKind.i64 (10 : Int))] [] [(2, AObj.cells [AVal.slice [] 0 Tag.nil, AVal.slice [] 0 Tag.nil]), (4, AObj.cells [AVal.slice (strv l) 1 (Tag.own 0), AVal.slice [] 0 Tag.nil])] (Sto.pushOwn Sto.empty k))) (L (St.mk 71 [(0, AVal.str s), (2, AVal.ptr (Oid.loc 2) 0), (4, AVal.ptr (Oid.loc 4) 0), (6, AVal.str (Prod.fst (Prod.snd y))), (38, AVal.int IntKind.i64 (↑m : Int)), (39, AVal.int IntKind.i64 (IntKind.wrap IntKind.i64 ((↑i : Int) + (1 : Int))))] [] [(2, AObj.cells [AVal.slice [] 0 Tag.nil, AVal.slice [] 0 Tag.nil]), (4, AObj.cells [AVal.slice (strv l) 1 (Tag.own 0), AVal.slice [AVal.int IntKind.i64 (Prod.fst y)] 1 (Tag.own 1)])] (Sto.pushOwn (Sto.pushOwn Sto.empty k) 1))))) (K (Exit.exit 2) (St.mk 71 [(0, AVal.str s), (2, AVal.ptr (Oid.loc 2) 0), (4, AVal.ptr (Oid.loc 4) 0), (6, AVal.str left), (38, AVal.int IntKind.i64 (↑m : Int)), (39, AVal.int IntKind.i64 (↑i : Int)), (40, AVal.bool (hold (decide ((↑i : Int) < (↑m : Int)))))] [] [(2, AObj.cells [AVal.slice [] 0 Tag.nil, AVal.slice [] 0 Tag.nil]), (4, AObj.cells [AVal.slice (strv l) 1 (Tag.own 0), AVal.slice [] 0 Tag.nil])] (Sto.pushOwn Sto.empty k)))) := by kernel_rfl
noncomputable def prBNO_S (s left : Txt) (m i : Nat) (b : List Int) (k : Nat) : St := St.mk 71 [(0, .str s), (2, .ptr (.loc 2) 0), (4, .ptr (.loc 4) 0), (6, .str left), (38, .int .i64 (m : Int)), (39, .int .i64 (i : Int))] [] [(2, .cells [.slice [] 0 .nil, .slice [] 0 .nil]), (4, .cells [.slice [] 0 .nil, .slice (iv b) 1 (.own 0)])] (Sto.pushOwn Sto.empty k)
noncomputable abbrev prBNO_C : Code := code_30_1_1_1_1_0_1_0_0
theorem prBNO_r (s left : Txt) (m i : Nat) (b : List Int) (k : Nat) (L : St → Prop) (K : Exit → St → Prop) : vc Try.prog cPR code_30_1_1_1_1_0_1_0_0 (thenK (fun s => L (St.norm [] [0, 2, 4, 6, 38, 39] [2, 4] s)) K) (St.mk 71 [(0, .str s), (2, .ptr (.loc 2) 0), (4, .ptr (.loc 4) 0), (6, .str left), (38, .int .i64 (m : Int)), (39, .int .i64 (i : Int))] [] [(2, .cells [.slice [] 0 .nil, .slice [] 0 .nil]), (4, .cells [.slice [] 0 .nil, .slice (iv b) 1 (.own 0)])] (Sto.pushOwn Sto.empty k)) =
  (brV (hold (decide ((↑i : Int) < (↑m : Int)))) true (∀ (y : Int × Txt × Bool), y = Go.Proofs.Ytlfnmhfmikomkaa.numN left → gb (Go.Proofs.Ytlfnmhfmikomkaa.lenB (List.length left)) (brV (!Prod.snd (Prod.snd y)) true (K Exit.ret (St.mk 71 [(0, AVal.str s), (2, AVal.ptr (Oid.loc 2) 0), (4, AVal.ptr (Oid.loc 4) 0), (6, AVal.str (Prod.fst (Prod.snd y))), (38, AVal.int IntKind.i64 (↑m : Int)), (39, AVal.int IntKind.i64 (↑i : Int)), (40, AVal.bool (hold (decide ((↑i : Int) < (↑m : Int))))), (9, AVal.int IntKind.i64 (Prod.fst y)), (7, AVal.bool (Prod.snd (Prod.snd y))), (48, AVal.bool !Prod.snd (Prod.snd y)), (3, AVal.int IntKind.i64 (10 : Int))] [] [(2, AObj.cells [AVal.slice [] 0 Tag.nil, AVal.slice [] 0 Tag.nil]), (4, AObj.cells [AVal.slice [] 0 Tag.nil, AVal.slice (iv b) 1 (Tag.own 0)])] (Sto.pushOwn Sto.empty k))) (gb (decide (decide (true = true ∧ some k = some (List.length (iv b)) ∧ (List.length (iv b) + 1) * 8 ≤ 140737488355328 ∧ List.length (iv b) + 1 ≤ 9223372036854775807) = true ∧ true = true)) (L (St.mk 71 [(0, AVal.str s), (2, AVal.ptr (Oid.loc 2) 0), (4, AVal.ptr (Oid.loc 4) 0), (6, AVal.str (Prod.fst (Prod.snd y))), (38, AVal.int IntKind.i64 (↑m : Int)), (39, AVal.int IntKind.i64 (IntKind.wrap IntKind.i64 ((↑i : Int) + (1 : Int))))] [] [(2, AObj.cells [AVal.slice [] 0 Tag.nil, AVal.slice [] 0 Tag.nil]), (4, AObj.cells [AVal.slice [] 0 Tag.nil, AVal.slice (iv b ++ [AVal.int IntKind.i64 (Prod.fst y)]) 1 (Tag.own 0)])] (Sto.setOwn (Sto.pushOwn Sto.empty k) 0 (List.length (iv b) + 1))))))) (K (Exit.exit 2) (St.mk 71 [(0, AVal.str s), (2, AVal.ptr (Oid.loc 2) 0), (4, AVal.ptr (Oid.loc 4) 0), (6, AVal.str left), (38, AVal.int IntKind.i64 (↑m : Int)), (39, AVal.int IntKind.i64 (↑i : Int)), (40, AVal.bool (hold (decide ((↑i : Int) < (↑m : Int)))))] [] [(2, AObj.cells [AVal.slice [] 0 Tag.nil, AVal.slice [] 0 Tag.nil]), (4, AObj.cells [AVal.slice [] 0 Tag.nil, AVal.slice (iv b) 1 (Tag.own 0)])] (Sto.pushOwn Sto.empty k)))) := by kernel_rfl
noncomputable def prBOO_S (s left : Txt) (m i : Nat) (l : List Txt) (b : List Int) (k j : Nat) : St := St.mk 71 [(0, .str s), (2, .ptr (.loc 2) 0), (4, .ptr (.loc 4) 0), (6, .str left), (38, .int .i64 (m : Int)), (39, .int .i64 (i : Int))] [] [(2, .cells [.slice [] 0 .nil, .slice [] 0 .nil]), (4, .cells [.slice (strv l) 1 (.own 0), .slice (iv b) 1 (.own 1)])] (Sto.pushOwn (Sto.pushOwn Sto.empty k) j)
noncomputable abbrev prBOO_C : Code := code_30_1_1_1_1_0_1_0_0
theorem prBOO_r (s left : Txt) (m i : Nat) (l : List Txt) (b : List Int) (k j : Nat) (L : St → Prop) (K : Exit → St → Prop) : vc Try.prog cPR code_30_1_1_1_1_0_1_0_0 (thenK (fun s => L (St.norm [] [0, 2, 4, 6, 38, 39] [2, 4] s)) K) (St.mk 71 [(0, .str s), (2, .ptr (.loc 2) 0), (4, .ptr (.loc 4) 0), (6, .str left), (38, .int .i64 (m : Int)), (39, .int .i64 (i : Int))] [] [(2, .cells [.slice [] 0 .nil, .slice [] 0 .nil]), (4, .cells [.slice (strv l) 1 (.own 0), .slice (iv b) 1 (.own 1)])] (Sto.pushOwn (Sto.pushOwn Sto.empty k) j)) =
  (brV (hold (decide ((↑i : Int) < (↑m : Int)))) true (∀ (y : Int × Txt × Bool), y = Go.Proofs.Ytlfnmhfmikomkaa.numN left → gb (Go.Proofs.Ytlfnmhfmikomkaa.lenB (List.length left)) (brV (!Prod.snd (Prod.snd y)) true (K Exit.ret (St.mk 71 [(0, AVal.str s), (2, AVal.ptr (Oid.loc 2) 0), (4, AVal.ptr (Oid.loc 4) 0), (6, AVal.str (Prod.fst (Prod.snd y))), (38, AVal.int IntKind.i64 (↑m : Int)), (39, AVal.int IntKind.i64 (↑i : Int)), (40, AVal.bool (hold (decide ((↑i : Int) < (↑m : Int))))), (9, AVal.int IntKind.i64 (Prod.fst y)), (7, AVal.bool (Prod.snd (Prod.snd y))), (48, AVal.bool !Prod.snd (Prod.snd y)), (3, AVal.int IntKind.i64 (10 : Int))] [] [(2, AObj.cells [AVal.slice [] 0 Tag.nil, AVal.slice [] 0 Tag.nil]), (4, AObj.cells [AVal.slice (strv l) 1 (Tag.own 0), AVal.slice (iv b) 1 (Tag.own 1)])] (Sto.pushOwn (Sto.pushOwn Sto.empty k) j))) (gb (decide (decide (true = true ∧ some j = some (List.length (iv b)) ∧ (List.length (iv b) + 1) * 8 ≤ 140737488355328 ∧ List.length (iv b) + 1 ≤ 9223372036854775807) = true ∧ true = true)) (L (St.mk 71 [(0, AVal.str s), (2, AVal.ptr (Oid.loc 2) 0), (4, AVal.ptr (Oid.loc 4) 0), (6, AVal.str (Prod.fst (Prod.snd y))), (38, AVal.int IntKind.i64 (↑m : Int)), (39, AVal.int IntKind.i64 (IntKind.wrap IntKind.i64 ((↑i : Int) + (1 : Int))))] [] [(2, AObj.cells [AVal.slice [] 0 Tag.nil, AVal.slice [] 0 Tag.nil]), (4, AObj.cells [AVal.slice (strv l) 1 (Tag.own 0), AVal.slice (iv b ++ [AVal.int IntKind.i64 (Prod.fst y)]) 1 (Tag.own 1)])] (Sto.setOwn (Sto.pushOwn (Sto.pushOwn Sto.empty k) j) 1 (List.length (iv b) + 1))))))) (K (Exit.exit 2) (St.mk 71 [(0, AVal.str s), (2, AVal.ptr (Oid.loc 2) 0), (4, AVal.ptr (Oid.loc 4) 0), (6, AVal.str left), (38, AVal.int IntKind.i64 (↑m : Int)), (39, AVal.int IntKind.i64 (↑i : Int)), (40, AVal.bool (hold (decide ((↑i : Int) < (↑m : Int)))))] [] [(2, AObj.cells [AVal.slice [] 0 Tag.nil, AVal.slice [] 0 Tag.nil]), (4, AObj.cells [AVal.slice (strv l) 1 (Tag.own 0), AVal.slice (iv b) 1 (Tag.own 1)])] (Sto.pushOwn (Sto.pushOwn Sto.empty k) j)))) := by kernel_rfl
noncomputable def prFNO_S (s : Txt) (b : List Int) (k : Nat) : St := St.mk 71 [(0, .str s), (2, .ptr (.loc 2) 0), (4, .ptr (.loc 4) 0)] [] [(2, .cells [.slice [] 0 .nil, .slice [] 0 .nil]), (4, .cells [.slice [] 0 .nil, .slice (iv b) 1 (.own 0)])] (Sto.pushOwn Sto.empty k)
noncomputable abbrev prFNO_C : Code := code_30_1_1_1_1_1
theorem prFNO_r (s : Txt) (b : List Int) (k : Nat) (Q : AVal → Sto → Prop) : vc Try.prog cPR code_30_1_1_1_1_1 (endK Try.prog Try.f30.results.toList Q) (St.mk 71 [(0, .str s), (2, .ptr (.loc 2) 0), (4, .ptr (.loc 4) 0)] [] [(2, .cells [.slice [] 0 .nil, .slice [] 0 .nil]), (4, .cells [.slice [] 0 .nil, .slice (iv b) 1 (.own 0)])] (Sto.pushOwn Sto.empty k)) =
  (∀ (y : Txt × Int), y = Go.Proofs.Ytlfnmhfmikomkaa.rootN ([], List.map AVal.intOf (iv b)) → gb (Go.Proofs.Ytlfnmhfmikomkaa.rootM2 (AVal.agg [AVal.slice [] 0 Tag.nil, AVal.slice (iv b) 1 (Tag.own 0)])) (brV (hold (Prod.snd y != (0 : Int))) false (brV (hold !Prod.fst y == s) true (Q (AVal.tuple [AVal.agg [AVal.slice [] 0 Tag.nil, AVal.slice [] 0 Tag.nil], AVal.int IntKind.i64 (10 : Int)]) (Sto.pushOwn Sto.empty k)) (Q (AVal.tuple [AVal.agg [AVal.slice [] 0 Tag.nil, AVal.slice (iv b) 1 (Tag.own 0)], AVal.int IntKind.i64 (0 : Int)]) (Sto.pushOwn Sto.empty k))) (Q (AVal.tuple [AVal.agg [AVal.slice [] 0 Tag.nil, AVal.slice [] 0 Tag.nil], AVal.int IntKind.i64 (10 : Int)]) (Sto.pushOwn Sto.empty k)))) := by kernel_rfl
noncomputable def prFOO_S (s : Txt) (l : List Txt) (b : List Int) (k j : Nat) : St := St.mk 71 [(0, .str s), (2, .ptr (.loc 2) 0), (4, .ptr (.loc 4) 0)] [] [(2, .cells [.slice [] 0 .nil, .slice [] 0 .nil]), (4, .cells [.slice (strv l) 1 (.own 0), .slice (iv b) 1 (.own 1)])] (Sto.pushOwn (Sto.pushOwn Sto.empty k) j)
noncomputable abbrev prFOO_C : Code := code_30_1_1_1_1_1
theorem prFOO_r (s : Txt) (l : List Txt) (b : List Int) (k j : Nat) (Q : AVal → Sto → Prop) : vc Try.prog cPR code_30_1_1_1_1_1 (endK Try.prog Try.f30.results.toList Q) (St.mk 71 [(0, .str s), (2, .ptr (.loc 2) 0), (4, .ptr (.loc 4) 0)] [] [(2, .cells [.slice [] 0 .nil, .slice [] 0 .nil]), (4, .cells [.slice (strv l) 1 (.own 0), .slice (iv b) 1 (.own 1)])] (Sto.pushOwn (Sto.pushOwn Sto.empty k) j)) =
  (∀ (y : Txt × Int), y = Go.Proofs.Ytlfnmhfmikomkaa.rootN (List.map AVal.strOf (strv l), List.map AVal.intOf (iv b)) → gb (Go.Proofs.Ytlfnmhfmikomkaa.rootM2 (AVal.agg [AVal.slice (strv l) 1 (Tag.own 0), AVal.slice (iv b) 1 (Tag.own 1)])) (brV (hold (Prod.snd y != (0 : Int))) false (brV (hold !Prod.fst y == s) true (Q (AVal.tuple [AVal.agg [AVal.slice [] 0 Tag.nil, AVal.slice [] 0 Tag.nil], AVal.int IntKind.i64 (10 : Int)]) (Sto.pushOwn (Sto.pushOwn Sto.empty k) j)) (Q (AVal.tuple [AVal.agg [AVal.slice (strv l) 1 (Tag.own 0), AVal.slice (iv b) 1 (Tag.own 1)], AVal.int IntKind.i64 (0 : Int)]) (Sto.pushOwn (Sto.pushOwn Sto.empty k) j))) (Q (AVal.tuple [AVal.agg [AVal.slice [] 0 Tag.nil, AVal.slice [] 0 Tag.nil], AVal.int IntKind.i64 (10 : Int)]) (Sto.pushOwn (Sto.pushOwn Sto.empty k) j)))) := by kernel_rfl
theorem pl_r (no : Int) (s : Txt) (Q : AVal → Sto → Prop) : vc Try.prog cPL code_33_ (endK Try.prog Try.f33.results.toList Q) (St.start Try.f33.ntmps [.int .i64 no, .str s] (Sto.empty)) =
  (loopV (fun s => St.norm [] [4, 6, 7] [4, 6] s) (vc Try.prog cPL code_33_1_1_0_1_0_0) (blockK 0 (thenK (fun s => cutV (vc Try.prog cPL code_33_1_1_1 (endK Try.prog (Array.toList (Go.Func.results Try.f33)) Q)) (St.norm [] [4, 6] [4, 6] s)) (endK Try.prog (Array.toList (Go.Func.results Try.f33)) Q))) (St.mk 43 [(4, AVal.ptr (Oid.loc 4) 0), (6, AVal.ptr (Oid.loc 6) 0), (7, AVal.str s)] [] [(4, AObj.cells [AVal.int IntKind.i64 (0 : Int), AVal.slice [] 0 Tag.nil, AVal.bool false]), (6, AObj.cells [AVal.int IntKind.i64 no, AVal.slice [] 0 Tag.nil, AVal.bool false])] Sto.empty)) := by kernel_rfl
theorem pl_i (no : Int) (s : Txt) (Q : AVal → Sto → Prop) (ho : OrcOk Try.prog cPL) (h : loopV (fun s => St.norm [] [4, 6, 7] [4, 6] s) (vc Try.prog cPL code_33_1_1_0_1_0_0) (blockK 0 (thenK (fun s => cutV (vc Try.prog cPL code_33_1_1_1 (endK Try.prog (Array.toList (Go.Func.results Try.f33)) Q)) (St.norm [] [4, 6] [4, 6] s)) (endK Try.prog (Array.toList (Go.Func.results Try.f33)) Q))) (St.mk 43 [(4, AVal.ptr (Oid.loc 4) 0), (6, AVal.ptr (Oid.loc 6) 0), (7, AVal.str s)] [] [(4, AObj.cells [AVal.int IntKind.i64 (0 : Int), AVal.slice [] 0 Tag.nil, AVal.bool false]), (6, AObj.cells [AVal.int IntKind.i64 no, AVal.slice [] 0 Tag.nil, AVal.bool false])] Sto.empty)) : ACall Try.prog 33 [.int .i64 no, .str s] (Sto.empty) Q :=
  ACall.intro hmix Try.func33 (c := code_33_) (by kernel_rfl) cPL ho (Nat.le_of_ble_eq_true (by kernel_rfl)) (by rw [pl_r]; exact h)
noncomputable def plNL_S (no : Int) (left : Txt) : St := St.mk 43 [(4, .ptr (.loc 4) 0), (6, .ptr (.loc 6) 0), (7, .str left)] [] [(4, .cells [.int .i64 0, .slice [] 0 .nil, .bool false]), (6, .cells [.int .i64 no, .slice [] 0 .nil, .bool false])] (Sto.empty)
noncomputable abbrev plNL_C : Code := code_33_1_1_0_1_0_0
theorem plNL_r (no : Int) (left : Txt) (L : St → Prop) (K : Exit → St → Prop) : vc Try.prog cPL code_33_1_1_0_1_0_0 (thenK (fun s => L (St.norm [] [4, 6, 7] [4, 6] s)) K) (St.mk 43 [(4, .ptr (.loc 4) 0), (6, .ptr (.loc 6) 0), (7, .str left)] [] [(4, .cells [.int .i64 0, .slice [] 0 .nil, .bool false]), (6, .cells [.int .i64 no, .slice [] 0 .nil, .bool false])] (Sto.empty)) =
  (brV (hold !left == []) true (∀ (y : Txt × Txt × Bool), y = Go.Proofs.Ytlfnmhfmikomkaa.textN left → gb (Go.Proofs.Ytlfnmhfmikomkaa.lenB (List.length left)) (brV (!Prod.snd (Prod.snd y)) true (K Exit.ret (St.mk 43 [(4, AVal.ptr (Oid.loc 4) 0), (6, AVal.ptr (Oid.loc 6) 0), (7, AVal.str left), (17, AVal.bool (hold !left == [])), (8, AVal.str (Prod.fst y)), (9, AVal.str (Prod.fst (Prod.snd y))), (10, AVal.bool (Prod.snd (Prod.snd y))), (25, AVal.bool !Prod.snd (Prod.snd y)), (5, AVal.int IntKind.i64 (10 : Int))] [] [(4, AObj.cells [AVal.int IntKind.i64 (0 : Int), AVal.slice [] 0 Tag.nil, AVal.bool false]), (6, AObj.cells [AVal.int IntKind.i64 no, AVal.slice [] 0 Tag.nil, AVal.bool false])] Sto.empty)) (L (St.mk 43 [(4, AVal.ptr (Oid.loc 4) 0), (6, AVal.ptr (Oid.loc 6) 0), (7, AVal.str (Prod.fst (Prod.snd y)))] [] [(4, AObj.cells [AVal.int IntKind.i64 (0 : Int), AVal.slice [] 0 Tag.nil, AVal.bool false]), (6, AObj.cells [AVal.int IntKind.i64 no, AVal.slice [AVal.str (Prod.fst y)] 1 (Tag.own 0), AVal.bool false])] (Sto.pushOwn Sto.empty 1))))) (K (Exit.exit 0) (St.mk 43 [(4, AVal.ptr (Oid.loc 4) 0), (6, AVal.ptr (Oid.loc 6) 0), (7, AVal.str left), (17, AVal.bool (hold !left == []))] [] [(4, AObj.cells [AVal.int IntKind.i64 (0 : Int), AVal.slice [] 0 Tag.nil, AVal.bool false]), (6, AObj.cells [AVal.int IntKind.i64 no, AVal.slice [] 0 Tag.nil, AVal.bool false])] Sto.empty))) := by kernel_rfl
noncomputable def plNF_S (no : Int) : St := St.mk 43 [(4, .ptr (.loc 4) 0), (6, .ptr (.loc 6) 0)] [] [(4, .cells [.int .i64 0, .slice [] 0 .nil, .bool false]), (6, .cells [.int .i64 no, .slice [] 0 .nil, .bool false])] (Sto.empty)
noncomputable abbrev plNF_C : Code := code_33_1_1_1
theorem plNF_r (no : Int) (Q : AVal → Sto → Prop) : vc Try.prog cPL code_33_1_1_1 (endK Try.prog Try.f33.results.toList Q) (St.mk 43 [(4, .ptr (.loc 4) 0), (6, .ptr (.loc 6) 0)] [] [(4, .cells [.int .i64 0, .slice [] 0 .nil, .bool false]), (6, .cells [.int .i64 no, .slice [] 0 .nil, .bool false])] (Sto.empty)) =
  (∀ (y : Txt × Int), y = ([], (0 : Int)) → gb (Go.Proofs.Ytlfnmhfmikomkaa.lfM2 (AVal.agg [AVal.int IntKind.i64 no, AVal.slice [] 0 Tag.nil, AVal.bool false])) (brV (hold (Prod.snd y != (0 : Int))) true (Q (AVal.tuple [AVal.agg [AVal.int IntKind.i64 (0 : Int), AVal.slice [] 0 Tag.nil, AVal.bool false], AVal.int IntKind.i64 (10 : Int)]) Sto.empty) (Q (AVal.tuple [AVal.agg [AVal.int IntKind.i64 no, AVal.slice [] 0 Tag.nil, AVal.bool false], AVal.int IntKind.i64 (0 : Int)]) Sto.empty))) := by kernel_rfl
noncomputable def plOL_S (no : Int) (left : Txt) (l : List Txt) (k : Nat) : St := St.mk 43 [(4, .ptr (.loc 4) 0), (6, .ptr (.loc 6) 0), (7, .str left)] [] [(4, .cells [.int .i64 0, .slice [] 0 .nil, .bool false]), (6, .cells [.int .i64 no, .slice (strv l) 1 (.own 0), .bool false])] (Sto.pushOwn Sto.empty k)
noncomputable abbrev plOL_C : Code := code_33_1_1_0_1_0_0
theorem plOL_r (no : Int) (left : Txt) (l : List Txt) (k : Nat) (L : St → Prop) (K : Exit → St → Prop) : vc Try.prog cPL code_33_1_1_0_1_0_0 (thenK (fun s => L (St.norm [] [4, 6, 7] [4, 6] s)) K) (St.mk 43 [(4, .ptr (.loc 4) 0), (6, .ptr (.loc 6) 0), (7, .str left)] [] [(4, .cells [.int .i64 0, .slice [] 0 .nil, .bool false]), (6, .cells [.int .i64 no, .slice (strv l) 1 (.own 0), .bool false])] (Sto.pushOwn Sto.empty k)) =
  (brV (hold !left == []) true (∀ (y : Txt × Txt × Bool), y = Go.Proofs.Ytlfnmhfmikomkaa.textN left → gb (Go.Proofs.Ytlfnmhfmikomkaa.lenB (List.length left)) (brV (!Prod.snd (Prod.snd y)) true (K Exit.ret (St.mk 43 [(4, AVal.ptr (Oid.loc 4) 0), (6, AVal.ptr (Oid.loc 6) 0), (7, AVal.str left), (17, AVal.bool (hold !left == [])), (8, AVal.str (Prod.fst y)), (9, AVal.str (Prod.fst (Prod.snd y))), (10, AVal.bool (Prod.snd (Prod.snd y))), (25, AVal.bool !Prod.snd (Prod.snd y)), (5, AVal.int IntKind.i64 (10 : Int))] [] [(4, AObj.cells [AVal.int IntKind.i64 (0 : Int), AVal.slice [] 0 Tag.nil, AVal.bool false]), (6, AObj.cells [AVal.int IntKind.i64 no, AVal.slice (strv l) 1 (Tag.own 0), AVal.bool false])] (Sto.pushOwn Sto.empty k))) (gb (decide (decide (true = true ∧ some k = some (List.length (strv l)) ∧ (List.length (strv l) + 1) * 16 ≤ 140737488355328 ∧ List.length (strv l) + 1 ≤ 9223372036854775807) = true ∧ true = true)) (L (St.mk 43 [(4, AVal.ptr (Oid.loc 4) 0), (6, AVal.ptr (Oid.loc 6) 0), (7, AVal.str (Prod.fst (Prod.snd y)))] [] [(4, AObj.cells [AVal.int IntKind.i64 (0 : Int), AVal.slice [] 0 Tag.nil, AVal.bool false]), (6, AObj.cells [AVal.int IntKind.i64 no, AVal.slice (strv l ++ [AVal.str (Prod.fst y)]) 1 (Tag.own 0), AVal.bool false])] (Sto.setOwn (Sto.pushOwn Sto.empty k) 0 (List.length (strv l) + 1))))))) (K (Exit.exit 0) (St.mk 43 [(4, AVal.ptr (Oid.loc 4) 0), (6, AVal.ptr (Oid.loc 6) 0), (7, AVal.str left), (17, AVal.bool (hold !left == []))] [] [(4, AObj.cells [AVal.int IntKind.i64 (0 : Int), AVal.slice [] 0 Tag.nil, AVal.bool false]), (6, AObj.cells [AVal.int IntKind.i64 no, AVal.slice (strv l) 1 (Tag.own 0), AVal.bool false])] (Sto.pushOwn Sto.empty k)))) := by kernel_rfl
noncomputable def plOF_S (no : Int) (l : List Txt) (k : Nat) : St := St.mk 43 [(4, .ptr (.loc 4) 0), (6, .ptr (.loc 6) 0)] [] [(4, .cells [.int .i64 0, .slice [] 0 .nil, .bool false]), (6, .cells [.int .i64 no, .slice (strv l) 1 (.own 0), .bool false])] (Sto.pushOwn Sto.empty k)
noncomputable abbrev plOF_C : Code := code_33_1_1_1
theorem plOF_r (no : Int) (l : List Txt) (k : Nat) (Q : AVal → Sto → Prop) : vc Try.prog cPL code_33_1_1_1 (endK Try.prog Try.f33.results.toList Q) (St.mk 43 [(4, .ptr (.loc 4) 0), (6, .ptr (.loc 6) 0)] [] [(4, .cells [.int .i64 0, .slice [] 0 .nil, .bool false]), (6, .cells [.int .i64 no, .slice (strv l) 1 (.own 0), .bool false])] (Sto.pushOwn Sto.empty k)) =
  (∀ (y : Txt × Int), y = Go.Proofs.Ytlfnmhfmikomkaa.leafN (no, List.map AVal.strOf (strv l), false) → gb (Go.Proofs.Ytlfnmhfmikomkaa.lfM2 (AVal.agg [AVal.int IntKind.i64 no, AVal.slice (strv l) 1 (Tag.own 0), AVal.bool false])) (brV (hold (Prod.snd y != (0 : Int))) true (Q (AVal.tuple [AVal.agg [AVal.int IntKind.i64 (0 : Int), AVal.slice [] 0 Tag.nil, AVal.bool false], AVal.int IntKind.i64 (10 : Int)]) (Sto.pushOwn Sto.empty k)) (Q (AVal.tuple [AVal.agg [AVal.int IntKind.i64 no, AVal.slice (strv l) 1 (Tag.own 0), AVal.bool false], AVal.int IntKind.i64 (0 : Int)]) (Sto.pushOwn Sto.empty k)))) := by kernel_rfl
end Go.Proofs.Ytlfnmhfmikomkaa.Ju
end

section
set_option maxRecDepth 100000
set_option maxHeartbeats 0
set_option linter.unusedVariables false
namespace Go.Proofs.Ytlfnmhfmikomkaa.Jt
open Go.AL Go.Proofs
noncomputable def cTall : Cfg := { keep := [0, 2], cut := [] }
noncomputable def cIndexT : Cfg := { keep := [0, 1, 4, 5, 7, 8, 9, 16], cut := [(5, [0, 1, 7, 8], [])], orc := ofList [tallE] }
noncomputable def cContainsT : Cfg := { keep := [0, 1, 4], cut := [], orc := ofList [indexTE] }
noncomputable def cTwo : Cfg := { keep := [0, 1, 4], cut := [] }
noncomputable def cTexts : Cfg := { keep := [0, 1, 4, 6, 7, 8, 9, 10], cut := [(5, [0, 7, 8, 9], []), (12, [0], [])], orc := ofList [twoE], grow := [(0, 1)] }
noncomputable def cNumber : Cfg := { keep := [0, 2, 3, 4, 7], cut := [] }
noncomputable def cText : Cfg := { keep := [0, 2, 3, 4, 5, 6, 20], cut := [], orc := ofList [numberE, strCloneE] }
noncomputable def cStrClone : Cfg := { keep := [0, 2], cut := [], orc := ofList [sCloneE] }
noncomputable def cTwoR : Cfg := { keep := [0, 2], cut := [] }
noncomputable def cLay : Cfg := { keep := [0, 2, 3, 4, 5, 9, 17], cut := [(7, [0, 4, 5], []), (16, [4], [])], orc := ofList [twoRE] }
noncomputable def code_55_ : Code := (Try.f55.body).getD .skip
noncomputable def code_57_ : Code := (Try.f57.body).getD .skip
noncomputable def code_58_ : Code := (Try.f58.body).getD .skip
noncomputable def code_59_ : Code := (Try.f59.body).getD .skip
noncomputable def code_60_ : Code := (Try.f60.body).getD .skip
noncomputable def code_61_ : Code := (Try.f61.body).getD .skip
noncomputable def code_62_ : Code := (Try.f62.body).getD .skip
noncomputable def code_63_ : Code := (Try.f63.body).getD .skip
noncomputable def code_72_ : Code := (Try.f72.body).getD .skip
noncomputable def code_73_ : Code := (Try.f73.body).getD .skip
noncomputable def code_58_1_1 : Code := codeAt code_58_ [1, 1]
noncomputable def code_72_1_1 : Code := codeAt code_72_ [1, 1]
noncomputable def code_60_1_1_1 : Code := codeAt code_60_ [1, 1, 1]
noncomputable def code_58_1_0_1_0_0 : Code := codeAt code_58_ [1, 0, 1, 0, 0]
noncomputable def code_72_1_0_1_0_0 : Code := codeAt code_72_ [1, 0, 1, 0, 0]
noncomputable def code_60_1_1_0_1_0_0 : Code := codeAt code_60_ [1, 1, 0, 1, 0, 0]
theorem tall_r (s : List UInt8) (Q : AVal → Sto → Prop) : vc Try.prog cTall code_57_ (endK Try.prog Try.f57.results.toList Q) (St.start Try.f57.ntmps [.str s] (Sto.empty)) =
  (Q (AVal.bool (hold (decide ((600 : Int) < (↑(List.length s) : Int))))) Sto.empty) := by kernel_rfl
theorem tall_i (s : List UInt8) (Q : AVal → Sto → Prop) (ho : OrcOk Try.prog cTall) (h : Q (AVal.bool (hold (decide ((600 : Int) < (↑(List.length s) : Int))))) Sto.empty) : ACall Try.prog 57 [.str s] (Sto.empty) Q :=
  ACall.intro hmix Try.func57 (c := code_57_) (by kernel_rfl) cTall ho (Nat.le_of_ble_eq_true (by kernel_rfl)) (by rw [tall_r]; exact h)
theorem indexT_r (l : List Txt) (Q : AVal → Sto → Prop) : vc Try.prog cIndexT code_72_ (endK Try.prog Try.f72.results.toList Q) (St.start Try.f72.ntmps [.slice (strv l) 1 .ro, .func (.func 57) [] []] (Sto.empty)) =
  (loopV (fun s => St.norm [] [0, 1, 7, 8] [] s) (vc Try.prog cIndexT code_72_1_0_1_0_0) (blockK 0 (thenK (vc Try.prog cIndexT code_72_1_1 (endK Try.prog (Array.toList (Go.Func.results Try.f72)) Q)) (endK Try.prog (Array.toList (Go.Func.results Try.f72)) Q))) (St.mk 19 [(0, AVal.slice (strv l) 1 Tag.ro), (1, AVal.func (Go.Fn.func 57) [] []), (7, AVal.int IntKind.i64 (↑(List.length (strv l)) : Int)), (8, AVal.int IntKind.i64 (0 : Int))] [] [] Sto.empty)) := by kernel_rfl
theorem indexT_i (l : List Txt) (Q : AVal → Sto → Prop) (ho : OrcOk Try.prog cIndexT) (h : loopV (fun s => St.norm [] [0, 1, 7, 8] [] s) (vc Try.prog cIndexT code_72_1_0_1_0_0) (blockK 0 (thenK (vc Try.prog cIndexT code_72_1_1 (endK Try.prog (Array.toList (Go.Func.results Try.f72)) Q)) (endK Try.prog (Array.toList (Go.Func.results Try.f72)) Q))) (St.mk 19 [(0, AVal.slice (strv l) 1 Tag.ro), (1, AVal.func (Go.Fn.func 57) [] []), (7, AVal.int IntKind.i64 (↑(List.length (strv l)) : Int)), (8, AVal.int IntKind.i64 (0 : Int))] [] [] Sto.empty)) : ACall Try.prog 72 [.slice (strv l) 1 .ro, .func (.func 57) [] []] (Sto.empty) Q :=
  ACall.intro hmix Try.func72 (c := code_72_) (by kernel_rfl) cIndexT ho (Nat.le_of_ble_eq_true (by kernel_rfl)) (by rw [indexT_r]; exact h)
noncomputable def indexTL_S (l : List Txt) (n i : Nat) : St := St.mk 19 [(0, .slice (strv l) 1 .ro), (1, .func (.func 57) [] []), (7, .int .i64 (n : Int)), (8, .int .i64 (i : Int))] [] [] (Sto.empty)
noncomputable abbrev indexTL_C : Code := code_72_1_0_1_0_0
theorem indexTL_r (l : List Txt) (n i : Nat) (L : St → Prop) (K : Exit → St → Prop) : vc Try.prog cIndexT code_72_1_0_1_0_0 (thenK (fun s => L (St.norm [] [0, 1, 7, 8] [] s)) K) (St.mk 19 [(0, .slice (strv l) 1 .ro), (1, .func (.func 57) [] []), (7, .int .i64 (n : Int)), (8, .int .i64 (i : Int))] [] [] (Sto.empty)) =
  (brV (hold (decide ((↑i : Int) < (↑n : Int)))) true (gb (decide ((0 : Int) ≤ (↑i : Int) ∧ (↑i : Int) < (↑(List.length (strv l)) : Int))) (gb (decide (1 ≤ List.length (elemAt (strv l) (↑i : Int)) ∧ 0 < 1) && etaOk Sh.str (List.getD (elemAt (strv l) (↑i : Int)) 0 AVal.undef)) (brV (hold (Go.Proofs.Ytlfnmhfmikomkaa.tallB (AVal.strOf (List.getD (elemAt (strv l) (↑i : Int)) 0 AVal.undef)))) true (K Exit.ret (St.mk 19 [(0, AVal.slice (strv l) 1 Tag.ro), (1, AVal.func (Go.Fn.func 57) [] []), (7, AVal.int IntKind.i64 (↑n : Int)), (8, AVal.int IntKind.i64 (↑i : Int)), (9, AVal.bool (hold (decide ((↑i : Int) < (↑n : Int))))), (5, AVal.int IntKind.i64 (↑i : Int)), (16, AVal.bool (hold (Go.Proofs.Ytlfnmhfmikomkaa.tallB (AVal.strOf (List.getD (elemAt (strv l) (↑i : Int)) 0 AVal.undef))))), (4, AVal.int IntKind.i64 (↑i : Int))] [] [] Sto.empty)) (L (St.mk 19 [(0, AVal.slice (strv l) 1 Tag.ro), (1, AVal.func (Go.Fn.func 57) [] []), (7, AVal.int IntKind.i64 (↑n : Int)), (8, AVal.int IntKind.i64 (IntKind.wrap IntKind.i64 ((↑i : Int) + (1 : Int))))] [] [] Sto.empty))))) (K (Exit.exit 0) (St.mk 19 [(0, AVal.slice (strv l) 1 Tag.ro), (1, AVal.func (Go.Fn.func 57) [] []), (7, AVal.int IntKind.i64 (↑n : Int)), (8, AVal.int IntKind.i64 (↑i : Int)), (9, AVal.bool (hold (decide ((↑i : Int) < (↑n : Int)))))] [] [] Sto.empty))) := by kernel_rfl
theorem containsT_r (l : List Txt) (Q : AVal → Sto → Prop) : vc Try.prog cContainsT code_55_ (endK Try.prog Try.f55.results.toList Q) (St.start Try.f55.ntmps [.slice (strv l) 1 .ro, .func (.func 57) [] []] (Sto.empty)) =
  (∀ (y : Int), y = Go.Proofs.Ytlfnmhfmikomkaa.idxP Go.Proofs.Ytlfnmhfmikomkaa.tallB (List.map AVal.strOf (strv l)) → gb (List.all (strv l) strIs && Go.Proofs.Ytlfnmhfmikomkaa.lenB (List.length (strv l))) (Q (AVal.bool (hold (decide ((0 : Int) ≤ y)))) Sto.empty)) := by kernel_rfl
theorem containsT_i (l : List Txt) (Q : AVal → Sto → Prop) (ho : OrcOk Try.prog cContainsT) (h : ∀ (y : Int), y = Go.Proofs.Ytlfnmhfmikomkaa.idxP Go.Proofs.Ytlfnmhfmikomkaa.tallB (List.map AVal.strOf (strv l)) → gb (List.all (strv l) strIs && Go.Proofs.Ytlfnmhfmikomkaa.lenB (List.length (strv l))) (Q (AVal.bool (hold (decide ((0 : Int) ≤ y)))) Sto.empty)) : ACall Try.prog 55 [.slice (strv l) 1 .ro, .func (.func 57) [] []] (Sto.empty) Q :=
  ACall.intro hmix Try.func55 (c := code_55_) (by kernel_rfl) cContainsT ho (Nat.le_of_ble_eq_true (by kernel_rfl)) (by rw [containsT_r]; exact h)
theorem twoN_r (σ : Sto) (n : Int) (Q : AVal → Sto → Prop) : vc Try.prog cTwo code_59_ (endK Try.prog Try.f59.results.toList Q) (St.start Try.f59.ntmps [.slice [] 0 .nil, .int .i64 n] (σ)) =
  (Q (AVal.slice [AVal.int IntKind.u8 (IntKind.wrap IntKind.u8 (Int.fdiv n (256 : Int))), AVal.int IntKind.u8 (IntKind.wrap IntKind.u8 n)] 1 (Tag.own (Sto.nown σ))) (Sto.pushOwn σ 2)) := by kernel_rfl
theorem twoN_i (σ : Sto) (n : Int) (Q : AVal → Sto → Prop) (ho : OrcOk Try.prog cTwo) (h : Q (AVal.slice [AVal.int IntKind.u8 (IntKind.wrap IntKind.u8 (Int.fdiv n (256 : Int))), AVal.int IntKind.u8 (IntKind.wrap IntKind.u8 n)] 1 (Tag.own (Sto.nown σ))) (Sto.pushOwn σ 2)) : ACall Try.prog 59 [.slice [] 0 .nil, .int .i64 n] (σ) Q :=
  ACall.intro hmix Try.func59 (c := code_59_) (by kernel_rfl) cTwo ho (Nat.le_of_ble_eq_true (by kernel_rfl)) (by rw [twoN_r]; exact h)
theorem twoO_r (σ : Sto) (es : List AVal) (p : Nat) (n : Int) (Q : AVal → Sto → Prop) : vc Try.prog cTwo code_59_ (endK Try.prog Try.f59.results.toList Q) (St.start Try.f59.ntmps [.slice es 1 (.own p), .int .i64 n] (σ)) =
  (gb (decide (decide (true = true ∧ Sto.own σ p = some (List.length es) ∧ (List.length es + 2) * 1 ≤ 140737488355328 ∧ List.length es + 2 ≤ 9223372036854775807) = true ∧ true = true)) (Q (AVal.slice (es ++ [AVal.int IntKind.u8 (IntKind.wrap IntKind.u8 (Int.fdiv n (256 : Int))), AVal.int IntKind.u8 (IntKind.wrap IntKind.u8 n)]) 1 (Tag.own p)) (Sto.setOwn σ p (List.length es + 2)))) := by kernel_rfl
theorem twoO_i (σ : Sto) (es : List AVal) (p : Nat) (n : Int) (Q : AVal → Sto → Prop) (ho : OrcOk Try.prog cTwo) (h : gb (decide (decide (true = true ∧ Sto.own σ p = some (List.length es) ∧ (List.length es + 2) * 1 ≤ 140737488355328 ∧ List.length es + 2 ≤ 9223372036854775807) = true ∧ true = true)) (Q (AVal.slice (es ++ [AVal.int IntKind.u8 (IntKind.wrap IntKind.u8 (Int.fdiv n (256 : Int))), AVal.int IntKind.u8 (IntKind.wrap IntKind.u8 n)]) 1 (Tag.own p)) (Sto.setOwn σ p (List.length es + 2)))) : ACall Try.prog 59 [.slice es 1 (.own p), .int .i64 n] (σ) Q :=
  ACall.intro hmix Try.func59 (c := code_59_) (by kernel_rfl) cTwo ho (Nat.le_of_ble_eq_true (by kernel_rfl)) (by rw [twoO_r]; exact h)
theorem textsTN_r (σ : Sto) (l : List Txt) (Q : AVal → Sto → Prop) : vc Try.prog cTexts code_58_ (endK Try.prog Try.f58.results.toList Q) (St.start Try.f58.ntmps [.slice [] 0 .nil, .slice (strv l) 1 .ro] (σ)) =
  (loopV (fun s => St.norm [(0, 1)] [0, 7, 8, 9] [] s) (vc Try.prog cTexts code_58_1_0_1_0_0) (blockK 0 (thenK (fun s => cutV (vc Try.prog cTexts code_58_1_1 (endK Try.prog (Array.toList (Go.Func.results Try.f58)) Q)) (St.norm [(0, 1)] [0] [] s)) (endK Try.prog (Array.toList (Go.Func.results Try.f58)) Q))) (St.mk 21 [(0, AVal.slice [] 1 (Tag.own (Sto.nown σ))), (7, AVal.slice (strv l) 1 Tag.ro), (8, AVal.int IntKind.i64 (↑(List.length (strv l)) : Int)), (9, AVal.int IntKind.i64 (0 : Int))] [] [] (Sto.pushOwn σ 0))) := by kernel_rfl
theorem textsTN_i (σ : Sto) (l : List Txt) (Q : AVal → Sto → Prop) (ho : OrcOk Try.prog cTexts) (h : loopV (fun s => St.norm [(0, 1)] [0, 7, 8, 9] [] s) (vc Try.prog cTexts code_58_1_0_1_0_0) (blockK 0 (thenK (fun s => cutV (vc Try.prog cTexts code_58_1_1 (endK Try.prog (Array.toList (Go.Func.results Try.f58)) Q)) (St.norm [(0, 1)] [0] [] s)) (endK Try.prog (Array.toList (Go.Func.results Try.f58)) Q))) (St.mk 21 [(0, AVal.slice [] 1 (Tag.own (Sto.nown σ))), (7, AVal.slice (strv l) 1 Tag.ro), (8, AVal.int IntKind.i64 (↑(List.length (strv l)) : Int)), (9, AVal.int IntKind.i64 (0 : Int))] [] [] (Sto.pushOwn σ 0))) : ACall Try.prog 58 [.slice [] 0 .nil, .slice (strv l) 1 .ro] (σ) Q :=
  ACall.intro hmix Try.func58 (c := code_58_) (by kernel_rfl) cTexts ho (Nat.le_of_ble_eq_true (by kernel_rfl)) (by rw [textsTN_r]; exact h)
theorem textsTO_r (σ : Sto) (o : Txt) (l : List Txt) (p : Nat) (Q : AVal → Sto → Prop) : vc Try.prog cTexts code_58_ (endK Try.prog Try.f58.results.toList Q) (St.start Try.f58.ntmps [.slice (bw o) 1 (.own p), .slice (strv l) 1 .ro] (σ)) =
  (loopV (fun s => St.norm [(0, 1)] [0, 7, 8, 9] [] s) (vc Try.prog cTexts code_58_1_0_1_0_0) (blockK 0 (thenK (fun s => cutV (vc Try.prog cTexts code_58_1_1 (endK Try.prog (Array.toList (Go.Func.results Try.f58)) Q)) (St.norm [(0, 1)] [0] [] s)) (endK Try.prog (Array.toList (Go.Func.results Try.f58)) Q))) (St.mk 21 [(0, AVal.slice (bw o) 1 (Tag.own p)), (7, AVal.slice (strv l) 1 Tag.ro), (8, AVal.int IntKind.i64 (↑(List.length (strv l)) : Int)), (9, AVal.int IntKind.i64 (0 : Int))] [] [] σ)) := by kernel_rfl
theorem textsTO_i (σ : Sto) (o : Txt) (l : List Txt) (p : Nat) (Q : AVal → Sto → Prop) (ho : OrcOk Try.prog cTexts) (h : loopV (fun s => St.norm [(0, 1)] [0, 7, 8, 9] [] s) (vc Try.prog cTexts code_58_1_0_1_0_0) (blockK 0 (thenK (fun s => cutV (vc Try.prog cTexts code_58_1_1 (endK Try.prog (Array.toList (Go.Func.results Try.f58)) Q)) (St.norm [(0, 1)] [0] [] s)) (endK Try.prog (Array.toList (Go.Func.results Try.f58)) Q))) (St.mk 21 [(0, AVal.slice (bw o) 1 (Tag.own p)), (7, AVal.slice (strv l) 1 Tag.ro), (8, AVal.int IntKind.i64 (↑(List.length (strv l)) : Int)), (9, AVal.int IntKind.i64 (0 : Int))] [] [] σ)) : ACall Try.prog 58 [.slice (bw o) 1 (.own p), .slice (strv l) 1 .ro] (σ) Q :=
  ACall.intro hmix Try.func58 (c := code_58_) (by kernel_rfl) cTexts ho (Nat.le_of_ble_eq_true (by kernel_rfl)) (by rw [textsTO_r]; exact h)
noncomputable def textsTL_S (o : Txt) (l : List Txt) (p n i : Nat) (σ : Sto) : St := St.mk 21 [(0, .slice (bw o) 1 (.own p)), (7, .slice (strv l) 1 .ro), (8, .int .i64 (n : Int)), (9, .int .i64 (i : Int))] [] [] (σ)
noncomputable abbrev textsTL_C : Code := code_58_1_0_1_0_0
theorem textsTL_r (o : Txt) (l : List Txt) (p n i : Nat) (σ : Sto) (L : St → Prop) (K : Exit → St → Prop) : vc Try.prog cTexts code_58_1_0_1_0_0 (thenK (fun s => L (St.norm [(0, 1)] [0, 7, 8, 9] [] s)) K) (St.mk 21 [(0, .slice (bw o) 1 (.own p)), (7, .slice (strv l) 1 .ro), (8, .int .i64 (n : Int)), (9, .int .i64 (i : Int))] [] [] (σ)) =
  (brV (hold (decide ((↑i : Int) < (↑n : Int)))) true (gb (decide ((0 : Int) ≤ (↑i : Int) ∧ (↑i : Int) < (↑(List.length (strv l)) : Int))) (gb (decide (1 ≤ List.length (elemAt (strv l) (↑i : Int)) ∧ 0 < 1) && etaOk Sh.str (List.getD (elemAt (strv l) (↑i : Int)) 0 AVal.undef)) (gb (hold (decide (Sto.own σ p = some (List.length (bw o)))) && Go.Proofs.Ytlfnmhfmikomkaa.lenB (List.length (bw o))) (gb (decide (decide (true = true ∧ Sto.own (Sto.setOwn σ p (List.length (bw o) + 2)) p = some (List.length (bw o ++ bw (Go.Proofs.Ytlfnmhfmikomkaa.twoB (↑(List.length (AVal.strOf (List.getD (elemAt (strv l) (↑i : Int)) 0 AVal.undef))) : Int)))) ∧ (List.length (bw o ++ bw (Go.Proofs.Ytlfnmhfmikomkaa.twoB (↑(List.length (AVal.strOf (List.getD (elemAt (strv l) (↑i : Int)) 0 AVal.undef))) : Int))) + List.length (List.map ofByte (AVal.strOf (List.getD (elemAt (strv l) (↑i : Int)) 0 AVal.undef)))) * 1 ≤ 140737488355328 ∧ List.length (bw o ++ bw (Go.Proofs.Ytlfnmhfmikomkaa.twoB (↑(List.length (AVal.strOf (List.getD (elemAt (strv l) (↑i : Int)) 0 AVal.undef))) : Int))) + List.length (List.map ofByte (AVal.strOf (List.getD (elemAt (strv l) (↑i : Int)) 0 AVal.undef))) ≤ 9223372036854775807) = true ∧ true = true)) (L (St.mk 21 [(0, AVal.slice (bw o ++ bw (Go.Proofs.Ytlfnmhfmikomkaa.twoB (↑(List.length (AVal.strOf (List.getD (elemAt (strv l) (↑i : Int)) 0 AVal.undef))) : Int)) ++ List.map ofByte (AVal.strOf (List.getD (elemAt (strv l) (↑i : Int)) 0 AVal.undef))) 1 (Tag.own p)), (7, AVal.slice (strv l) 1 Tag.ro), (8, AVal.int IntKind.i64 (↑n : Int)), (9, AVal.int IntKind.i64 (IntKind.wrap IntKind.i64 ((↑i : Int) + (1 : Int))))] [] [] (Sto.setOwn (Sto.setOwn σ p (List.length (bw o) + 2)) p (List.length (bw o ++ bw (Go.Proofs.Ytlfnmhfmikomkaa.twoB (↑(List.length (AVal.strOf (List.getD (elemAt (strv l) (↑i : Int)) 0 AVal.undef))) : Int))) + List.length (List.map ofByte (AVal.strOf (List.getD (elemAt (strv l) (↑i : Int)) 0 AVal.undef))))))))))) (K (Exit.exit 0) (St.mk 21 [(0, AVal.slice (bw o) 1 (Tag.own p)), (7, AVal.slice (strv l) 1 Tag.ro), (8, AVal.int IntKind.i64 (↑n : Int)), (9, AVal.int IntKind.i64 (↑i : Int)), (10, AVal.bool (hold (decide ((↑i : Int) < (↑n : Int)))))] [] [] σ))) := by kernel_rfl
noncomputable def textsTF_S (o : Txt) (p : Nat) (σ : Sto) : St := St.mk 21 [(0, .slice (bw o) 1 (.own p))] [] [] (σ)
noncomputable abbrev textsTF_C : Code := code_58_1_1
theorem textsTF_r (o : Txt) (p : Nat) (σ : Sto) (Q : AVal → Sto → Prop) : vc Try.prog cTexts code_58_1_1 (endK Try.prog Try.f58.results.toList Q) (St.mk 21 [(0, .slice (bw o) 1 (.own p))] [] [] (σ)) =
  (Q (AVal.slice (bw o) 1 (Tag.own p)) σ) := by kernel_rfl
theorem number_r (s : List UInt8) (Q : AVal → Sto → Prop) : vc Try.prog cNumber code_62_ (endK Try.prog Try.f62.results.toList Q) (St.start Try.f62.ntmps [.str s] (Sto.empty)) =
  (brV (hold (decide ((↑(List.length s) : Int) < (2 : Int)))) true (Q (AVal.tuple [AVal.int IntKind.i64 (0 : Int), AVal.str s, AVal.bool false]) Sto.empty) (gb (decide ((0 : Int) ≤ (0 : Int) ∧ (0 : Int) < (↑(List.length s) : Int))) (gb (decide ((0 : Int) ≤ (1 : Int) ∧ (1 : Int) < (↑(List.length s) : Int))) (gb (decide ((0 : Int) ≤ (2 : Int) ∧ (2 : Int) ≤ (↑(List.length s) : Int) ∧ (↑(List.length s) : Int) ≤ (↑(List.length s) : Int))) (Q (AVal.tuple [AVal.int IntKind.i64 (Go.bits Go.BinOp.or IntKind.i64 (IntKind.wrap IntKind.i64 (IntKind.wrap IntKind.i64 (↑(UInt8.toNat (List.getD s 0 (0 : UInt8))) : Int) * (256 : Int))) (IntKind.wrap IntKind.i64 (↑(UInt8.toNat (List.getD s 1 (0 : UInt8))) : Int))), AVal.str (List.take (Int.toNat (↑(List.length s) : Int) - 2) (List.drop 2 s)), AVal.bool true]) Sto.empty))))) := by kernel_rfl
theorem number_i (s : List UInt8) (Q : AVal → Sto → Prop) (ho : OrcOk Try.prog cNumber) (h : brV (hold (decide ((↑(List.length s) : Int) < (2 : Int)))) true (Q (AVal.tuple [AVal.int IntKind.i64 (0 : Int), AVal.str s, AVal.bool false]) Sto.empty) (gb (decide ((0 : Int) ≤ (0 : Int) ∧ (0 : Int) < (↑(List.length s) : Int))) (gb (decide ((0 : Int) ≤ (1 : Int) ∧ (1 : Int) < (↑(List.length s) : Int))) (gb (decide ((0 : Int) ≤ (2 : Int) ∧ (2 : Int) ≤ (↑(List.length s) : Int) ∧ (↑(List.length s) : Int) ≤ (↑(List.length s) : Int))) (Q (AVal.tuple [AVal.int IntKind.i64 (Go.bits Go.BinOp.or IntKind.i64 (IntKind.wrap IntKind.i64 (IntKind.wrap IntKind.i64 (↑(UInt8.toNat (List.getD s 0 (0 : UInt8))) : Int) * (256 : Int))) (IntKind.wrap IntKind.i64 (↑(UInt8.toNat (List.getD s 1 (0 : UInt8))) : Int))), AVal.str (List.take (Int.toNat (↑(List.length s) : Int) - 2) (List.drop 2 s)), AVal.bool true]) Sto.empty))))) : ACall Try.prog 62 [.str s] (Sto.empty) Q :=
  ACall.intro hmix Try.func62 (c := code_62_) (by kernel_rfl) cNumber ho (Nat.le_of_ble_eq_true (by kernel_rfl)) (by rw [number_r]; exact h)
theorem text_r (s : List UInt8) (Q : AVal → Sto → Prop) : vc Try.prog cText code_63_ (endK Try.prog Try.f63.results.toList Q) (St.start Try.f63.ntmps [.str s] (Sto.empty)) =
  (∀ (y : Int × Txt × Bool), y = Go.Proofs.Ytlfnmhfmikomkaa.numN s → gb (Go.Proofs.Ytlfnmhfmikomkaa.lenB (List.length s)) (brV (!Prod.snd (Prod.snd y)) false (brV (hold (decide ((↑(List.length (Prod.fst (Prod.snd y))) : Int) < Prod.fst y))) true (Q (AVal.tuple [AVal.str [], AVal.str (Prod.fst (Prod.snd y)), AVal.bool false]) Sto.empty) (gb (decide ((0 : Int) ≤ (0 : Int) ∧ (0 : Int) ≤ Prod.fst y ∧ Prod.fst y ≤ (↑(List.length (Prod.fst (Prod.snd y))) : Int))) (gb (Go.Proofs.Ytlfnmhfmikomkaa.lenB (List.length (List.take (Int.toNat (Prod.fst y) - 0) (List.drop 0 (Prod.fst (Prod.snd y)))))) (gb (decide ((0 : Int) ≤ Prod.fst y ∧ Prod.fst y ≤ (↑(List.length (Prod.fst (Prod.snd y))) : Int) ∧ (↑(List.length (Prod.fst (Prod.snd y))) : Int) ≤ (↑(List.length (Prod.fst (Prod.snd y))) : Int))) (Q (AVal.tuple [AVal.str (List.take (Int.toNat (Prod.fst y) - 0) (List.drop 0 (Prod.fst (Prod.snd y)))), AVal.str (List.take (Int.toNat (↑(List.length (Prod.fst (Prod.snd y))) : Int) - Int.toNat (Prod.fst y)) (List.drop (Int.toNat (Prod.fst y)) (Prod.fst (Prod.snd y)))), AVal.bool true]) Sto.empty))))) (Q (AVal.tuple [AVal.str [], AVal.str (Prod.fst (Prod.snd y)), AVal.bool false]) Sto.empty))) := by kernel_rfl
theorem text_i (s : List UInt8) (Q : AVal → Sto → Prop) (ho : OrcOk Try.prog cText) (h : ∀ (y : Int × Txt × Bool), y = Go.Proofs.Ytlfnmhfmikomkaa.numN s → gb (Go.Proofs.Ytlfnmhfmikomkaa.lenB (List.length s)) (brV (!Prod.snd (Prod.snd y)) false (brV (hold (decide ((↑(List.length (Prod.fst (Prod.snd y))) : Int) < Prod.fst y))) true (Q (AVal.tuple [AVal.str [], AVal.str (Prod.fst (Prod.snd y)), AVal.bool false]) Sto.empty) (gb (decide ((0 : Int) ≤ (0 : Int) ∧ (0 : Int) ≤ Prod.fst y ∧ Prod.fst y ≤ (↑(List.length (Prod.fst (Prod.snd y))) : Int))) (gb (Go.Proofs.Ytlfnmhfmikomkaa.lenB (List.length (List.take (Int.toNat (Prod.fst y) - 0) (List.drop 0 (Prod.fst (Prod.snd y)))))) (gb (decide ((0 : Int) ≤ Prod.fst y ∧ Prod.fst y ≤ (↑(List.length (Prod.fst (Prod.snd y))) : Int) ∧ (↑(List.length (Prod.fst (Prod.snd y))) : Int) ≤ (↑(List.length (Prod.fst (Prod.snd y))) : Int))) (Q (AVal.tuple [AVal.str (List.take (Int.toNat (Prod.fst y) - 0) (List.drop 0 (Prod.fst (Prod.snd y)))), AVal.str (List.take (Int.toNat (↑(List.length (Prod.fst (Prod.snd y))) : Int) - Int.toNat (Prod.fst y)) (List.drop (Int.toNat (Prod.fst y)) (Prod.fst (Prod.snd y)))), AVal.bool true]) Sto.empty))))) (Q (AVal.tuple [AVal.str [], AVal.str (Prod.fst (Prod.snd y)), AVal.bool false]) Sto.empty))) : ACall Try.prog 63 [.str s] (Sto.empty) Q :=
  ACall.intro hmix Try.func63 (c := code_63_) (by kernel_rfl) cText ho (Nat.le_of_ble_eq_true (by kernel_rfl)) (by rw [text_r]; exact h)
theorem strClone_r (s : List UInt8) (Q : AVal → Sto → Prop) : vc Try.prog cStrClone code_73_ (endK Try.prog Try.f73.results.toList Q) (St.start Try.f73.ntmps [.str s] (Sto.empty)) =
  (gb (Go.Proofs.Ytlfnmhfmikomkaa.lenB (List.length s)) (Q (AVal.str s) Sto.empty)) := by kernel_rfl
theorem strClone_i (s : List UInt8) (Q : AVal → Sto → Prop) (ho : OrcOk Try.prog cStrClone) (h : gb (Go.Proofs.Ytlfnmhfmikomkaa.lenB (List.length s)) (Q (AVal.str s) Sto.empty)) : ACall Try.prog 73 [.str s] (Sto.empty) Q :=
  ACall.intro hmix Try.func73 (c := code_73_) (by kernel_rfl) cStrClone ho (Nat.le_of_ble_eq_true (by kernel_rfl)) (by rw [strClone_r]; exact h)
theorem twoR_r (n : Int) (Q : AVal → Sto → Prop) : vc Try.prog cTwoR code_61_ (endK Try.prog Try.f61.results.toList Q) (St.start Try.f61.ntmps [.int .i64 n] (Sto.empty)) =
  (Q (AVal.str (List.map AL.byteOf [AVal.int IntKind.u8 (IntKind.wrap IntKind.u8 (IntKind.wrap IntKind.i64 (Int.tdiv n (256 : Int)))), AVal.int IntKind.u8 (IntKind.wrap IntKind.u8 (Int.tmod n (256 : Int)))])) Sto.empty) := by kernel_rfl
theorem twoR_i (n : Int) (Q : AVal → Sto → Prop) (ho : OrcOk Try.prog cTwoR) (h : Q (AVal.str (List.map AL.byteOf [AVal.int IntKind.u8 (IntKind.wrap IntKind.u8 (IntKind.wrap IntKind.i64 (Int.tdiv n (256 : Int)))), AVal.int IntKind.u8 (IntKind.wrap IntKind.u8 (Int.tmod n (256 : Int)))])) Sto.empty) : ACall Try.prog 61 [.int .i64 n] (Sto.empty) Q :=
  ACall.intro hmix Try.func61 (c := code_61_) (by kernel_rfl) cTwoR ho (Nat.le_of_ble_eq_true (by kernel_rfl)) (by rw [twoR_r]; exact h)
theorem lay_r (l : List Txt) (Q : AVal → Sto → Prop) : vc Try.prog cLay code_60_ (endK Try.prog Try.f60.results.toList Q) (St.start Try.f60.ntmps [.slice (strv l) 1 .ro] (Sto.empty)) =
  (loopV (fun s => St.norm [] [0, 4, 5] [] s) (vc Try.prog cLay code_60_1_1_0_1_0_0) (blockK 0 (thenK (fun s => cutV (vc Try.prog cLay code_60_1_1_1 (endK Try.prog (Array.toList (Go.Func.results Try.f60)) Q)) (St.norm [] [4] [] s)) (endK Try.prog (Array.toList (Go.Func.results Try.f60)) Q))) (St.mk 32 [(0, AVal.slice (strv l) 1 Tag.ro), (4, AVal.str []), (5, AVal.int IntKind.i64 (0 : Int))] [] [] Sto.empty)) := by kernel_rfl
theorem lay_i (l : List Txt) (Q : AVal → Sto → Prop) (ho : OrcOk Try.prog cLay) (h : loopV (fun s => St.norm [] [0, 4, 5] [] s) (vc Try.prog cLay code_60_1_1_0_1_0_0) (blockK 0 (thenK (fun s => cutV (vc Try.prog cLay code_60_1_1_1 (endK Try.prog (Array.toList (Go.Func.results Try.f60)) Q)) (St.norm [] [4] [] s)) (endK Try.prog (Array.toList (Go.Func.results Try.f60)) Q))) (St.mk 32 [(0, AVal.slice (strv l) 1 Tag.ro), (4, AVal.str []), (5, AVal.int IntKind.i64 (0 : Int))] [] [] Sto.empty)) : ACall Try.prog 60 [.slice (strv l) 1 .ro] (Sto.empty) Q :=
  ACall.intro hmix Try.func60 (c := code_60_) (by kernel_rfl) cLay ho (Nat.le_of_ble_eq_true (by kernel_rfl)) (by rw [lay_r]; exact h)
noncomputable def layL_S (l : List Txt) (o : Txt) (i : Nat) : St := St.mk 32 [(0, .slice (strv l) 1 .ro), (4, .str o), (5, .int .i64 (i : Int))] [] [] (Sto.empty)
noncomputable abbrev layL_C : Code := code_60_1_1_0_1_0_0
theorem layL_r (l : List Txt) (o : Txt) (i : Nat) (L : St → Prop) (K : Exit → St → Prop) : vc Try.prog cLay code_60_1_1_0_1_0_0 (thenK (fun s => L (St.norm [] [0, 4, 5] [] s)) K) (St.mk 32 [(0, .slice (strv l) 1 .ro), (4, .str o), (5, .int .i64 (i : Int))] [] [] (Sto.empty)) =
  (brV (hold (decide ((↑i : Int) < (↑(List.length (strv l)) : Int)))) true (gb (decide ((0 : Int) ≤ (↑i : Int) ∧ (↑i : Int) < (↑(List.length (strv l)) : Int))) (gb (decide (1 ≤ List.length (elemAt (strv l) (↑i : Int)) ∧ 0 < 1) && etaOk Sh.str (List.getD (elemAt (strv l) (↑i : Int)) 0 AVal.undef)) (brV (hold (decide ((600 : Int) < (↑(List.length (AVal.strOf (List.getD (elemAt (strv l) (↑i : Int)) 0 AVal.undef))) : Int)))) true (K Exit.ret (St.mk 32 [(0, AVal.slice (strv l) 1 Tag.ro), (4, AVal.str o), (5, AVal.int IntKind.i64 (↑i : Int)), (9, AVal.bool (hold (decide ((↑i : Int) < (↑(List.length (strv l)) : Int))))), (17, AVal.bool (hold (decide ((600 : Int) < (↑(List.length (AVal.strOf (List.getD (elemAt (strv l) (↑i : Int)) 0 AVal.undef))) : Int))))), (2, AVal.str []), (3, AVal.bool false)] [] [] Sto.empty)) (gb (decide ((0 : Int) ≤ (↑i : Int) ∧ (↑i : Int) < (↑(List.length (strv l)) : Int))) (gb (decide (1 ≤ List.length (elemAt (strv l) (↑i : Int)) ∧ 0 < 1) && etaOk Sh.str (List.getD (elemAt (strv l) (↑i : Int)) 0 AVal.undef)) (gb (hold (decide ((0 : Int) ≤ (↑(List.length (AVal.strOf (List.getD (elemAt (strv l) (↑i : Int)) 0 AVal.undef))) : Int)))) (gb (decide (List.length o + 2 ≤ 9223372036854775807)) (gb (decide ((0 : Int) ≤ (↑i : Int) ∧ (↑i : Int) < (↑(List.length (strv l)) : Int))) (gb (decide (1 ≤ List.length (elemAt (strv l) (↑i : Int)) ∧ 0 < 1) && etaOk Sh.str (List.getD (elemAt (strv l) (↑i : Int)) 0 AVal.undef)) (gb (decide (List.length (o ++ Go.Proofs.Ytlfnmhfmikomkaa.twoB (↑(List.length (AVal.strOf (List.getD (elemAt (strv l) (↑i : Int)) 0 AVal.undef))) : Int)) + List.length (AVal.strOf (List.getD (elemAt (strv l) (↑i : Int)) 0 AVal.undef)) ≤ 9223372036854775807)) (L (St.mk 32 [(0, AVal.slice (strv l) 1 Tag.ro), (4, AVal.str (o ++ Go.Proofs.Ytlfnmhfmikomkaa.twoB (↑(List.length (AVal.strOf (List.getD (elemAt (strv l) (↑i : Int)) 0 AVal.undef))) : Int) ++ AVal.strOf (List.getD (elemAt (strv l) (↑i : Int)) 0 AVal.undef))), (5, AVal.int IntKind.i64 (IntKind.wrap IntKind.i64 ((↑i : Int) + (1 : Int))))] [] [] Sto.empty)))))))))))) (K (Exit.exit 0) (St.mk 32 [(0, AVal.slice (strv l) 1 Tag.ro), (4, AVal.str o), (5, AVal.int IntKind.i64 (↑i : Int)), (9, AVal.bool (hold (decide ((↑i : Int) < (↑(List.length (strv l)) : Int)))))] [] [] Sto.empty))) := by kernel_rfl
noncomputable def layF_S (o : Txt) : St := St.mk 32 [(4, .str o)] [] [] (Sto.empty)
noncomputable abbrev layF_C : Code := code_60_1_1_1
theorem layF_r (o : Txt) (Q : AVal → Sto → Prop) : vc Try.prog cLay code_60_1_1_1 (endK Try.prog Try.f60.results.toList Q) (St.mk 32 [(4, .str o)] [] [] (Sto.empty)) =
  (Q (AVal.tuple [AVal.str o, AVal.bool true]) Sto.empty) := by kernel_rfl
end Go.Proofs.Ytlfnmhfmikomkaa.Jt
end

section
namespace Go.Proofs
open Go.Shelf
def Try.laysM316_ren : Go.Shelf.Ren := ⟨fun | 316 => 77 | n => n, fun | 9 => 9 | 3 => 3 | 4 => 4 | 37 => 84 | 0 => 0 | 127 => 104 | 5 => 5 | n => n, fun | n => n⟩
theorem Try.laysM316 : Go.Proofs.LaysM.n316 Try.prog Try.laysM316_ren := {
  mixed := by kernel_rfl
  f316 := Try.func77.trans (congrArg some (by kernel_rfl))
  t0 := Try.underlying0
  a0 := Try.isAgg0
  z0 := Try.sizeOf0
  v0 := Try.zeroValue0
  t3 := Try.underlying3
  a3 := Try.isAgg3
  z3 := Try.sizeOf3
  v3 := Try.zeroValue3
  t4 := Try.underlying4
  a4 := Try.isAgg4
  z4 := Try.sizeOf4
  v4 := Try.zeroValue4
  t9 := Try.underlying9
  a9 := Try.isAgg9
  z9 := Try.sizeOf9
  v9 := Try.zeroValue9
  t37 := Try.underlying84
  a37 := Try.isAgg84
  z37 := Try.sizeOf84
  v37 := Try.zeroValue84
  t127 := Try.underlying104
  a127 := Try.isAgg104
  z127 := Try.sizeOf104
  v127 := Try.zeroValue104
  t5 := Try.underlying5
  a5 := Try.isAgg5
  z5 := Try.sizeOf5
  v5 := Try.zeroValue5
  i0 := by kernel_rfl
  i3 := by kernel_rfl
  i4 := by kernel_rfl
  i5 := by kernel_rfl
  i9 := by kernel_rfl
  i37 := by kernel_rfl
  i127 := by kernel_rfl }
open Go.RowKit in
/-- internal/stringslite.Clone (what strings.Clone calls): "Clone returns a fresh copy of s.": THE SAME BYTES. Of what was there nothing has turned (a new row is laid, and frozen, where s is not empty). (LAID: no walk: one application.) -/
theorem Try.stringslite_Clone (s : ByteArray) (w : World) (hlim : s.size ≤ 281474976710656) :
    Calls Try.prog 77 #[.string s] w fun e w' => e = .returned (.string s) ∧ Below w.heap.size w w' := Any.stringslite_Clone Try.laysM316 s w hlim
end Go.Proofs
end

section
set_option maxRecDepth 100000
set_option maxHeartbeats 0
set_option linter.unusedVariables false
namespace Go.Proofs.Ytlfnmhfmikomkaa
open Go.AL Go.Proofs
noncomputable def cHas : Cfg := { keep := [0, 1, 4, 5, 9, 17], cut := [(5, [0, 1, 5], []), (12, [], [])] }
noncomputable def cPut : Cfg := { keep := [0, 1, 2, 6, 7], cut := [] }
noncomputable def cCut : Cfg := { keep := [0, 1, 4, 5], cut := [] }
noncomputable def cTexts : Cfg := { keep := [0, 1, 4, 5, 10, 14, 25], cut := [(9, [0, 1, 5], []), (16, [], [])] }
noncomputable def cSameRoot : Cfg := { keep := [0, 1, 2, 3, 4, 5, 12, 17, 30], cut := [(9, [2, 3, 5], [2, 3]), (16, [2, 3], [2, 3])], orc := ofList [textsE] }
noncomputable def cSame : Cfg := { keep := [0, 1, 4, 5, 10, 14, 54], cut := [(9, [0, 1, 5], []), (16, [], [])], orc := ofList [textsE] }
noncomputable def cInsertR : Cfg := { keep := [0, 1, 2, 3, 4, 6, 7, 8, 9, 10, 11, 12, 13, 14, 15, 31, 35, 41, 57, 67, 78, 85, 94], cut := [(17, [2, 3, 4, 6, 9], [3, 4, 6]), (31, [2, 3, 4, 6, 10, 11, 12], [3, 4, 6]), (37, [2, 3, 4, 6, 10, 11, 12, 13], [3, 4, 6]), (20, [2, 3, 4, 6, 9], [3, 4, 6]), (32, [2, 3, 4, 6, 10, 11, 12], [3, 4, 6]), (44, [2, 3, 4, 6, 10, 11], [3, 4, 6])], out := [6, 15], orc := ofList [rootRE, leafRE, findRE, hasE, ordE, putE, atRE] }
noncomputable def cRemoveR : Cfg := { keep := [0, 1, 2, 3, 4, 6, 7, 8, 9, 10, 11, 12, 28, 35, 49, 81], cut := [(18, [2, 3, 4, 6], [3, 4, 6])], out := [6], orc := ofList [rootRE, leafRE, findRE, hasE, cutE, atRE] }
noncomputable def code_15_ : Code := (Try.f15.body).getD .skip
noncomputable def code_19_ : Code := (Try.f19.body).getD .skip
noncomputable def code_20_ : Code := (Try.f20.body).getD .skip
noncomputable def code_21_ : Code := (Try.f21.body).getD .skip
noncomputable def code_22_ : Code := (Try.f22.body).getD .skip
noncomputable def code_49_ : Code := (Try.f49.body).getD .skip
noncomputable def code_50_ : Code := (Try.f50.body).getD .skip
noncomputable def code_52_ : Code := (Try.f52.body).getD .skip
noncomputable def code_49_1_1 : Code := codeAt code_49_ [1, 1]
noncomputable def code_15_1_1_1 : Code := codeAt code_15_ [1, 1, 1]
noncomputable def code_21_1_1_1 : Code := codeAt code_21_ [1, 1, 1]
noncomputable def code_22_1_1_1 : Code := codeAt code_22_ [1, 1, 1]
noncomputable def code_49_1_0_1_0_0 : Code := codeAt code_49_ [1, 0, 1, 0, 0]
noncomputable def code_15_1_1_0_1_0_0 : Code := codeAt code_15_ [1, 1, 0, 1, 0, 0]
noncomputable def code_19_1_1_1_1_1_1 : Code := codeAt code_19_ [1, 1, 1, 1, 1, 1]
noncomputable def code_20_1_1_1_1_1_1 : Code := codeAt code_20_ [1, 1, 1, 1, 1, 1]
noncomputable def code_21_1_1_0_1_0_0 : Code := codeAt code_21_ [1, 1, 0, 1, 0, 0]
noncomputable def code_22_1_1_0_1_0_0 : Code := codeAt code_22_ [1, 1, 0, 1, 0, 0]
noncomputable def code_19_1_1_1_1_1_0_0_0 : Code := codeAt code_19_ [1, 1, 1, 1, 1, 0, 0, 0]
noncomputable def code_19_1_1_1_1_1_1_1_1_1_1 : Code := codeAt code_19_ [1, 1, 1, 1, 1, 1, 1, 1, 1, 1]
noncomputable def code_19_1_1_1_1_1_1_1_1_1_0_1_0_0 : Code := codeAt code_19_ [1, 1, 1, 1, 1, 1, 1, 1, 1, 0, 1, 0, 0]
noncomputable def code_19_1_1_1_1_1_1_1_1_1_0_1_0_0_1_1 : Code := codeAt code_19_ [1, 1, 1, 1, 1, 1, 1, 1, 1, 0, 1, 0, 0, 1, 1]
noncomputable def code_19_1_1_1_1_1_1_1_1_1_0_1_0_0_1_0_0_1_0_0 : Code := codeAt code_19_ [1, 1, 1, 1, 1, 1, 1, 1, 1, 0, 1, 0, 0, 1, 0, 0, 1, 0, 0]
theorem has_r (l : List Txt) (s : Txt) (Q : AVal → Sto → Prop) : vc Try.prog cHas code_49_ (endK Try.prog Try.f49.results.toList Q) (St.start Try.f49.ntmps [.slice (strv l) 1 .ro, .str s] (Sto.empty)) =
  (loopV (fun s => St.norm [] [0, 1, 5] [] s) (vc Try.prog cHas code_49_1_0_1_0_0) (blockK 0 (thenK (fun s => cutV (vc Try.prog cHas code_49_1_1 (endK Try.prog (Array.toList (Go.Func.results Try.f49)) Q)) (St.norm [] [] [] s)) (endK Try.prog (Array.toList (Go.Func.results Try.f49)) Q))) (St.mk 19 [(0, AVal.slice (strv l) 1 Tag.ro), (1, AVal.str s), (5, AVal.int IntKind.i64 (0 : Int))] [] [] Sto.empty)) := by kernel_rfl
theorem has_i (l : List Txt) (s : Txt) (Q : AVal → Sto → Prop) (ho : OrcOk Try.prog cHas) (h : loopV (fun s => St.norm [] [0, 1, 5] [] s) (vc Try.prog cHas code_49_1_0_1_0_0) (blockK 0 (thenK (fun s => cutV (vc Try.prog cHas code_49_1_1 (endK Try.prog (Array.toList (Go.Func.results Try.f49)) Q)) (St.norm [] [] [] s)) (endK Try.prog (Array.toList (Go.Func.results Try.f49)) Q))) (St.mk 19 [(0, AVal.slice (strv l) 1 Tag.ro), (1, AVal.str s), (5, AVal.int IntKind.i64 (0 : Int))] [] [] Sto.empty)) : ACall Try.prog 49 [.slice (strv l) 1 .ro, .str s] (Sto.empty) Q :=
  ACall.intro hmix Try.func49 (c := code_49_) (by kernel_rfl) cHas ho (Nat.le_of_ble_eq_true (by kernel_rfl)) (by rw [has_r]; exact h)
noncomputable def hasL_S (l : List Txt) (s : Txt) (i : Nat) : St := St.mk 19 [(0, .slice (strv l) 1 .ro), (1, .str s), (5, .int .i64 (i : Int))] [] [] (Sto.empty)
theorem hasL_r (l : List Txt) (s : Txt) (i : Nat) (L : St → Prop) (K : Exit → St → Prop) : vc Try.prog cHas code_49_1_0_1_0_0 (thenK (fun s => L (St.norm [] [0, 1, 5] [] s)) K) (St.mk 19 [(0, .slice (strv l) 1 .ro), (1, .str s), (5, .int .i64 (i : Int))] [] [] (Sto.empty)) =
  (brV (hold (decide ((↑i : Int) < (↑(List.length (strv l)) : Int)))) true (gb (decide ((0 : Int) ≤ (↑i : Int) ∧ (↑i : Int) < (↑(List.length (strv l)) : Int))) (gb (decide (1 ≤ List.length (elemAt (strv l) (↑i : Int)) ∧ 0 < 1) && etaOk Sh.str (List.getD (elemAt (strv l) (↑i : Int)) 0 AVal.undef)) (brV (hold (AVal.strOf (List.getD (elemAt (strv l) (↑i : Int)) 0 AVal.undef) == s)) true (K Exit.ret (St.mk 19 [(0, AVal.slice (strv l) 1 Tag.ro), (1, AVal.str s), (5, AVal.int IntKind.i64 (↑i : Int)), (9, AVal.bool (hold (decide ((↑i : Int) < (↑(List.length (strv l)) : Int))))), (17, AVal.bool (hold (AVal.strOf (List.getD (elemAt (strv l) (↑i : Int)) 0 AVal.undef) == s))), (4, AVal.int IntKind.i64 (↑i : Int))] [] [] Sto.empty)) (L (St.mk 19 [(0, AVal.slice (strv l) 1 Tag.ro), (1, AVal.str s), (5, AVal.int IntKind.i64 (IntKind.wrap IntKind.i64 ((↑i : Int) + (1 : Int))))] [] [] Sto.empty))))) (K (Exit.exit 0) (St.mk 19 [(0, AVal.slice (strv l) 1 Tag.ro), (1, AVal.str s), (5, AVal.int IntKind.i64 (↑i : Int)), (9, AVal.bool (hold (decide ((↑i : Int) < (↑(List.length (strv l)) : Int)))))] [] [] Sto.empty))) := by kernel_rfl
noncomputable def hasF_S  : St := St.mk 19 [] [] [] (Sto.empty)
theorem hasF_r  (Q : AVal → Sto → Prop) : vc Try.prog cHas code_49_1_1 (endK Try.prog Try.f49.results.toList Q) (St.mk 19 [] [] [] (Sto.empty)) =
  (Q (AVal.int IntKind.i64 (-1 : Int)) Sto.empty) := by kernel_rfl
theorem put_r (l : List Txt) (i : Nat) (s : Txt) (Q : AVal → Sto → Prop) : vc Try.prog cPut code_50_ (endK Try.prog Try.f50.results.toList Q) (St.start Try.f50.ntmps [.slice (strv l) 1 .ro, .int .i64 (i : Int), .str s] (Sto.empty)) =
  (gb (decide ((0 : Int) ≤ (0 : Int) ∧ (0 : Int) ≤ (↑i : Int) ∧ (↑i : Int) ≤ (↑(List.length (strv l)) : Int))) (gb (decide (decide (true = true ∧ List.length (List.take (Int.toNat (↑i : Int) - 0) (List.drop 0 (strv l))) * 16 ≤ 140737488355328 ∧ List.length (List.take (Int.toNat (↑i : Int) - 0) (List.drop 0 (strv l))) ≤ 9223372036854775807) = true ∧ true = true)) (gb (decide (decide (true = true ∧ some (List.length (List.take (Int.toNat (↑i : Int) - 0) (List.drop 0 (strv l)))) = some (List.length (List.take (Int.toNat (↑i : Int) - 0) (List.drop 0 (strv l)))) ∧ (List.length (List.take (Int.toNat (↑i : Int) - 0) (List.drop 0 (strv l))) + 1) * 16 ≤ 140737488355328 ∧ List.length (List.take (Int.toNat (↑i : Int) - 0) (List.drop 0 (strv l))) + 1 ≤ 9223372036854775807) = true ∧ true = true)) (gb (decide ((0 : Int) ≤ (↑i : Int) ∧ (↑i : Int) ≤ (↑(List.length (strv l)) : Int) ∧ (↑(List.length (strv l)) : Int) ≤ (↑(List.length (strv l)) : Int))) (gb (decide (decide (true = true ∧ some (List.length (List.take (Int.toNat (↑i : Int) - 0) (List.drop 0 (strv l))) + 1) = some (List.length (List.take (Int.toNat (↑i : Int) - 0) (List.drop 0 (strv l)) ++ [AVal.str s])) ∧ (List.length (List.take (Int.toNat (↑i : Int) - 0) (List.drop 0 (strv l)) ++ [AVal.str s]) + List.length (List.take (Int.toNat (↑(List.length (strv l)) : Int) - Int.toNat (↑i : Int)) (List.drop (Int.toNat (↑i : Int)) (strv l)))) * 16 ≤ 140737488355328 ∧ List.length (List.take (Int.toNat (↑i : Int) - 0) (List.drop 0 (strv l)) ++ [AVal.str s]) + List.length (List.take (Int.toNat (↑(List.length (strv l)) : Int) - Int.toNat (↑i : Int)) (List.drop (Int.toNat (↑i : Int)) (strv l))) ≤ 9223372036854775807) = true ∧ true = true)) (Q (AVal.slice (List.take (Int.toNat (↑i : Int) - 0) (List.drop 0 (strv l)) ++ [AVal.str s] ++ List.take (Int.toNat (↑(List.length (strv l)) : Int) - Int.toNat (↑i : Int)) (List.drop (Int.toNat (↑i : Int)) (strv l))) 1 (Tag.own 0)) (Sto.setOwn (Sto.setOwn (Sto.pushOwn Sto.empty (List.length (List.take (Int.toNat (↑i : Int) - 0) (List.drop 0 (strv l))))) 0 (List.length (List.take (Int.toNat (↑i : Int) - 0) (List.drop 0 (strv l))) + 1)) 0 (List.length (List.take (Int.toNat (↑i : Int) - 0) (List.drop 0 (strv l)) ++ [AVal.str s]) + List.length (List.take (Int.toNat (↑(List.length (strv l)) : Int) - Int.toNat (↑i : Int)) (List.drop (Int.toNat (↑i : Int)) (strv l))))))))))) := by kernel_rfl
theorem put_i (l : List Txt) (i : Nat) (s : Txt) (Q : AVal → Sto → Prop) (ho : OrcOk Try.prog cPut) (h : gb (decide ((0 : Int) ≤ (0 : Int) ∧ (0 : Int) ≤ (↑i : Int) ∧ (↑i : Int) ≤ (↑(List.length (strv l)) : Int))) (gb (decide (decide (true = true ∧ List.length (List.take (Int.toNat (↑i : Int) - 0) (List.drop 0 (strv l))) * 16 ≤ 140737488355328 ∧ List.length (List.take (Int.toNat (↑i : Int) - 0) (List.drop 0 (strv l))) ≤ 9223372036854775807) = true ∧ true = true)) (gb (decide (decide (true = true ∧ some (List.length (List.take (Int.toNat (↑i : Int) - 0) (List.drop 0 (strv l)))) = some (List.length (List.take (Int.toNat (↑i : Int) - 0) (List.drop 0 (strv l)))) ∧ (List.length (List.take (Int.toNat (↑i : Int) - 0) (List.drop 0 (strv l))) + 1) * 16 ≤ 140737488355328 ∧ List.length (List.take (Int.toNat (↑i : Int) - 0) (List.drop 0 (strv l))) + 1 ≤ 9223372036854775807) = true ∧ true = true)) (gb (decide ((0 : Int) ≤ (↑i : Int) ∧ (↑i : Int) ≤ (↑(List.length (strv l)) : Int) ∧ (↑(List.length (strv l)) : Int) ≤ (↑(List.length (strv l)) : Int))) (gb (decide (decide (true = true ∧ some (List.length (List.take (Int.toNat (↑i : Int) - 0) (List.drop 0 (strv l))) + 1) = some (List.length (List.take (Int.toNat (↑i : Int) - 0) (List.drop 0 (strv l)) ++ [AVal.str s])) ∧ (List.length (List.take (Int.toNat (↑i : Int) - 0) (List.drop 0 (strv l)) ++ [AVal.str s]) + List.length (List.take (Int.toNat (↑(List.length (strv l)) : Int) - Int.toNat (↑i : Int)) (List.drop (Int.toNat (↑i : Int)) (strv l)))) * 16 ≤ 140737488355328 ∧ List.length (List.take (Int.toNat (↑i : Int) - 0) (List.drop 0 (strv l)) ++ [AVal.str s]) + List.length (List.take (Int.toNat (↑(List.length (strv l)) : Int) - Int.toNat (↑i : Int)) (List.drop (Int.toNat (↑i : Int)) (strv l))) ≤ 9223372036854775807) = true ∧ true = true)) (Q (AVal.slice (List.take (Int.toNat (↑i : Int) - 0) (List.drop 0 (strv l)) ++ [AVal.str s] ++ List.take (Int.toNat (↑(List.length (strv l)) : Int) - Int.toNat (↑i : Int)) (List.drop (Int.toNat (↑i : Int)) (strv l))) 1 (Tag.own 0)) (Sto.setOwn (Sto.setOwn (Sto.pushOwn Sto.empty (List.length (List.take (Int.toNat (↑i : Int) - 0) (List.drop 0 (strv l))))) 0 (List.length (List.take (Int.toNat (↑i : Int) - 0) (List.drop 0 (strv l))) + 1)) 0 (List.length (List.take (Int.toNat (↑i : Int) - 0) (List.drop 0 (strv l)) ++ [AVal.str s]) + List.length (List.take (Int.toNat (↑(List.length (strv l)) : Int) - Int.toNat (↑i : Int)) (List.drop (Int.toNat (↑i : Int)) (strv l))))))))))) : ACall Try.prog 50 [.slice (strv l) 1 .ro, .int .i64 (i : Int), .str s] (Sto.empty) Q :=
  ACall.intro hmix Try.func50 (c := code_50_) (by kernel_rfl) cPut ho (Nat.le_of_ble_eq_true (by kernel_rfl)) (by rw [put_r]; exact h)
theorem cut_r (l : List Txt) (i : Nat) (Q : AVal → Sto → Prop) : vc Try.prog cCut code_52_ (endK Try.prog Try.f52.results.toList Q) (St.start Try.f52.ntmps [.slice (strv l) 1 .ro, .int .i64 (i : Int)] (Sto.empty)) =
  (gb (decide ((0 : Int) ≤ (0 : Int) ∧ (0 : Int) ≤ (↑i : Int) ∧ (↑i : Int) ≤ (↑(List.length (strv l)) : Int))) (gb (decide (decide (true = true ∧ List.length (List.take (Int.toNat (↑i : Int) - 0) (List.drop 0 (strv l))) * 16 ≤ 140737488355328 ∧ List.length (List.take (Int.toNat (↑i : Int) - 0) (List.drop 0 (strv l))) ≤ 9223372036854775807) = true ∧ true = true)) (gb (decide ((0 : Int) ≤ IntKind.wrap IntKind.i64 ((↑i : Int) + (1 : Int)) ∧ IntKind.wrap IntKind.i64 ((↑i : Int) + (1 : Int)) ≤ (↑(List.length (strv l)) : Int) ∧ (↑(List.length (strv l)) : Int) ≤ (↑(List.length (strv l)) : Int))) (gb (decide (decide (true = true ∧ some (List.length (List.take (Int.toNat (↑i : Int) - 0) (List.drop 0 (strv l)))) = some (List.length (List.take (Int.toNat (↑i : Int) - 0) (List.drop 0 (strv l)))) ∧ (List.length (List.take (Int.toNat (↑i : Int) - 0) (List.drop 0 (strv l))) + List.length (List.take (Int.toNat (↑(List.length (strv l)) : Int) - Int.toNat (IntKind.wrap IntKind.i64 ((↑i : Int) + (1 : Int)))) (List.drop (Int.toNat (IntKind.wrap IntKind.i64 ((↑i : Int) + (1 : Int)))) (strv l)))) * 16 ≤ 140737488355328 ∧ List.length (List.take (Int.toNat (↑i : Int) - 0) (List.drop 0 (strv l))) + List.length (List.take (Int.toNat (↑(List.length (strv l)) : Int) - Int.toNat (IntKind.wrap IntKind.i64 ((↑i : Int) + (1 : Int)))) (List.drop (Int.toNat (IntKind.wrap IntKind.i64 ((↑i : Int) + (1 : Int)))) (strv l))) ≤ 9223372036854775807) = true ∧ true = true)) (Q (AVal.slice (List.take (Int.toNat (↑i : Int) - 0) (List.drop 0 (strv l)) ++ List.take (Int.toNat (↑(List.length (strv l)) : Int) - Int.toNat (IntKind.wrap IntKind.i64 ((↑i : Int) + (1 : Int)))) (List.drop (Int.toNat (IntKind.wrap IntKind.i64 ((↑i : Int) + (1 : Int)))) (strv l))) 1 (Tag.own 0)) (Sto.setOwn (Sto.pushOwn Sto.empty (List.length (List.take (Int.toNat (↑i : Int) - 0) (List.drop 0 (strv l))))) 0 (List.length (List.take (Int.toNat (↑i : Int) - 0) (List.drop 0 (strv l))) + List.length (List.take (Int.toNat (↑(List.length (strv l)) : Int) - Int.toNat (IntKind.wrap IntKind.i64 ((↑i : Int) + (1 : Int)))) (List.drop (Int.toNat (IntKind.wrap IntKind.i64 ((↑i : Int) + (1 : Int)))) (strv l)))))))))) := by kernel_rfl
theorem cut_i (l : List Txt) (i : Nat) (Q : AVal → Sto → Prop) (ho : OrcOk Try.prog cCut) (h : gb (decide ((0 : Int) ≤ (0 : Int) ∧ (0 : Int) ≤ (↑i : Int) ∧ (↑i : Int) ≤ (↑(List.length (strv l)) : Int))) (gb (decide (decide (true = true ∧ List.length (List.take (Int.toNat (↑i : Int) - 0) (List.drop 0 (strv l))) * 16 ≤ 140737488355328 ∧ List.length (List.take (Int.toNat (↑i : Int) - 0) (List.drop 0 (strv l))) ≤ 9223372036854775807) = true ∧ true = true)) (gb (decide ((0 : Int) ≤ IntKind.wrap IntKind.i64 ((↑i : Int) + (1 : Int)) ∧ IntKind.wrap IntKind.i64 ((↑i : Int) + (1 : Int)) ≤ (↑(List.length (strv l)) : Int) ∧ (↑(List.length (strv l)) : Int) ≤ (↑(List.length (strv l)) : Int))) (gb (decide (decide (true = true ∧ some (List.length (List.take (Int.toNat (↑i : Int) - 0) (List.drop 0 (strv l)))) = some (List.length (List.take (Int.toNat (↑i : Int) - 0) (List.drop 0 (strv l)))) ∧ (List.length (List.take (Int.toNat (↑i : Int) - 0) (List.drop 0 (strv l))) + List.length (List.take (Int.toNat (↑(List.length (strv l)) : Int) - Int.toNat (IntKind.wrap IntKind.i64 ((↑i : Int) + (1 : Int)))) (List.drop (Int.toNat (IntKind.wrap IntKind.i64 ((↑i : Int) + (1 : Int)))) (strv l)))) * 16 ≤ 140737488355328 ∧ List.length (List.take (Int.toNat (↑i : Int) - 0) (List.drop 0 (strv l))) + List.length (List.take (Int.toNat (↑(List.length (strv l)) : Int) - Int.toNat (IntKind.wrap IntKind.i64 ((↑i : Int) + (1 : Int)))) (List.drop (Int.toNat (IntKind.wrap IntKind.i64 ((↑i : Int) + (1 : Int)))) (strv l))) ≤ 9223372036854775807) = true ∧ true = true)) (Q (AVal.slice (List.take (Int.toNat (↑i : Int) - 0) (List.drop 0 (strv l)) ++ List.take (Int.toNat (↑(List.length (strv l)) : Int) - Int.toNat (IntKind.wrap IntKind.i64 ((↑i : Int) + (1 : Int)))) (List.drop (Int.toNat (IntKind.wrap IntKind.i64 ((↑i : Int) + (1 : Int)))) (strv l))) 1 (Tag.own 0)) (Sto.setOwn (Sto.pushOwn Sto.empty (List.length (List.take (Int.toNat (↑i : Int) - 0) (List.drop 0 (strv l))))) 0 (List.length (List.take (Int.toNat (↑i : Int) - 0) (List.drop 0 (strv l))) + List.length (List.take (Int.toNat (↑(List.length (strv l)) : Int) - Int.toNat (IntKind.wrap IntKind.i64 ((↑i : Int) + (1 : Int)))) (List.drop (Int.toNat (IntKind.wrap IntKind.i64 ((↑i : Int) + (1 : Int)))) (strv l)))))))))) : ACall Try.prog 52 [.slice (strv l) 1 .ro, .int .i64 (i : Int)] (Sto.empty) Q :=
  ACall.intro hmix Try.func52 (c := code_52_) (by kernel_rfl) cCut ho (Nat.le_of_ble_eq_true (by kernel_rfl)) (by rw [cut_r]; exact h)
theorem texts_r (a b : List Txt) (Q : AVal → Sto → Prop) : vc Try.prog cTexts code_15_ (endK Try.prog Try.f15.results.toList Q) (St.start Try.f15.ntmps [.slice (strv a) 1 .ro, .slice (strv b) 1 .ro] (Sto.empty)) =
  (brV (hold ((↑(List.length (strv a)) : Int) != (↑(List.length (strv b)) : Int))) true (Q (AVal.bool false) Sto.empty) (loopV (fun s => St.norm [] [0, 1, 5] [] s) (vc Try.prog cTexts code_15_1_1_0_1_0_0) (blockK 0 (thenK (fun s => cutV (vc Try.prog cTexts code_15_1_1_1 (endK Try.prog (Array.toList (Go.Func.results Try.f15)) Q)) (St.norm [] [] [] s)) (endK Try.prog (Array.toList (Go.Func.results Try.f15)) Q))) (St.mk 26 [(0, AVal.slice (strv a) 1 Tag.ro), (1, AVal.slice (strv b) 1 Tag.ro), (5, AVal.int IntKind.i64 (0 : Int))] [] [] Sto.empty))) := by kernel_rfl
theorem texts_i (a b : List Txt) (Q : AVal → Sto → Prop) (ho : OrcOk Try.prog cTexts) (h : brV (hold ((↑(List.length (strv a)) : Int) != (↑(List.length (strv b)) : Int))) true (Q (AVal.bool false) Sto.empty) (loopV (fun s => St.norm [] [0, 1, 5] [] s) (vc Try.prog cTexts code_15_1_1_0_1_0_0) (blockK 0 (thenK (fun s => cutV (vc Try.prog cTexts code_15_1_1_1 (endK Try.prog (Array.toList (Go.Func.results Try.f15)) Q)) (St.norm [] [] [] s)) (endK Try.prog (Array.toList (Go.Func.results Try.f15)) Q))) (St.mk 26 [(0, AVal.slice (strv a) 1 Tag.ro), (1, AVal.slice (strv b) 1 Tag.ro), (5, AVal.int IntKind.i64 (0 : Int))] [] [] Sto.empty))) : ACall Try.prog 15 [.slice (strv a) 1 .ro, .slice (strv b) 1 .ro] (Sto.empty) Q :=
  ACall.intro hmix Try.func15 (c := code_15_) (by kernel_rfl) cTexts ho (Nat.le_of_ble_eq_true (by kernel_rfl)) (by rw [texts_r]; exact h)
noncomputable def textsL_S (a b : List Txt) (i : Nat) : St := St.mk 26 [(0, .slice (strv a) 1 .ro), (1, .slice (strv b) 1 .ro), (5, .int .i64 (i : Int))] [] [] (Sto.empty)
theorem textsL_r (a b : List Txt) (i : Nat) (L : St → Prop) (K : Exit → St → Prop) : vc Try.prog cTexts code_15_1_1_0_1_0_0 (thenK (fun s => L (St.norm [] [0, 1, 5] [] s)) K) (St.mk 26 [(0, .slice (strv a) 1 .ro), (1, .slice (strv b) 1 .ro), (5, .int .i64 (i : Int))] [] [] (Sto.empty)) =
  (brV (hold (decide ((↑i : Int) < (↑(List.length (strv a)) : Int)))) true (gb (decide ((0 : Int) ≤ (↑i : Int) ∧ (↑i : Int) < (↑(List.length (strv a)) : Int))) (gb (decide (1 ≤ List.length (elemAt (strv a) (↑i : Int)) ∧ 0 < 1) && etaOk Sh.str (List.getD (elemAt (strv a) (↑i : Int)) 0 AVal.undef)) (gb (decide ((0 : Int) ≤ (↑i : Int) ∧ (↑i : Int) < (↑(List.length (strv b)) : Int))) (gb (decide (1 ≤ List.length (elemAt (strv b) (↑i : Int)) ∧ 0 < 1) && etaOk Sh.str (List.getD (elemAt (strv b) (↑i : Int)) 0 AVal.undef)) (brV (hold !AVal.strOf (List.getD (elemAt (strv a) (↑i : Int)) 0 AVal.undef) == AVal.strOf (List.getD (elemAt (strv b) (↑i : Int)) 0 AVal.undef)) true (K Exit.ret (St.mk 26 [(0, AVal.slice (strv a) 1 Tag.ro), (1, AVal.slice (strv b) 1 Tag.ro), (5, AVal.int IntKind.i64 (↑i : Int)), (14, AVal.bool (hold (decide ((↑i : Int) < (↑(List.length (strv a)) : Int))))), (25, AVal.bool (hold !AVal.strOf (List.getD (elemAt (strv a) (↑i : Int)) 0 AVal.undef) == AVal.strOf (List.getD (elemAt (strv b) (↑i : Int)) 0 AVal.undef))), (4, AVal.bool false)] [] [] Sto.empty)) (L (St.mk 26 [(0, AVal.slice (strv a) 1 Tag.ro), (1, AVal.slice (strv b) 1 Tag.ro), (5, AVal.int IntKind.i64 (IntKind.wrap IntKind.i64 ((↑i : Int) + (1 : Int))))] [] [] Sto.empty))))))) (K (Exit.exit 0) (St.mk 26 [(0, AVal.slice (strv a) 1 Tag.ro), (1, AVal.slice (strv b) 1 Tag.ro), (5, AVal.int IntKind.i64 (↑i : Int)), (14, AVal.bool (hold (decide ((↑i : Int) < (↑(List.length (strv a)) : Int)))))] [] [] Sto.empty))) := by kernel_rfl
noncomputable def textsF_S  : St := St.mk 26 [] [] [] (Sto.empty)
theorem textsF_r  (Q : AVal → Sto → Prop) : vc Try.prog cTexts code_15_1_1_1 (endK Try.prog Try.f15.results.toList Q) (St.mk 26 [] [] [] (Sto.empty)) =
  (Q (AVal.bool true) Sto.empty) := by kernel_rfl
theorem sameRoot_r (r q : Root) (Q : AVal → Sto → Prop) : vc Try.prog cSameRoot code_21_ (endK Try.prog Try.f21.results.toList Q) (St.start Try.f21.ntmps [rootV r, rootV q] (Sto.empty)) =
  (brV (hold ((↑(List.length (iv (Prod.snd r))) : Int) != (↑(List.length (iv (Prod.snd q))) : Int))) true (Q (AVal.bool false) Sto.empty) (loopV (fun s => St.norm [] [2, 3, 5] [2, 3] s) (vc Try.prog cSameRoot code_21_1_1_0_1_0_0) (blockK 0 (thenK (fun s => cutV (vc Try.prog cSameRoot code_21_1_1_1 (endK Try.prog (Array.toList (Go.Func.results Try.f21)) Q)) (St.norm [] [2, 3] [2, 3] s)) (endK Try.prog (Array.toList (Go.Func.results Try.f21)) Q))) (St.mk 36 [(2, AVal.ptr (Oid.loc 2) 0), (3, AVal.ptr (Oid.loc 3) 0), (5, AVal.int IntKind.i64 (0 : Int))] [] [(2, AObj.cells [AVal.slice (strv (Prod.fst r)) 1 Tag.ro, AVal.slice (iv (Prod.snd r)) 1 Tag.ro]), (3, AObj.cells [AVal.slice (strv (Prod.fst q)) 1 Tag.ro, AVal.slice (iv (Prod.snd q)) 1 Tag.ro])] Sto.empty))) := by kernel_rfl
theorem sameRoot_i (r q : Root) (Q : AVal → Sto → Prop) (ho : OrcOk Try.prog cSameRoot) (h : brV (hold ((↑(List.length (iv (Prod.snd r))) : Int) != (↑(List.length (iv (Prod.snd q))) : Int))) true (Q (AVal.bool false) Sto.empty) (loopV (fun s => St.norm [] [2, 3, 5] [2, 3] s) (vc Try.prog cSameRoot code_21_1_1_0_1_0_0) (blockK 0 (thenK (fun s => cutV (vc Try.prog cSameRoot code_21_1_1_1 (endK Try.prog (Array.toList (Go.Func.results Try.f21)) Q)) (St.norm [] [2, 3] [2, 3] s)) (endK Try.prog (Array.toList (Go.Func.results Try.f21)) Q))) (St.mk 36 [(2, AVal.ptr (Oid.loc 2) 0), (3, AVal.ptr (Oid.loc 3) 0), (5, AVal.int IntKind.i64 (0 : Int))] [] [(2, AObj.cells [AVal.slice (strv (Prod.fst r)) 1 Tag.ro, AVal.slice (iv (Prod.snd r)) 1 Tag.ro]), (3, AObj.cells [AVal.slice (strv (Prod.fst q)) 1 Tag.ro, AVal.slice (iv (Prod.snd q)) 1 Tag.ro])] Sto.empty))) : ACall Try.prog 21 [rootV r, rootV q] (Sto.empty) Q :=
  ACall.intro hmix Try.func21 (c := code_21_) (by kernel_rfl) cSameRoot ho (Nat.le_of_ble_eq_true (by kernel_rfl)) (by rw [sameRoot_r]; exact h)
noncomputable def sameRootL_S (r q : Root) (i : Nat) : St := St.mk 36 [(2, .ptr (.loc 2) 0), (3, .ptr (.loc 3) 0), (5, .int .i64 (i : Int))] [] [(2, .cells (rootC r)), (3, .cells (rootC q))] (Sto.empty)
theorem sameRootL_r (r q : Root) (i : Nat) (L : St → Prop) (K : Exit → St → Prop) : vc Try.prog cSameRoot code_21_1_1_0_1_0_0 (thenK (fun s => L (St.norm [] [2, 3, 5] [2, 3] s)) K) (St.mk 36 [(2, .ptr (.loc 2) 0), (3, .ptr (.loc 3) 0), (5, .int .i64 (i : Int))] [] [(2, .cells (rootC r)), (3, .cells (rootC q))] (Sto.empty)) =
  (brV (hold (decide ((↑i : Int) < (↑(List.length (iv (Prod.snd r))) : Int)))) true (gb (decide ((0 : Int) ≤ (↑i : Int) ∧ (↑i : Int) < (↑(List.length (iv (Prod.snd r))) : Int))) (gb (decide (1 ≤ List.length (elemAt (iv (Prod.snd r)) (↑i : Int)) ∧ 0 < 1) && etaOk (Sh.int IntKind.i64) (List.getD (elemAt (iv (Prod.snd r)) (↑i : Int)) 0 AVal.undef)) (gb (decide ((0 : Int) ≤ (↑i : Int) ∧ (↑i : Int) < (↑(List.length (iv (Prod.snd q))) : Int))) (gb (decide (1 ≤ List.length (elemAt (iv (Prod.snd q)) (↑i : Int)) ∧ 0 < 1) && etaOk (Sh.int IntKind.i64) (List.getD (elemAt (iv (Prod.snd q)) (↑i : Int)) 0 AVal.undef)) (brV (hold (AVal.intOf (List.getD (elemAt (iv (Prod.snd r)) (↑i : Int)) 0 AVal.undef) != AVal.intOf (List.getD (elemAt (iv (Prod.snd q)) (↑i : Int)) 0 AVal.undef))) true (K Exit.ret (St.mk 36 [(2, AVal.ptr (Oid.loc 2) 0), (3, AVal.ptr (Oid.loc 3) 0), (5, AVal.int IntKind.i64 (↑i : Int)), (17, AVal.bool (hold (decide ((↑i : Int) < (↑(List.length (iv (Prod.snd r))) : Int))))), (30, AVal.bool (hold (AVal.intOf (List.getD (elemAt (iv (Prod.snd r)) (↑i : Int)) 0 AVal.undef) != AVal.intOf (List.getD (elemAt (iv (Prod.snd q)) (↑i : Int)) 0 AVal.undef)))), (4, AVal.bool false)] [] [(2, AObj.cells [AVal.slice (strv (Prod.fst r)) 1 Tag.ro, AVal.slice (iv (Prod.snd r)) 1 Tag.ro]), (3, AObj.cells [AVal.slice (strv (Prod.fst q)) 1 Tag.ro, AVal.slice (iv (Prod.snd q)) 1 Tag.ro])] Sto.empty)) (L (St.mk 36 [(2, AVal.ptr (Oid.loc 2) 0), (3, AVal.ptr (Oid.loc 3) 0), (5, AVal.int IntKind.i64 (IntKind.wrap IntKind.i64 ((↑i : Int) + (1 : Int))))] [] [(2, AObj.cells [AVal.slice (strv (Prod.fst r)) 1 Tag.ro, AVal.slice (iv (Prod.snd r)) 1 Tag.ro]), (3, AObj.cells [AVal.slice (strv (Prod.fst q)) 1 Tag.ro, AVal.slice (iv (Prod.snd q)) 1 Tag.ro])] Sto.empty))))))) (K (Exit.exit 0) (St.mk 36 [(2, AVal.ptr (Oid.loc 2) 0), (3, AVal.ptr (Oid.loc 3) 0), (5, AVal.int IntKind.i64 (↑i : Int)), (17, AVal.bool (hold (decide ((↑i : Int) < (↑(List.length (iv (Prod.snd r))) : Int)))))] [] [(2, AObj.cells [AVal.slice (strv (Prod.fst r)) 1 Tag.ro, AVal.slice (iv (Prod.snd r)) 1 Tag.ro]), (3, AObj.cells [AVal.slice (strv (Prod.fst q)) 1 Tag.ro, AVal.slice (iv (Prod.snd q)) 1 Tag.ro])] Sto.empty))) := by kernel_rfl
noncomputable def sameRootF_S (r q : Root) : St := St.mk 36 [(2, .ptr (.loc 2) 0), (3, .ptr (.loc 3) 0)] [] [(2, .cells (rootC r)), (3, .cells (rootC q))] (Sto.empty)
theorem sameRootF_r (r q : Root) (Q : AVal → Sto → Prop) : vc Try.prog cSameRoot code_21_1_1_1 (endK Try.prog Try.f21.results.toList Q) (St.mk 36 [(2, .ptr (.loc 2) 0), (3, .ptr (.loc 3) 0)] [] [(2, .cells (rootC r)), (3, .cells (rootC q))] (Sto.empty)) =
  (gb (List.all (strv (Prod.fst r)) strIs && (List.all (strv (Prod.fst q)) strIs && lenOk (List.length (strv (Prod.fst r))))) (Q (AVal.bool (hold (List.map AVal.strOf (strv (Prod.fst r)) == List.map AVal.strOf (strv (Prod.fst q))))) Sto.empty)) := by kernel_rfl
theorem same_r (a b : List Lf) (Q : AVal → Sto → Prop) : vc Try.prog cSame code_22_ (endK Try.prog Try.f22.results.toList Q) (St.start Try.f22.ntmps [.slice (lfv a) 3 .ro, .slice (lfv b) 3 .ro] (Sto.empty)) =
  (brV (hold ((↑(List.length (lfv a)) : Int) != (↑(List.length (lfv b)) : Int))) true (Q (AVal.bool false) Sto.empty) (loopV (fun s => St.norm [] [0, 1, 5] [] s) (vc Try.prog cSame code_22_1_1_0_1_0_0) (blockK 0 (thenK (fun s => cutV (vc Try.prog cSame code_22_1_1_1 (endK Try.prog (Array.toList (Go.Func.results Try.f22)) Q)) (St.norm [] [] [] s)) (endK Try.prog (Array.toList (Go.Func.results Try.f22)) Q))) (St.mk 55 [(0, AVal.slice (lfv a) 3 Tag.ro), (1, AVal.slice (lfv b) 3 Tag.ro), (5, AVal.int IntKind.i64 (0 : Int))] [] [] Sto.empty))) := by kernel_rfl
theorem same_i (a b : List Lf) (Q : AVal → Sto → Prop) (ho : OrcOk Try.prog cSame) (h : brV (hold ((↑(List.length (lfv a)) : Int) != (↑(List.length (lfv b)) : Int))) true (Q (AVal.bool false) Sto.empty) (loopV (fun s => St.norm [] [0, 1, 5] [] s) (vc Try.prog cSame code_22_1_1_0_1_0_0) (blockK 0 (thenK (fun s => cutV (vc Try.prog cSame code_22_1_1_1 (endK Try.prog (Array.toList (Go.Func.results Try.f22)) Q)) (St.norm [] [] [] s)) (endK Try.prog (Array.toList (Go.Func.results Try.f22)) Q))) (St.mk 55 [(0, AVal.slice (lfv a) 3 Tag.ro), (1, AVal.slice (lfv b) 3 Tag.ro), (5, AVal.int IntKind.i64 (0 : Int))] [] [] Sto.empty))) : ACall Try.prog 22 [.slice (lfv a) 3 .ro, .slice (lfv b) 3 .ro] (Sto.empty) Q :=
  ACall.intro hmix Try.func22 (c := code_22_) (by kernel_rfl) cSame ho (Nat.le_of_ble_eq_true (by kernel_rfl)) (by rw [same_r]; exact h)
noncomputable def sameL_S (a b : List Lf) (i : Nat) : St := St.mk 55 [(0, .slice (lfv a) 3 .ro), (1, .slice (lfv b) 3 .ro), (5, .int .i64 (i : Int))] [] [] (Sto.empty)
theorem sameL_r (a b : List Lf) (i : Nat) (L : St → Prop) (K : Exit → St → Prop) : vc Try.prog cSame code_22_1_1_0_1_0_0 (thenK (fun s => L (St.norm [] [0, 1, 5] [] s)) K) (St.mk 55 [(0, .slice (lfv a) 3 .ro), (1, .slice (lfv b) 3 .ro), (5, .int .i64 (i : Int))] [] [] (Sto.empty)) =
  (brV (hold (decide ((↑i : Int) < (↑(List.length (lfv a)) : Int)))) true (gb (decide ((0 : Int) ≤ (↑i : Int) ∧ (↑i : Int) < (↑(List.length (lfv a)) : Int))) (gb (decide (1 ≤ List.length (List.drop 0 (elemAt (lfv a) (↑i : Int))) ∧ 0 < 1) && etaOk (Sh.int IntKind.i64) (List.getD (List.drop 0 (elemAt (lfv a) (↑i : Int))) 0 AVal.undef)) (gb (decide ((0 : Int) ≤ (↑i : Int) ∧ (↑i : Int) < (↑(List.length (lfv b)) : Int))) (gb (decide (1 ≤ List.length (List.drop 0 (elemAt (lfv b) (↑i : Int))) ∧ 0 < 1) && etaOk (Sh.int IntKind.i64) (List.getD (List.drop 0 (elemAt (lfv b) (↑i : Int))) 0 AVal.undef)) (brV (hold (AVal.intOf (List.getD (List.drop 0 (elemAt (lfv a) (↑i : Int))) 0 AVal.undef) != AVal.intOf (List.getD (List.drop 0 (elemAt (lfv b) (↑i : Int))) 0 AVal.undef))) false (gb (decide ((0 : Int) ≤ (↑i : Int) ∧ (↑i : Int) < (↑(List.length (lfv a)) : Int))) (gb (decide (1 ≤ List.length (List.drop 2 (elemAt (lfv a) (↑i : Int))) ∧ 0 < 1) && etaOk Sh.bool (List.getD (List.drop 2 (elemAt (lfv a) (↑i : Int))) 0 AVal.undef)) (gb (decide ((0 : Int) ≤ (↑i : Int) ∧ (↑i : Int) < (↑(List.length (lfv b)) : Int))) (gb (decide (1 ≤ List.length (List.drop 2 (elemAt (lfv b) (↑i : Int))) ∧ 0 < 1) && etaOk Sh.bool (List.getD (List.drop 2 (elemAt (lfv b) (↑i : Int))) 0 AVal.undef)) (brV (!hold (AVal.boolOf (List.getD (List.drop 2 (elemAt (lfv a) (↑i : Int))) 0 AVal.undef) == AVal.boolOf (List.getD (List.drop 2 (elemAt (lfv b) (↑i : Int))) 0 AVal.undef))) false (gb (decide ((0 : Int) ≤ (↑i : Int) ∧ (↑i : Int) < (↑(List.length (lfv a)) : Int))) (gb (decide (1 ≤ List.length (List.drop 1 (elemAt (lfv a) (↑i : Int))) ∧ 0 < 1) && sliceOk 1 (List.getD (List.drop 1 (elemAt (lfv a) (↑i : Int))) 0 AVal.undef)) (gb (decide ((0 : Int) ≤ (↑i : Int) ∧ (↑i : Int) < (↑(List.length (lfv b)) : Int))) (gb (decide (1 ≤ List.length (List.drop 1 (elemAt (lfv b) (↑i : Int))) ∧ 0 < 1) && sliceOk 1 (List.getD (List.drop 1 (elemAt (lfv b) (↑i : Int))) 0 AVal.undef)) (gb (List.all (AVal.elems (List.getD (List.drop 1 (elemAt (lfv a) (↑i : Int))) 0 AVal.undef)) strIs && (List.all (AVal.elems (List.getD (List.drop 1 (elemAt (lfv b) (↑i : Int))) 0 AVal.undef)) strIs && lenOk (List.length (AVal.elems (List.getD (List.drop 1 (elemAt (lfv a) (↑i : Int))) 0 AVal.undef))))) (brV (!hold (List.map AVal.strOf (AVal.elems (List.getD (List.drop 1 (elemAt (lfv a) (↑i : Int))) 0 AVal.undef)) == List.map AVal.strOf (AVal.elems (List.getD (List.drop 1 (elemAt (lfv b) (↑i : Int))) 0 AVal.undef)))) true (K Exit.ret (St.mk 55 [(0, AVal.slice (lfv a) 3 Tag.ro), (1, AVal.slice (lfv b) 3 Tag.ro), (5, AVal.int IntKind.i64 (↑i : Int)), (14, AVal.bool (hold (decide ((↑i : Int) < (↑(List.length (lfv a)) : Int))))), (54, AVal.bool !hold (List.map AVal.strOf (AVal.elems (List.getD (List.drop 1 (elemAt (lfv a) (↑i : Int))) 0 AVal.undef)) == List.map AVal.strOf (AVal.elems (List.getD (List.drop 1 (elemAt (lfv b) (↑i : Int))) 0 AVal.undef)))), (4, AVal.bool false)] [] [] Sto.empty)) (L (St.mk 55 [(0, AVal.slice (lfv a) 3 Tag.ro), (1, AVal.slice (lfv b) 3 Tag.ro), (5, AVal.int IntKind.i64 (IntKind.wrap IntKind.i64 ((↑i : Int) + (1 : Int))))] [] [] Sto.empty)))))))) (K Exit.ret (St.mk 55 [(0, AVal.slice (lfv a) 3 Tag.ro), (1, AVal.slice (lfv b) 3 Tag.ro), (5, AVal.int IntKind.i64 (↑i : Int)), (14, AVal.bool (hold (decide ((↑i : Int) < (↑(List.length (lfv a)) : Int))))), (54, AVal.bool true), (4, AVal.bool false)] [] [] Sto.empty))))))) (K Exit.ret (St.mk 55 [(0, AVal.slice (lfv a) 3 Tag.ro), (1, AVal.slice (lfv b) 3 Tag.ro), (5, AVal.int IntKind.i64 (↑i : Int)), (14, AVal.bool (hold (decide ((↑i : Int) < (↑(List.length (lfv a)) : Int))))), (54, AVal.bool true), (4, AVal.bool false)] [] [] Sto.empty))))))) (K (Exit.exit 0) (St.mk 55 [(0, AVal.slice (lfv a) 3 Tag.ro), (1, AVal.slice (lfv b) 3 Tag.ro), (5, AVal.int IntKind.i64 (↑i : Int)), (14, AVal.bool (hold (decide ((↑i : Int) < (↑(List.length (lfv a)) : Int)))))] [] [] Sto.empty))) := by kernel_rfl
noncomputable def sameF_S  : St := St.mk 55 [] [] [] (Sto.empty)
theorem sameF_r  (Q : AVal → Sto → Prop) : vc Try.prog cSame code_22_1_1_1 (endK Try.prog Try.f22.results.toList Q) (St.mk 55 [] [] [] (Sto.empty)) =
  (Q (AVal.bool true) Sto.empty) := by kernel_rfl
theorem insertR_r (r : Root) (l : Lf) (s : Txt) (Q : AVal → Sto → Prop) : vc Try.prog cInsertR code_19_ (endK Try.prog Try.f19.results.toList Q) (St.start Try.f19.ntmps [rootV r, lfV l, .str s] (Sto.empty)) =
  (gb (rootH (AVal.agg [AVal.slice (strv (Prod.fst r)) 1 Tag.ro, AVal.slice (iv (Prod.snd r)) 1 Tag.ro])) (brV (!hold (rootB (List.map AVal.strOf (strv (Prod.fst r)), List.map AVal.intOf (iv (Prod.snd r))))) false (gb (lfH (AVal.agg [AVal.int IntKind.i64 (Prod.fst l), AVal.slice (strv (Prod.fst (Prod.snd l))) 1 Tag.ro, AVal.bool (Prod.snd (Prod.snd l))])) (brV (!hold (lfB (Prod.fst l, List.map AVal.strOf (strv (Prod.fst (Prod.snd l))), Prod.snd (Prod.snd l)))) false (∀ (y : Int), y = findN (List.map AVal.strOf (strv (Prod.fst r)), List.map AVal.intOf (iv (Prod.snd r))) s → gb (rootH (AVal.agg [AVal.slice (strv (Prod.fst r)) 1 Tag.ro, AVal.slice (iv (Prod.snd r)) 1 Tag.ro])) (brV (hold (y != Prod.fst l)) true (Q (AVal.tuple [AVal.agg [AVal.slice [] 0 Tag.nil, AVal.slice [] 0 Tag.nil], AVal.slice [] 0 Tag.nil, AVal.int IntKind.i64 (100 : Int)]) (Sto.set (Sto.push Sto.empty (AObj.cells [AVal.slice [] 0 Tag.nil, AVal.slice [] 0 Tag.nil])) 0 (AObj.cells [AVal.slice [] 0 Tag.nil, AVal.slice [] 0 Tag.nil]))) (brV (hold (decide ((600 : Int) < (↑(List.length s) : Int)))) true (Q (AVal.tuple [AVal.agg [AVal.slice [] 0 Tag.nil, AVal.slice [] 0 Tag.nil], AVal.slice [] 0 Tag.nil, AVal.int IntKind.i64 (82 : Int)]) (Sto.set (Sto.push Sto.empty (AObj.cells [AVal.slice [] 0 Tag.nil, AVal.slice [] 0 Tag.nil])) 0 (AObj.cells [AVal.slice [] 0 Tag.nil, AVal.slice [] 0 Tag.nil]))) (∀ (y : Bool), y = List.contains (List.map AVal.strOf (strv (Prod.fst (Prod.snd l)))) s → ∀ (y_1 : Int), (y_1 = if y = true then (↑(List.idxOf s (List.map AVal.strOf (strv (Prod.fst (Prod.snd l))))) : Int) else (-1 : Int)) → gb (List.all (strv (Prod.fst (Prod.snd l))) strIs && lenOk (List.length (strv (Prod.fst (Prod.snd l))))) (brV (hold (decide ((0 : Int) ≤ y_1))) true (Q (AVal.tuple [AVal.agg [AVal.slice [] 0 Tag.nil, AVal.slice [] 0 Tag.nil], AVal.slice [] 0 Tag.nil, AVal.int IntKind.i64 (31 : Int)]) (Sto.set (Sto.push Sto.empty (AObj.cells [AVal.slice [] 0 Tag.nil, AVal.slice [] 0 Tag.nil])) 0 (AObj.cells [AVal.slice [] 0 Tag.nil, AVal.slice [] 0 Tag.nil]))) (loopV (fun s => St.norm [] [2, 3, 4, 6, 9] [3, 4, 6] s) (vc Try.prog cInsertR code_19_1_1_1_1_1_0_0_0) (blockK 0 (thenK (fun s => cutV (vc Try.prog cInsertR code_19_1_1_1_1_1_1 (endK Try.prog (Array.toList (Go.Func.results Try.f19)) Q)) (St.norm [] [2, 3, 4, 6, 9] [3, 4, 6] s)) (endK Try.prog (Array.toList (Go.Func.results Try.f19)) Q))) (St.mk 143 [(2, AVal.str s), (3, AVal.ptr (Oid.loc 3) 0), (4, AVal.ptr (Oid.loc 4) 0), (6, AVal.ptr (Oid.out 0) 0), (9, AVal.int IntKind.i64 (0 : Int))] [] [(3, AObj.cells [AVal.slice (strv (Prod.fst r)) 1 Tag.ro, AVal.slice (iv (Prod.snd r)) 1 Tag.ro]), (4, AObj.cells [AVal.int IntKind.i64 (Prod.fst l), AVal.slice (strv (Prod.fst (Prod.snd l))) 1 Tag.ro, AVal.bool (Prod.snd (Prod.snd l))])] (Sto.push Sto.empty (AObj.cells [AVal.slice [] 0 Tag.nil, AVal.slice [] 0 Tag.nil]))))))))) (Q (AVal.tuple [AVal.agg [AVal.slice [] 0 Tag.nil, AVal.slice [] 0 Tag.nil], AVal.slice [] 0 Tag.nil, AVal.int IntKind.i64 (100 : Int)]) (Sto.set (Sto.push Sto.empty (AObj.cells [AVal.slice [] 0 Tag.nil, AVal.slice [] 0 Tag.nil])) 0 (AObj.cells [AVal.slice [] 0 Tag.nil, AVal.slice [] 0 Tag.nil]))))) (Q (AVal.tuple [AVal.agg [AVal.slice [] 0 Tag.nil, AVal.slice [] 0 Tag.nil], AVal.slice [] 0 Tag.nil, AVal.int IntKind.i64 (100 : Int)]) (Sto.set (Sto.push Sto.empty (AObj.cells [AVal.slice [] 0 Tag.nil, AVal.slice [] 0 Tag.nil])) 0 (AObj.cells [AVal.slice [] 0 Tag.nil, AVal.slice [] 0 Tag.nil]))))) := by kernel_rfl
theorem insertR_i (r : Root) (l : Lf) (s : Txt) (Q : AVal → Sto → Prop) (ho : OrcOk Try.prog cInsertR) (h : gb (rootH (AVal.agg [AVal.slice (strv (Prod.fst r)) 1 Tag.ro, AVal.slice (iv (Prod.snd r)) 1 Tag.ro])) (brV (!hold (rootB (List.map AVal.strOf (strv (Prod.fst r)), List.map AVal.intOf (iv (Prod.snd r))))) false (gb (lfH (AVal.agg [AVal.int IntKind.i64 (Prod.fst l), AVal.slice (strv (Prod.fst (Prod.snd l))) 1 Tag.ro, AVal.bool (Prod.snd (Prod.snd l))])) (brV (!hold (lfB (Prod.fst l, List.map AVal.strOf (strv (Prod.fst (Prod.snd l))), Prod.snd (Prod.snd l)))) false (∀ (y : Int), y = findN (List.map AVal.strOf (strv (Prod.fst r)), List.map AVal.intOf (iv (Prod.snd r))) s → gb (rootH (AVal.agg [AVal.slice (strv (Prod.fst r)) 1 Tag.ro, AVal.slice (iv (Prod.snd r)) 1 Tag.ro])) (brV (hold (y != Prod.fst l)) true (Q (AVal.tuple [AVal.agg [AVal.slice [] 0 Tag.nil, AVal.slice [] 0 Tag.nil], AVal.slice [] 0 Tag.nil, AVal.int IntKind.i64 (100 : Int)]) (Sto.set (Sto.push Sto.empty (AObj.cells [AVal.slice [] 0 Tag.nil, AVal.slice [] 0 Tag.nil])) 0 (AObj.cells [AVal.slice [] 0 Tag.nil, AVal.slice [] 0 Tag.nil]))) (brV (hold (decide ((600 : Int) < (↑(List.length s) : Int)))) true (Q (AVal.tuple [AVal.agg [AVal.slice [] 0 Tag.nil, AVal.slice [] 0 Tag.nil], AVal.slice [] 0 Tag.nil, AVal.int IntKind.i64 (82 : Int)]) (Sto.set (Sto.push Sto.empty (AObj.cells [AVal.slice [] 0 Tag.nil, AVal.slice [] 0 Tag.nil])) 0 (AObj.cells [AVal.slice [] 0 Tag.nil, AVal.slice [] 0 Tag.nil]))) (∀ (y : Bool), y = List.contains (List.map AVal.strOf (strv (Prod.fst (Prod.snd l)))) s → ∀ (y_1 : Int), (y_1 = if y = true then (↑(List.idxOf s (List.map AVal.strOf (strv (Prod.fst (Prod.snd l))))) : Int) else (-1 : Int)) → gb (List.all (strv (Prod.fst (Prod.snd l))) strIs && lenOk (List.length (strv (Prod.fst (Prod.snd l))))) (brV (hold (decide ((0 : Int) ≤ y_1))) true (Q (AVal.tuple [AVal.agg [AVal.slice [] 0 Tag.nil, AVal.slice [] 0 Tag.nil], AVal.slice [] 0 Tag.nil, AVal.int IntKind.i64 (31 : Int)]) (Sto.set (Sto.push Sto.empty (AObj.cells [AVal.slice [] 0 Tag.nil, AVal.slice [] 0 Tag.nil])) 0 (AObj.cells [AVal.slice [] 0 Tag.nil, AVal.slice [] 0 Tag.nil]))) (loopV (fun s => St.norm [] [2, 3, 4, 6, 9] [3, 4, 6] s) (vc Try.prog cInsertR code_19_1_1_1_1_1_0_0_0) (blockK 0 (thenK (fun s => cutV (vc Try.prog cInsertR code_19_1_1_1_1_1_1 (endK Try.prog (Array.toList (Go.Func.results Try.f19)) Q)) (St.norm [] [2, 3, 4, 6, 9] [3, 4, 6] s)) (endK Try.prog (Array.toList (Go.Func.results Try.f19)) Q))) (St.mk 143 [(2, AVal.str s), (3, AVal.ptr (Oid.loc 3) 0), (4, AVal.ptr (Oid.loc 4) 0), (6, AVal.ptr (Oid.out 0) 0), (9, AVal.int IntKind.i64 (0 : Int))] [] [(3, AObj.cells [AVal.slice (strv (Prod.fst r)) 1 Tag.ro, AVal.slice (iv (Prod.snd r)) 1 Tag.ro]), (4, AObj.cells [AVal.int IntKind.i64 (Prod.fst l), AVal.slice (strv (Prod.fst (Prod.snd l))) 1 Tag.ro, AVal.bool (Prod.snd (Prod.snd l))])] (Sto.push Sto.empty (AObj.cells [AVal.slice [] 0 Tag.nil, AVal.slice [] 0 Tag.nil]))))))))) (Q (AVal.tuple [AVal.agg [AVal.slice [] 0 Tag.nil, AVal.slice [] 0 Tag.nil], AVal.slice [] 0 Tag.nil, AVal.int IntKind.i64 (100 : Int)]) (Sto.set (Sto.push Sto.empty (AObj.cells [AVal.slice [] 0 Tag.nil, AVal.slice [] 0 Tag.nil])) 0 (AObj.cells [AVal.slice [] 0 Tag.nil, AVal.slice [] 0 Tag.nil]))))) (Q (AVal.tuple [AVal.agg [AVal.slice [] 0 Tag.nil, AVal.slice [] 0 Tag.nil], AVal.slice [] 0 Tag.nil, AVal.int IntKind.i64 (100 : Int)]) (Sto.set (Sto.push Sto.empty (AObj.cells [AVal.slice [] 0 Tag.nil, AVal.slice [] 0 Tag.nil])) 0 (AObj.cells [AVal.slice [] 0 Tag.nil, AVal.slice [] 0 Tag.nil]))))) : ACall Try.prog 19 [rootV r, lfV l, .str s] (Sto.empty) Q :=
  ACall.intro hmix Try.func19 (c := code_19_) (by kernel_rfl) cInsertR ho (Nat.le_of_ble_eq_true (by kernel_rfl)) (by rw [insertR_r]; exact h)
noncomputable def insertRL_S (r : Root) (l : Lf) (s : Txt) (c : List AVal) (i : Nat) : St := St.mk 143 [(2, .str s), (3, .ptr (.loc 3) 0), (4, .ptr (.loc 4) 0), (6, .ptr (.out 0) 0), (9, .int .i64 (i : Int))] [] [(3, .cells (rootC r)), (4, .cells (lfC l))] (Sto.push Sto.empty (.cells c))
theorem insertRL_r (r : Root) (l : Lf) (s : Txt) (c : List AVal) (i : Nat) (L : St → Prop) (K : Exit → St → Prop) : vc Try.prog cInsertR code_19_1_1_1_1_1_0_0_0 (thenK (fun s => L (St.norm [] [2, 3, 4, 6, 9] [3, 4, 6] s)) K) (St.mk 143 [(2, .str s), (3, .ptr (.loc 3) 0), (4, .ptr (.loc 4) 0), (6, .ptr (.out 0) 0), (9, .int .i64 (i : Int))] [] [(3, .cells (rootC r)), (4, .cells (lfC l))] (Sto.push Sto.empty (.cells c))) =
  (brV (hold (decide ((↑i : Int) < (↑(List.length (strv (Prod.fst (Prod.snd l)))) : Int)))) true (gb (decide ((0 : Int) ≤ (↑i : Int) ∧ (↑i : Int) < (↑(List.length (strv (Prod.fst (Prod.snd l)))) : Int))) (gb (decide (1 ≤ List.length (elemAt (strv (Prod.fst (Prod.snd l))) (↑i : Int)) ∧ 0 < 1) && etaOk Sh.str (List.getD (elemAt (strv (Prod.fst (Prod.snd l))) (↑i : Int)) 0 AVal.undef)) (gb (hold (decide (List.length (AVal.strOf (List.getD (elemAt (strv (Prod.fst (Prod.snd l))) (↑i : Int)) 0 AVal.undef)) ≤ 1000000))) (brV (hold (decide (ordT (AVal.strOf (List.getD (elemAt (strv (Prod.fst (Prod.snd l))) (↑i : Int)) 0 AVal.undef)) s < (0 : Int)))) true (L (St.mk 143 [(2, AVal.str s), (3, AVal.ptr (Oid.loc 3) 0), (4, AVal.ptr (Oid.loc 4) 0), (6, AVal.ptr (Oid.out 0) 0), (9, AVal.int IntKind.i64 (IntKind.wrap IntKind.i64 ((↑i : Int) + (1 : Int))))] [] [(3, AObj.cells [AVal.slice (strv (Prod.fst r)) 1 Tag.ro, AVal.slice (iv (Prod.snd r)) 1 Tag.ro]), (4, AObj.cells [AVal.int IntKind.i64 (Prod.fst l), AVal.slice (strv (Prod.fst (Prod.snd l))) 1 Tag.ro, AVal.bool (Prod.snd (Prod.snd l))])] (Sto.push Sto.empty (AObj.cells c)))) (K (Exit.exit 0) (St.mk 143 [(2, AVal.str s), (3, AVal.ptr (Oid.loc 3) 0), (4, AVal.ptr (Oid.loc 4) 0), (6, AVal.ptr (Oid.out 0) 0), (9, AVal.int IntKind.i64 (↑i : Int)), (57, AVal.bool (hold (decide (ordT (AVal.strOf (List.getD (elemAt (strv (Prod.fst (Prod.snd l))) (↑i : Int)) 0 AVal.undef)) s < (0 : Int)))))] [] [(3, AObj.cells [AVal.slice (strv (Prod.fst r)) 1 Tag.ro, AVal.slice (iv (Prod.snd r)) 1 Tag.ro]), (4, AObj.cells [AVal.int IntKind.i64 (Prod.fst l), AVal.slice (strv (Prod.fst (Prod.snd l))) 1 Tag.ro, AVal.bool (Prod.snd (Prod.snd l))])] (Sto.push Sto.empty (AObj.cells c)))))))) (K (Exit.exit 0) (St.mk 143 [(2, AVal.str s), (3, AVal.ptr (Oid.loc 3) 0), (4, AVal.ptr (Oid.loc 4) 0), (6, AVal.ptr (Oid.out 0) 0), (9, AVal.int IntKind.i64 (↑i : Int)), (57, AVal.bool false)] [] [(3, AObj.cells [AVal.slice (strv (Prod.fst r)) 1 Tag.ro, AVal.slice (iv (Prod.snd r)) 1 Tag.ro]), (4, AObj.cells [AVal.int IntKind.i64 (Prod.fst l), AVal.slice (strv (Prod.fst (Prod.snd l))) 1 Tag.ro, AVal.bool (Prod.snd (Prod.snd l))])] (Sto.push Sto.empty (AObj.cells c))))) := by kernel_rfl
noncomputable def insertRA_S (r : Root) (l : Lf) (s : Txt) (c : List AVal) (i : Nat) : St := St.mk 143 [(2, .str s), (3, .ptr (.loc 3) 0), (4, .ptr (.loc 4) 0), (6, .ptr (.out 0) 0), (9, .int .i64 (i : Int))] [] [(3, .cells (rootC r)), (4, .cells (lfC l))] (Sto.push Sto.empty (.cells c))
theorem insertRA_r (r : Root) (l : Lf) (s : Txt) (c : List AVal) (i : Nat) (Q : AVal → Sto → Prop) : vc Try.prog cInsertR code_19_1_1_1_1_1_1 (endK Try.prog Try.f19.results.toList Q) (St.mk 143 [(2, .str s), (3, .ptr (.loc 3) 0), (4, .ptr (.loc 4) 0), (6, .ptr (.out 0) 0), (9, .int .i64 (i : Int))] [] [(3, .cells (rootC r)), (4, .cells (lfC l))] (Sto.push Sto.empty (.cells c))) =
  (gb (List.all (strv (Prod.fst (Prod.snd l))) strIs && hold (decide ((0 : Int) ≤ (↑i : Int) ∧ (↑i : Int) ≤ (↑(List.length (strv (Prod.fst (Prod.snd l)))) : Int) ∧ List.length (strv (Prod.fst (Prod.snd l))) ≤ 1000000))) (brV (hold (decide ((↑(List.length (strv (insL (List.map AVal.strOf (strv (Prod.fst (Prod.snd l)))) (Int.toNat (↑i : Int)) s))) : Int) ≤ (4 : Int)))) true (gb (decide (2 ≤ List.length c ∧ (Oid.isOut (Oid.out 0) = true → noLocL (AVal.cells (St.eval (St.mk 143 [(2, AVal.str s), (3, AVal.ptr (Oid.loc 3) 0), (4, AVal.ptr (Oid.loc 4) 0), (6, AVal.ptr (Oid.out 0) 0), (9, AVal.int IntKind.i64 (↑i : Int)), (10, AVal.slice (strv (insL (List.map AVal.strOf (strv (Prod.fst (Prod.snd l)))) (Int.toNat (↑i : Int)) s)) 1 Tag.ro), (67, AVal.bool (hold (decide ((↑(List.length (strv (insL (List.map AVal.strOf (strv (Prod.fst (Prod.snd l)))) (Int.toNat (↑i : Int)) s))) : Int) ≤ (4 : Int)))))] [(73, AVal.slice [AVal.agg [AVal.int IntKind.i64 (Prod.fst l), AVal.slice (strv (insL (List.map AVal.strOf (strv (Prod.fst (Prod.snd l)))) (Int.toNat (↑i : Int)) s)) 1 Tag.ro, AVal.bool false]] 3 Tag.full), (72, AVal.agg [AVal.int IntKind.i64 (Prod.fst l), AVal.slice (strv (insL (List.map AVal.strOf (strv (Prod.fst (Prod.snd l)))) (Int.toNat (↑i : Int)) s)) 1 Tag.ro, AVal.bool false]), (71, AVal.slice (strv (insL (List.map AVal.strOf (strv (Prod.fst (Prod.snd l)))) (Int.toNat (↑i : Int)) s)) 1 Tag.ro), (70, AVal.int IntKind.i64 (Prod.fst l)), (69, AVal.ptr (Oid.loc 4) 0), (68, AVal.agg [AVal.slice (strv (Prod.fst r)) 1 Tag.ro, AVal.slice (iv (Prod.snd r)) 1 Tag.ro])] [(3, AObj.cells [AVal.slice (strv (Prod.fst r)) 1 Tag.ro, AVal.slice (iv (Prod.snd r)) 1 Tag.ro]), (4, AObj.cells [AVal.int IntKind.i64 (Prod.fst l), AVal.slice (strv (Prod.fst (Prod.snd l))) 1 Tag.ro, AVal.bool (Prod.snd (Prod.snd l))])] (Sto.push Sto.empty (AObj.cells c))) (Go.Operand.tmp 68))) = true))) (Q (AVal.tuple [AVal.agg [AVal.slice (strv (Prod.fst r)) 1 Tag.ro, AVal.slice (iv (Prod.snd r)) 1 Tag.ro], AVal.slice [AVal.agg [AVal.int IntKind.i64 (Prod.fst l), AVal.slice (strv (insL (List.map AVal.strOf (strv (Prod.fst (Prod.snd l)))) (Int.toNat (↑i : Int)) s)) 1 Tag.ro, AVal.bool false]] 3 Tag.full, AVal.int IntKind.i64 (0 : Int)]) (Sto.set (Sto.push Sto.empty (AObj.cells c)) 0 (AObj.cells (setRange c 0 [AVal.slice (strv (Prod.fst r)) 1 Tag.ro, AVal.slice (iv (Prod.snd r)) 1 Tag.ro]))))) (loopV (fun s => St.norm [] [2, 3, 4, 6, 10, 11, 12] [3, 4, 6] s) (vc Try.prog cInsertR code_19_1_1_1_1_1_1_1_1_1_0_1_0_0) (blockK 2 (thenK (fun s => cutV (vc Try.prog cInsertR code_19_1_1_1_1_1_1_1_1_1_1 (endK Try.prog (Array.toList (Go.Func.results Try.f19)) Q)) (St.norm [] [2, 3, 4, 6, 10, 11] [3, 4, 6] s)) (endK Try.prog (Array.toList (Go.Func.results Try.f19)) Q))) (St.mk 143 [(2, AVal.str s), (3, AVal.ptr (Oid.loc 3) 0), (4, AVal.ptr (Oid.loc 4) 0), (6, AVal.ptr (Oid.out 0) 0), (10, AVal.slice (strv (insL (List.map AVal.strOf (strv (Prod.fst (Prod.snd l)))) (Int.toNat (↑i : Int)) s)) 1 Tag.ro), (11, AVal.int IntKind.i64 (1 : Int)), (12, AVal.int IntKind.i64 (0 : Int))] [] [(3, AObj.cells [AVal.slice (strv (Prod.fst r)) 1 Tag.ro, AVal.slice (iv (Prod.snd r)) 1 Tag.ro]), (4, AObj.cells [AVal.int IntKind.i64 (Prod.fst l), AVal.slice (strv (Prod.fst (Prod.snd l))) 1 Tag.ro, AVal.bool (Prod.snd (Prod.snd l))])] (Sto.push Sto.empty (AObj.cells c)))))) := by kernel_rfl
noncomputable def insertRM_S (r : Root) (l : Lf) (s : Txt) (c : List AVal) (es : List Txt) (no i : Nat) : St := St.mk 143 [(2, .str s), (3, .ptr (.loc 3) 0), (4, .ptr (.loc 4) 0), (6, .ptr (.out 0) 0), (10, .slice (strv es) 1 .ro), (11, .int .i64 (no : Int)), (12, .int .i64 (i : Int))] [] [(3, .cells (rootC r)), (4, .cells (lfC l))] (Sto.push Sto.empty (.cells c))
theorem insertRM_r (r : Root) (l : Lf) (s : Txt) (c : List AVal) (es : List Txt) (no i : Nat) (L : St → Prop) (K : Exit → St → Prop) : vc Try.prog cInsertR code_19_1_1_1_1_1_1_1_1_1_0_1_0_0 (thenK (fun s => L (St.norm [] [2, 3, 4, 6, 10, 11, 12] [3, 4, 6] s)) K) (St.mk 143 [(2, .str s), (3, .ptr (.loc 3) 0), (4, .ptr (.loc 4) 0), (6, .ptr (.out 0) 0), (10, .slice (strv es) 1 .ro), (11, .int .i64 (no : Int)), (12, .int .i64 (i : Int))] [] [(3, .cells (rootC r)), (4, .cells (lfC l))] (Sto.push Sto.empty (.cells c))) =
  (brV (hold (decide ((↑i : Int) < (↑(List.length (iv (Prod.snd r))) : Int)))) true (loopV (fun s => St.norm [] [2, 3, 4, 6, 10, 11, 12, 13] [3, 4, 6] s) (vc Try.prog cInsertR code_19_1_1_1_1_1_1_1_1_1_0_1_0_0_1_0_0_1_0_0) (blockK 4 (blockK 3 (thenK (fun s => cutV (vc Try.prog cInsertR code_19_1_1_1_1_1_1_1_1_1_0_1_0_0_1_1 (thenK (fun s => L (St.norm [] [2, 3, 4, 6, 10, 11, 12] [3, 4, 6] s)) K)) (St.norm [] [2, 3, 4, 6, 10, 11, 12] [3, 4, 6] s)) (thenK (fun s => L (St.norm [] [2, 3, 4, 6, 10, 11, 12] [3, 4, 6] s)) K)))) (St.mk 143 [(2, AVal.str s), (3, AVal.ptr (Oid.loc 3) 0), (4, AVal.ptr (Oid.loc 4) 0), (6, AVal.ptr (Oid.out 0) 0), (10, AVal.slice (strv es) 1 Tag.ro), (11, AVal.int IntKind.i64 (↑no : Int)), (12, AVal.int IntKind.i64 (↑i : Int)), (13, AVal.int IntKind.i64 (0 : Int))] [] [(3, AObj.cells [AVal.slice (strv (Prod.fst r)) 1 Tag.ro, AVal.slice (iv (Prod.snd r)) 1 Tag.ro]), (4, AObj.cells [AVal.int IntKind.i64 (Prod.fst l), AVal.slice (strv (Prod.fst (Prod.snd l))) 1 Tag.ro, AVal.bool (Prod.snd (Prod.snd l))])] (Sto.push Sto.empty (AObj.cells c)))) (K (Exit.exit 2) (St.mk 143 [(2, AVal.str s), (3, AVal.ptr (Oid.loc 3) 0), (4, AVal.ptr (Oid.loc 4) 0), (6, AVal.ptr (Oid.out 0) 0), (10, AVal.slice (strv es) 1 Tag.ro), (11, AVal.int IntKind.i64 (↑no : Int)), (12, AVal.int IntKind.i64 (↑i : Int)), (78, AVal.bool (hold (decide ((↑i : Int) < (↑(List.length (iv (Prod.snd r))) : Int)))))] [] [(3, AObj.cells [AVal.slice (strv (Prod.fst r)) 1 Tag.ro, AVal.slice (iv (Prod.snd r)) 1 Tag.ro]), (4, AObj.cells [AVal.int IntKind.i64 (Prod.fst l), AVal.slice (strv (Prod.fst (Prod.snd l))) 1 Tag.ro, AVal.bool (Prod.snd (Prod.snd l))])] (Sto.push Sto.empty (AObj.cells c))))) := by kernel_rfl
noncomputable def insertRN_S (r : Root) (l : Lf) (s : Txt) (c : List AVal) (es : List Txt) (no i k : Nat) : St := St.mk 143 [(2, .str s), (3, .ptr (.loc 3) 0), (4, .ptr (.loc 4) 0), (6, .ptr (.out 0) 0), (10, .slice (strv es) 1 .ro), (11, .int .i64 (no : Int)), (12, .int .i64 (i : Int)), (13, .int .i64 (k : Int))] [] [(3, .cells (rootC r)), (4, .cells (lfC l))] (Sto.push Sto.empty (.cells c))
theorem insertRN_r (r : Root) (l : Lf) (s : Txt) (c : List AVal) (es : List Txt) (no i k : Nat) (L : St → Prop) (K : Exit → St → Prop) : vc Try.prog cInsertR code_19_1_1_1_1_1_1_1_1_1_0_1_0_0_1_0_0_1_0_0 (thenK (fun s => L (St.norm [] [2, 3, 4, 6, 10, 11, 12, 13] [3, 4, 6] s)) K) (St.mk 143 [(2, .str s), (3, .ptr (.loc 3) 0), (4, .ptr (.loc 4) 0), (6, .ptr (.out 0) 0), (10, .slice (strv es) 1 .ro), (11, .int .i64 (no : Int)), (12, .int .i64 (i : Int)), (13, .int .i64 (k : Int))] [] [(3, .cells (rootC r)), (4, .cells (lfC l))] (Sto.push Sto.empty (.cells c))) =
  (brV (hold (decide ((↑k : Int) < (↑(List.length (iv (Prod.snd r))) : Int)))) true (gb (decide ((0 : Int) ≤ (↑k : Int) ∧ (↑k : Int) < (↑(List.length (iv (Prod.snd r))) : Int))) (gb (decide (1 ≤ List.length (elemAt (iv (Prod.snd r)) (↑k : Int)) ∧ 0 < 1) && etaOk (Sh.int IntKind.i64) (List.getD (elemAt (iv (Prod.snd r)) (↑k : Int)) 0 AVal.undef)) (brV (hold (AVal.intOf (List.getD (elemAt (iv (Prod.snd r)) (↑k : Int)) 0 AVal.undef) == (↑no : Int))) true (L (St.mk 143 [(2, AVal.str s), (3, AVal.ptr (Oid.loc 3) 0), (4, AVal.ptr (Oid.loc 4) 0), (6, AVal.ptr (Oid.out 0) 0), (10, AVal.slice (strv es) 1 Tag.ro), (11, AVal.int IntKind.i64 (IntKind.wrap IntKind.i64 ((↑no : Int) + (1 : Int)))), (12, AVal.int IntKind.i64 (↑i : Int)), (13, AVal.int IntKind.i64 (IntKind.wrap IntKind.i64 ((↑k : Int) + (1 : Int))))] [] [(3, AObj.cells [AVal.slice (strv (Prod.fst r)) 1 Tag.ro, AVal.slice (iv (Prod.snd r)) 1 Tag.ro]), (4, AObj.cells [AVal.int IntKind.i64 (Prod.fst l), AVal.slice (strv (Prod.fst (Prod.snd l))) 1 Tag.ro, AVal.bool (Prod.snd (Prod.snd l))])] (Sto.push Sto.empty (AObj.cells c)))) (L (St.mk 143 [(2, AVal.str s), (3, AVal.ptr (Oid.loc 3) 0), (4, AVal.ptr (Oid.loc 4) 0), (6, AVal.ptr (Oid.out 0) 0), (10, AVal.slice (strv es) 1 Tag.ro), (11, AVal.int IntKind.i64 (↑no : Int)), (12, AVal.int IntKind.i64 (↑i : Int)), (13, AVal.int IntKind.i64 (IntKind.wrap IntKind.i64 ((↑k : Int) + (1 : Int))))] [] [(3, AObj.cells [AVal.slice (strv (Prod.fst r)) 1 Tag.ro, AVal.slice (iv (Prod.snd r)) 1 Tag.ro]), (4, AObj.cells [AVal.int IntKind.i64 (Prod.fst l), AVal.slice (strv (Prod.fst (Prod.snd l))) 1 Tag.ro, AVal.bool (Prod.snd (Prod.snd l))])] (Sto.push Sto.empty (AObj.cells c))))))) (K (Exit.exit 4) (St.mk 143 [(2, AVal.str s), (3, AVal.ptr (Oid.loc 3) 0), (4, AVal.ptr (Oid.loc 4) 0), (6, AVal.ptr (Oid.out 0) 0), (10, AVal.slice (strv es) 1 Tag.ro), (11, AVal.int IntKind.i64 (↑no : Int)), (12, AVal.int IntKind.i64 (↑i : Int)), (13, AVal.int IntKind.i64 (↑k : Int)), (85, AVal.bool (hold (decide ((↑k : Int) < (↑(List.length (iv (Prod.snd r))) : Int)))))] [] [(3, AObj.cells [AVal.slice (strv (Prod.fst r)) 1 Tag.ro, AVal.slice (iv (Prod.snd r)) 1 Tag.ro]), (4, AObj.cells [AVal.int IntKind.i64 (Prod.fst l), AVal.slice (strv (Prod.fst (Prod.snd l))) 1 Tag.ro, AVal.bool (Prod.snd (Prod.snd l))])] (Sto.push Sto.empty (AObj.cells c))))) := by kernel_rfl
noncomputable def insertRO_S (r : Root) (l : Lf) (s : Txt) (c : List AVal) (es : List Txt) (no i : Nat) : St := St.mk 143 [(2, .str s), (3, .ptr (.loc 3) 0), (4, .ptr (.loc 4) 0), (6, .ptr (.out 0) 0), (10, .slice (strv es) 1 .ro), (11, .int .i64 (no : Int)), (12, .int .i64 (i : Int))] [] [(3, .cells (rootC r)), (4, .cells (lfC l))] (Sto.push Sto.empty (.cells c))
theorem insertRO_r (r : Root) (l : Lf) (s : Txt) (c : List AVal) (es : List Txt) (no i : Nat) (K : Exit → St → Prop) : vc Try.prog cInsertR code_19_1_1_1_1_1_1_1_1_1_0_1_0_0_1_1 K (St.mk 143 [(2, .str s), (3, .ptr (.loc 3) 0), (4, .ptr (.loc 4) 0), (6, .ptr (.out 0) 0), (10, .slice (strv es) 1 .ro), (11, .int .i64 (no : Int)), (12, .int .i64 (i : Int))] [] [(3, .cells (rootC r)), (4, .cells (lfC l))] (Sto.push Sto.empty (.cells c))) =
  (K Exit.normal (St.mk 143 [(2, AVal.str s), (3, AVal.ptr (Oid.loc 3) 0), (4, AVal.ptr (Oid.loc 4) 0), (6, AVal.ptr (Oid.out 0) 0), (10, AVal.slice (strv es) 1 Tag.ro), (11, AVal.int IntKind.i64 (↑no : Int)), (12, AVal.int IntKind.i64 (IntKind.wrap IntKind.i64 ((↑i : Int) + (1 : Int))))] [] [(3, AObj.cells [AVal.slice (strv (Prod.fst r)) 1 Tag.ro, AVal.slice (iv (Prod.snd r)) 1 Tag.ro]), (4, AObj.cells [AVal.int IntKind.i64 (Prod.fst l), AVal.slice (strv (Prod.fst (Prod.snd l))) 1 Tag.ro, AVal.bool (Prod.snd (Prod.snd l))])] (Sto.push Sto.empty (AObj.cells c)))) := by kernel_rfl
noncomputable def insertRF_S (r : Root) (l : Lf) (s : Txt) (c : List AVal) (es : List Txt) (no : Nat) : St := St.mk 143 [(2, .str s), (3, .ptr (.loc 3) 0), (4, .ptr (.loc 4) 0), (6, .ptr (.out 0) 0), (10, .slice (strv es) 1 .ro), (11, .int .i64 (no : Int))] [] [(3, .cells (rootC r)), (4, .cells (lfC l))] (Sto.push Sto.empty (.cells c))
theorem insertRF_r (r : Root) (l : Lf) (s : Txt) (c : List AVal) (es : List Txt) (no : Nat) (Q : AVal → Sto → Prop) : vc Try.prog cInsertR code_19_1_1_1_1_1_1_1_1_1_1 (endK Try.prog Try.f19.results.toList Q) (St.mk 143 [(2, .str s), (3, .ptr (.loc 3) 0), (4, .ptr (.loc 4) 0), (6, .ptr (.out 0) 0), (10, .slice (strv es) 1 .ro), (11, .int .i64 (no : Int))] [] [(3, .cells (rootC r)), (4, .cells (lfC l))] (Sto.push Sto.empty (.cells c))) =
  (∀ (y : Nat), y = atN (List.map AVal.strOf (strv (Prod.fst r))) s → gb (rootH (AVal.agg [AVal.slice (strv (Prod.fst r)) 1 Tag.ro, AVal.slice (iv (Prod.snd r)) 1 Tag.ro])) (gb (decide ((0 : Int) ≤ (3 : Int) ∧ (3 : Int) < (↑(List.length (strv es)) : Int))) (gb (decide (1 ≤ List.length (elemAt (strv es) (3 : Int)) ∧ 0 < 1) && etaOk Sh.str (List.getD (elemAt (strv es) (3 : Int)) 0 AVal.undef)) (gb (List.all (strv (Prod.fst r)) strIs && hold (decide ((0 : Int) ≤ (↑y : Int) ∧ (↑y : Int) ≤ (↑(List.length (strv (Prod.fst r))) : Int) ∧ List.length (strv (Prod.fst r)) ≤ 1000000))) (gb (decide ((0 : Int) ≤ (0 : Int) ∧ (0 : Int) ≤ IntKind.wrap IntKind.i64 ((↑y : Int) + (1 : Int)) ∧ IntKind.wrap IntKind.i64 ((↑y : Int) + (1 : Int)) ≤ (↑(List.length (iv (Prod.snd r))) : Int))) (gb (decide (decide (true = true ∧ List.length (List.take (Int.toNat (IntKind.wrap IntKind.i64 ((↑y : Int) + (1 : Int))) - 0) (List.drop 0 (iv (Prod.snd r)))) * 8 ≤ 140737488355328 ∧ List.length (List.take (Int.toNat (IntKind.wrap IntKind.i64 ((↑y : Int) + (1 : Int))) - 0) (List.drop 0 (iv (Prod.snd r)))) ≤ 9223372036854775807) = true ∧ true = true)) (gb (decide (decide (true = true ∧ some (List.length (List.take (Int.toNat (IntKind.wrap IntKind.i64 ((↑y : Int) + (1 : Int))) - 0) (List.drop 0 (iv (Prod.snd r))))) = some (List.length (List.take (Int.toNat (IntKind.wrap IntKind.i64 ((↑y : Int) + (1 : Int))) - 0) (List.drop 0 (iv (Prod.snd r))))) ∧ (List.length (List.take (Int.toNat (IntKind.wrap IntKind.i64 ((↑y : Int) + (1 : Int))) - 0) (List.drop 0 (iv (Prod.snd r)))) + 1) * 8 ≤ 140737488355328 ∧ List.length (List.take (Int.toNat (IntKind.wrap IntKind.i64 ((↑y : Int) + (1 : Int))) - 0) (List.drop 0 (iv (Prod.snd r)))) + 1 ≤ 9223372036854775807) = true ∧ true = true)) (gb (decide ((0 : Int) ≤ IntKind.wrap IntKind.i64 ((↑y : Int) + (1 : Int)) ∧ IntKind.wrap IntKind.i64 ((↑y : Int) + (1 : Int)) ≤ (↑(List.length (iv (Prod.snd r))) : Int) ∧ (↑(List.length (iv (Prod.snd r))) : Int) ≤ (↑(List.length (iv (Prod.snd r))) : Int))) (gb (decide (decide (true = true ∧ some (List.length (List.take (Int.toNat (IntKind.wrap IntKind.i64 ((↑y : Int) + (1 : Int))) - 0) (List.drop 0 (iv (Prod.snd r)))) + 1) = some (List.length (List.take (Int.toNat (IntKind.wrap IntKind.i64 ((↑y : Int) + (1 : Int))) - 0) (List.drop 0 (iv (Prod.snd r))) ++ [AVal.int IntKind.i64 (↑no : Int)])) ∧ (List.length (List.take (Int.toNat (IntKind.wrap IntKind.i64 ((↑y : Int) + (1 : Int))) - 0) (List.drop 0 (iv (Prod.snd r))) ++ [AVal.int IntKind.i64 (↑no : Int)]) + List.length (List.take (Int.toNat (↑(List.length (iv (Prod.snd r))) : Int) - Int.toNat (IntKind.wrap IntKind.i64 ((↑y : Int) + (1 : Int)))) (List.drop (Int.toNat (IntKind.wrap IntKind.i64 ((↑y : Int) + (1 : Int)))) (iv (Prod.snd r))))) * 8 ≤ 140737488355328 ∧ List.length (List.take (Int.toNat (IntKind.wrap IntKind.i64 ((↑y : Int) + (1 : Int))) - 0) (List.drop 0 (iv (Prod.snd r))) ++ [AVal.int IntKind.i64 (↑no : Int)]) + List.length (List.take (Int.toNat (↑(List.length (iv (Prod.snd r))) : Int) - Int.toNat (IntKind.wrap IntKind.i64 ((↑y : Int) + (1 : Int)))) (List.drop (Int.toNat (IntKind.wrap IntKind.i64 ((↑y : Int) + (1 : Int)))) (iv (Prod.snd r)))) ≤ 9223372036854775807) = true ∧ true = true)) (gb (decide ((0 : Int) ≤ (0 : Int) ∧ (0 : Int) ≤ (3 : Int) ∧ (3 : Int) ≤ (↑(List.length (strv es)) : Int))) (gb (decide ((0 : Int) ≤ (3 : Int) ∧ (3 : Int) ≤ (↑(List.length (strv es)) : Int) ∧ (↑(List.length (strv es)) : Int) ≤ (↑(List.length (strv es)) : Int))) (gb (decide (2 ≤ List.length c ∧ (Oid.isOut (Oid.out 0) = true → noLocL (AVal.cells (St.eval (St.mk 143 [(2, AVal.str s), (3, AVal.ptr (Oid.loc 3) 0), (4, AVal.ptr (Oid.loc 4) 0), (6, AVal.ptr (Oid.out 0) 0), (10, AVal.slice (strv es) 1 Tag.ro), (11, AVal.int IntKind.i64 (↑no : Int)), (14, AVal.int IntKind.i64 (↑y : Int)), (15, AVal.ptr (Oid.out 1) 0)] [(142, AVal.slice [AVal.agg [AVal.int IntKind.i64 (Prod.fst l), AVal.slice (List.take 3 (List.drop 0 (strv es))) 1 Tag.ro, AVal.bool false], AVal.agg [AVal.int IntKind.i64 (↑no : Int), AVal.slice (List.take (Int.toNat (↑(List.length (strv es)) : Int) - 3) (List.drop 3 (strv es))) 1 Tag.ro, AVal.bool false]] 3 Tag.full), (141, AVal.agg [AVal.int IntKind.i64 (↑no : Int), AVal.slice (List.take (Int.toNat (↑(List.length (strv es)) : Int) - 3) (List.drop 3 (strv es))) 1 Tag.ro, AVal.bool false]), (140, AVal.slice (List.take (Int.toNat (↑(List.length (strv es)) : Int) - 3) (List.drop 3 (strv es))) 1 Tag.ro), (139, AVal.slice (strv es) 1 Tag.ro), (138, AVal.int IntKind.i64 (↑no : Int)), (137, AVal.agg [AVal.int IntKind.i64 (Prod.fst l), AVal.slice (List.take 3 (List.drop 0 (strv es))) 1 Tag.ro, AVal.bool false]), (136, AVal.slice (List.take 3 (List.drop 0 (strv es))) 1 Tag.ro), (135, AVal.slice (strv es) 1 Tag.ro), (134, AVal.int IntKind.i64 (Prod.fst l)), (133, AVal.ptr (Oid.loc 4) 0), (132, AVal.agg [AVal.slice (strv (insL (List.map AVal.strOf (strv (Prod.fst r))) (Int.toNat (↑y : Int)) (AVal.strOf (List.getD (elemAt (strv es) (3 : Int)) 0 AVal.undef)))) 1 Tag.ro, AVal.slice (List.take (Int.toNat (IntKind.wrap IntKind.i64 ((↑y : Int) + (1 : Int))) - 0) (List.drop 0 (iv (Prod.snd r))) ++ [AVal.int IntKind.i64 (↑no : Int)] ++ List.take (Int.toNat (↑(List.length (iv (Prod.snd r))) : Int) - Int.toNat (IntKind.wrap IntKind.i64 ((↑y : Int) + (1 : Int)))) (List.drop (Int.toNat (IntKind.wrap IntKind.i64 ((↑y : Int) + (1 : Int)))) (iv (Prod.snd r)))) 1 (Tag.own 0)])] [(3, AObj.cells [AVal.slice (strv (Prod.fst r)) 1 Tag.ro, AVal.slice (iv (Prod.snd r)) 1 Tag.ro]), (4, AObj.cells [AVal.int IntKind.i64 (Prod.fst l), AVal.slice (strv (Prod.fst (Prod.snd l))) 1 Tag.ro, AVal.bool (Prod.snd (Prod.snd l))])] (Sto.set (Sto.setOwn (Sto.set (Sto.setOwn (Sto.set (Sto.pushOwn (Sto.set (Sto.push (Sto.push Sto.empty (AObj.cells c)) (AObj.cells [AVal.slice [] 0 Tag.nil, AVal.slice [] 0 Tag.nil])) 1 (AObj.cells [AVal.slice (strv (insL (List.map AVal.strOf (strv (Prod.fst r))) (Int.toNat (↑y : Int)) (AVal.strOf (List.getD (elemAt (strv es) (3 : Int)) 0 AVal.undef)))) 1 Tag.ro, AVal.slice [] 0 Tag.nil])) (List.length (List.take (Int.toNat (IntKind.wrap IntKind.i64 ((↑y : Int) + (1 : Int))) - 0) (List.drop 0 (iv (Prod.snd r)))))) 1 (AObj.cells [AVal.slice (strv (insL (List.map AVal.strOf (strv (Prod.fst r))) (Int.toNat (↑y : Int)) (AVal.strOf (List.getD (elemAt (strv es) (3 : Int)) 0 AVal.undef)))) 1 Tag.ro, AVal.slice (List.take (Int.toNat (IntKind.wrap IntKind.i64 ((↑y : Int) + (1 : Int))) - 0) (List.drop 0 (iv (Prod.snd r)))) 1 (Tag.own 0)])) 0 (List.length (List.take (Int.toNat (IntKind.wrap IntKind.i64 ((↑y : Int) + (1 : Int))) - 0) (List.drop 0 (iv (Prod.snd r)))) + 1)) 1 (AObj.cells [AVal.slice (strv (insL (List.map AVal.strOf (strv (Prod.fst r))) (Int.toNat (↑y : Int)) (AVal.strOf (List.getD (elemAt (strv es) (3 : Int)) 0 AVal.undef)))) 1 Tag.ro, AVal.slice (List.take (Int.toNat (IntKind.wrap IntKind.i64 ((↑y : Int) + (1 : Int))) - 0) (List.drop 0 (iv (Prod.snd r))) ++ [AVal.int IntKind.i64 (↑no : Int)]) 1 (Tag.own 0)])) 0 (List.length (List.take (Int.toNat (IntKind.wrap IntKind.i64 ((↑y : Int) + (1 : Int))) - 0) (List.drop 0 (iv (Prod.snd r))) ++ [AVal.int IntKind.i64 (↑no : Int)]) + List.length (List.take (Int.toNat (↑(List.length (iv (Prod.snd r))) : Int) - Int.toNat (IntKind.wrap IntKind.i64 ((↑y : Int) + (1 : Int)))) (List.drop (Int.toNat (IntKind.wrap IntKind.i64 ((↑y : Int) + (1 : Int)))) (iv (Prod.snd r)))))) 1 (AObj.cells [AVal.slice (strv (insL (List.map AVal.strOf (strv (Prod.fst r))) (Int.toNat (↑y : Int)) (AVal.strOf (List.getD (elemAt (strv es) (3 : Int)) 0 AVal.undef)))) 1 Tag.ro, AVal.slice (List.take (Int.toNat (IntKind.wrap IntKind.i64 ((↑y : Int) + (1 : Int))) - 0) (List.drop 0 (iv (Prod.snd r))) ++ [AVal.int IntKind.i64 (↑no : Int)] ++ List.take (Int.toNat (↑(List.length (iv (Prod.snd r))) : Int) - Int.toNat (IntKind.wrap IntKind.i64 ((↑y : Int) + (1 : Int)))) (List.drop (Int.toNat (IntKind.wrap IntKind.i64 ((↑y : Int) + (1 : Int)))) (iv (Prod.snd r)))) 1 (Tag.own 0)]))) (Go.Operand.tmp 132))) = true))) (Q (AVal.tuple [AVal.agg [AVal.slice (strv (insL (List.map AVal.strOf (strv (Prod.fst r))) (Int.toNat (↑y : Int)) (AVal.strOf (List.getD (elemAt (strv es) (3 : Int)) 0 AVal.undef)))) 1 Tag.ro, AVal.slice (List.take (Int.toNat (IntKind.wrap IntKind.i64 ((↑y : Int) + (1 : Int))) - 0) (List.drop 0 (iv (Prod.snd r))) ++ [AVal.int IntKind.i64 (↑no : Int)] ++ List.take (Int.toNat (↑(List.length (iv (Prod.snd r))) : Int) - Int.toNat (IntKind.wrap IntKind.i64 ((↑y : Int) + (1 : Int)))) (List.drop (Int.toNat (IntKind.wrap IntKind.i64 ((↑y : Int) + (1 : Int)))) (iv (Prod.snd r)))) 1 (Tag.own 0)], AVal.slice [AVal.agg [AVal.int IntKind.i64 (Prod.fst l), AVal.slice (List.take 3 (List.drop 0 (strv es))) 1 Tag.ro, AVal.bool false], AVal.agg [AVal.int IntKind.i64 (↑no : Int), AVal.slice (List.take (Int.toNat (↑(List.length (strv es)) : Int) - 3) (List.drop 3 (strv es))) 1 Tag.ro, AVal.bool false]] 3 Tag.full, AVal.int IntKind.i64 (0 : Int)]) (Sto.set (Sto.set (Sto.setOwn (Sto.set (Sto.setOwn (Sto.set (Sto.pushOwn (Sto.set (Sto.push (Sto.push Sto.empty (AObj.cells c)) (AObj.cells [AVal.slice [] 0 Tag.nil, AVal.slice [] 0 Tag.nil])) 1 (AObj.cells [AVal.slice (strv (insL (List.map AVal.strOf (strv (Prod.fst r))) (Int.toNat (↑y : Int)) (AVal.strOf (List.getD (elemAt (strv es) (3 : Int)) 0 AVal.undef)))) 1 Tag.ro, AVal.slice [] 0 Tag.nil])) (List.length (List.take (Int.toNat (IntKind.wrap IntKind.i64 ((↑y : Int) + (1 : Int))) - 0) (List.drop 0 (iv (Prod.snd r)))))) 1 (AObj.cells [AVal.slice (strv (insL (List.map AVal.strOf (strv (Prod.fst r))) (Int.toNat (↑y : Int)) (AVal.strOf (List.getD (elemAt (strv es) (3 : Int)) 0 AVal.undef)))) 1 Tag.ro, AVal.slice (List.take (Int.toNat (IntKind.wrap IntKind.i64 ((↑y : Int) + (1 : Int))) - 0) (List.drop 0 (iv (Prod.snd r)))) 1 (Tag.own 0)])) 0 (List.length (List.take (Int.toNat (IntKind.wrap IntKind.i64 ((↑y : Int) + (1 : Int))) - 0) (List.drop 0 (iv (Prod.snd r)))) + 1)) 1 (AObj.cells [AVal.slice (strv (insL (List.map AVal.strOf (strv (Prod.fst r))) (Int.toNat (↑y : Int)) (AVal.strOf (List.getD (elemAt (strv es) (3 : Int)) 0 AVal.undef)))) 1 Tag.ro, AVal.slice (List.take (Int.toNat (IntKind.wrap IntKind.i64 ((↑y : Int) + (1 : Int))) - 0) (List.drop 0 (iv (Prod.snd r))) ++ [AVal.int IntKind.i64 (↑no : Int)]) 1 (Tag.own 0)])) 0 (List.length (List.take (Int.toNat (IntKind.wrap IntKind.i64 ((↑y : Int) + (1 : Int))) - 0) (List.drop 0 (iv (Prod.snd r))) ++ [AVal.int IntKind.i64 (↑no : Int)]) + List.length (List.take (Int.toNat (↑(List.length (iv (Prod.snd r))) : Int) - Int.toNat (IntKind.wrap IntKind.i64 ((↑y : Int) + (1 : Int)))) (List.drop (Int.toNat (IntKind.wrap IntKind.i64 ((↑y : Int) + (1 : Int)))) (iv (Prod.snd r)))))) 1 (AObj.cells [AVal.slice (strv (insL (List.map AVal.strOf (strv (Prod.fst r))) (Int.toNat (↑y : Int)) (AVal.strOf (List.getD (elemAt (strv es) (3 : Int)) 0 AVal.undef)))) 1 Tag.ro, AVal.slice (List.take (Int.toNat (IntKind.wrap IntKind.i64 ((↑y : Int) + (1 : Int))) - 0) (List.drop 0 (iv (Prod.snd r))) ++ [AVal.int IntKind.i64 (↑no : Int)] ++ List.take (Int.toNat (↑(List.length (iv (Prod.snd r))) : Int) - Int.toNat (IntKind.wrap IntKind.i64 ((↑y : Int) + (1 : Int)))) (List.drop (Int.toNat (IntKind.wrap IntKind.i64 ((↑y : Int) + (1 : Int)))) (iv (Prod.snd r)))) 1 (Tag.own 0)])) 0 (AObj.cells (setRange c 0 [AVal.slice (strv (insL (List.map AVal.strOf (strv (Prod.fst r))) (Int.toNat (↑y : Int)) (AVal.strOf (List.getD (elemAt (strv es) (3 : Int)) 0 AVal.undef)))) 1 Tag.ro, AVal.slice (List.take (Int.toNat (IntKind.wrap IntKind.i64 ((↑y : Int) + (1 : Int))) - 0) (List.drop 0 (iv (Prod.snd r))) ++ [AVal.int IntKind.i64 (↑no : Int)] ++ List.take (Int.toNat (↑(List.length (iv (Prod.snd r))) : Int) - Int.toNat (IntKind.wrap IntKind.i64 ((↑y : Int) + (1 : Int)))) (List.drop (Int.toNat (IntKind.wrap IntKind.i64 ((↑y : Int) + (1 : Int)))) (iv (Prod.snd r)))) 1 (Tag.own 0)])))))))))))))))) := by kernel_rfl
theorem removeR_r (r : Root) (l : Lf) (s : Txt) (Q : AVal → Sto → Prop) : vc Try.prog cRemoveR code_20_ (endK Try.prog Try.f20.results.toList Q) (St.start Try.f20.ntmps [rootV r, lfV l, .str s] (Sto.empty)) =
  (gb (rootH (AVal.agg [AVal.slice (strv (Prod.fst r)) 1 Tag.ro, AVal.slice (iv (Prod.snd r)) 1 Tag.ro])) (brV (!hold (rootB (List.map AVal.strOf (strv (Prod.fst r)), List.map AVal.intOf (iv (Prod.snd r))))) false (gb (lfH (AVal.agg [AVal.int IntKind.i64 (Prod.fst l), AVal.slice (strv (Prod.fst (Prod.snd l))) 1 Tag.ro, AVal.bool (Prod.snd (Prod.snd l))])) (brV (!hold (lfB (Prod.fst l, List.map AVal.strOf (strv (Prod.fst (Prod.snd l))), Prod.snd (Prod.snd l)))) false (∀ (y : Int), y = findN (List.map AVal.strOf (strv (Prod.fst r)), List.map AVal.intOf (iv (Prod.snd r))) s → gb (rootH (AVal.agg [AVal.slice (strv (Prod.fst r)) 1 Tag.ro, AVal.slice (iv (Prod.snd r)) 1 Tag.ro])) (brV (hold (y != Prod.fst l)) true (Q (AVal.tuple [AVal.agg [AVal.slice [] 0 Tag.nil, AVal.slice [] 0 Tag.nil], AVal.slice [] 0 Tag.nil, AVal.int IntKind.i64 (100 : Int)]) (Sto.set (Sto.push Sto.empty (AObj.cells [AVal.slice [] 0 Tag.nil, AVal.slice [] 0 Tag.nil])) 0 (AObj.cells [AVal.slice [] 0 Tag.nil, AVal.slice [] 0 Tag.nil]))) (∀ (y : Bool), y = List.contains (List.map AVal.strOf (strv (Prod.fst (Prod.snd l)))) s → ∀ (y_1 : Int), (y_1 = if y = true then (↑(List.idxOf s (List.map AVal.strOf (strv (Prod.fst (Prod.snd l))))) : Int) else (-1 : Int)) → gb (List.all (strv (Prod.fst (Prod.snd l))) strIs && lenOk (List.length (strv (Prod.fst (Prod.snd l))))) (brV (hold (decide (y_1 < (0 : Int)))) true (Q (AVal.tuple [AVal.agg [AVal.slice [] 0 Tag.nil, AVal.slice [] 0 Tag.nil], AVal.slice [] 0 Tag.nil, AVal.int IntKind.i64 (101 : Int)]) (Sto.set (Sto.push Sto.empty (AObj.cells [AVal.slice [] 0 Tag.nil, AVal.slice [] 0 Tag.nil])) 0 (AObj.cells [AVal.slice [] 0 Tag.nil, AVal.slice [] 0 Tag.nil]))) (gb (List.all (strv (Prod.fst (Prod.snd l))) strIs && hold (decide ((0 : Int) ≤ y_1 ∧ y_1 < (↑(List.length (strv (Prod.fst (Prod.snd l)))) : Int) ∧ List.length (strv (Prod.fst (Prod.snd l))) ≤ 1000000))) (brV (hold (decide ((0 : Int) < (↑(List.length (strv (delL (List.map AVal.strOf (strv (Prod.fst (Prod.snd l)))) (Int.toNat y_1)))) : Int)))) false (brV (hold ((↑(List.length (iv (Prod.snd r))) : Int) == (1 : Int))) true (Q (AVal.tuple [AVal.agg [AVal.slice (strv (Prod.fst r)) 1 Tag.ro, AVal.slice (iv (Prod.snd r)) 1 Tag.ro], AVal.slice [AVal.agg [AVal.int IntKind.i64 (Prod.fst l), AVal.slice (strv (delL (List.map AVal.strOf (strv (Prod.fst (Prod.snd l)))) (Int.toNat y_1))) 1 Tag.ro, AVal.bool false]] 3 Tag.full, AVal.int IntKind.i64 (0 : Int)]) (Sto.set (Sto.push Sto.empty (AObj.cells [AVal.slice [] 0 Tag.nil, AVal.slice [] 0 Tag.nil])) 0 (AObj.cells [AVal.slice (strv (Prod.fst r)) 1 Tag.ro, AVal.slice (iv (Prod.snd r)) 1 Tag.ro]))) (cutV (vc Try.prog cRemoveR code_20_1_1_1_1_1_1 (endK Try.prog (Array.toList (Go.Func.results Try.f20)) Q)) (St.mk 94 [(2, AVal.str s), (3, AVal.ptr (Oid.loc 3) 0), (4, AVal.ptr (Oid.loc 4) 0), (6, AVal.ptr (Oid.out 0) 0)] [] [(3, AObj.cells [AVal.slice (strv (Prod.fst r)) 1 Tag.ro, AVal.slice (iv (Prod.snd r)) 1 Tag.ro]), (4, AObj.cells [AVal.int IntKind.i64 (Prod.fst l), AVal.slice (strv (Prod.fst (Prod.snd l))) 1 Tag.ro, AVal.bool (Prod.snd (Prod.snd l))])] (Sto.push Sto.empty (AObj.cells [AVal.slice [] 0 Tag.nil, AVal.slice [] 0 Tag.nil]))))) (Q (AVal.tuple [AVal.agg [AVal.slice (strv (Prod.fst r)) 1 Tag.ro, AVal.slice (iv (Prod.snd r)) 1 Tag.ro], AVal.slice [AVal.agg [AVal.int IntKind.i64 (Prod.fst l), AVal.slice (strv (delL (List.map AVal.strOf (strv (Prod.fst (Prod.snd l)))) (Int.toNat y_1))) 1 Tag.ro, AVal.bool false]] 3 Tag.full, AVal.int IntKind.i64 (0 : Int)]) (Sto.set (Sto.push Sto.empty (AObj.cells [AVal.slice [] 0 Tag.nil, AVal.slice [] 0 Tag.nil])) 0 (AObj.cells [AVal.slice (strv (Prod.fst r)) 1 Tag.ro, AVal.slice (iv (Prod.snd r)) 1 Tag.ro]))))))))) (Q (AVal.tuple [AVal.agg [AVal.slice [] 0 Tag.nil, AVal.slice [] 0 Tag.nil], AVal.slice [] 0 Tag.nil, AVal.int IntKind.i64 (100 : Int)]) (Sto.set (Sto.push Sto.empty (AObj.cells [AVal.slice [] 0 Tag.nil, AVal.slice [] 0 Tag.nil])) 0 (AObj.cells [AVal.slice [] 0 Tag.nil, AVal.slice [] 0 Tag.nil]))))) (Q (AVal.tuple [AVal.agg [AVal.slice [] 0 Tag.nil, AVal.slice [] 0 Tag.nil], AVal.slice [] 0 Tag.nil, AVal.int IntKind.i64 (100 : Int)]) (Sto.set (Sto.push Sto.empty (AObj.cells [AVal.slice [] 0 Tag.nil, AVal.slice [] 0 Tag.nil])) 0 (AObj.cells [AVal.slice [] 0 Tag.nil, AVal.slice [] 0 Tag.nil]))))) := by kernel_rfl
theorem removeR_i (r : Root) (l : Lf) (s : Txt) (Q : AVal → Sto → Prop) (ho : OrcOk Try.prog cRemoveR) (h : gb (rootH (AVal.agg [AVal.slice (strv (Prod.fst r)) 1 Tag.ro, AVal.slice (iv (Prod.snd r)) 1 Tag.ro])) (brV (!hold (rootB (List.map AVal.strOf (strv (Prod.fst r)), List.map AVal.intOf (iv (Prod.snd r))))) false (gb (lfH (AVal.agg [AVal.int IntKind.i64 (Prod.fst l), AVal.slice (strv (Prod.fst (Prod.snd l))) 1 Tag.ro, AVal.bool (Prod.snd (Prod.snd l))])) (brV (!hold (lfB (Prod.fst l, List.map AVal.strOf (strv (Prod.fst (Prod.snd l))), Prod.snd (Prod.snd l)))) false (∀ (y : Int), y = findN (List.map AVal.strOf (strv (Prod.fst r)), List.map AVal.intOf (iv (Prod.snd r))) s → gb (rootH (AVal.agg [AVal.slice (strv (Prod.fst r)) 1 Tag.ro, AVal.slice (iv (Prod.snd r)) 1 Tag.ro])) (brV (hold (y != Prod.fst l)) true (Q (AVal.tuple [AVal.agg [AVal.slice [] 0 Tag.nil, AVal.slice [] 0 Tag.nil], AVal.slice [] 0 Tag.nil, AVal.int IntKind.i64 (100 : Int)]) (Sto.set (Sto.push Sto.empty (AObj.cells [AVal.slice [] 0 Tag.nil, AVal.slice [] 0 Tag.nil])) 0 (AObj.cells [AVal.slice [] 0 Tag.nil, AVal.slice [] 0 Tag.nil]))) (∀ (y : Bool), y = List.contains (List.map AVal.strOf (strv (Prod.fst (Prod.snd l)))) s → ∀ (y_1 : Int), (y_1 = if y = true then (↑(List.idxOf s (List.map AVal.strOf (strv (Prod.fst (Prod.snd l))))) : Int) else (-1 : Int)) → gb (List.all (strv (Prod.fst (Prod.snd l))) strIs && lenOk (List.length (strv (Prod.fst (Prod.snd l))))) (brV (hold (decide (y_1 < (0 : Int)))) true (Q (AVal.tuple [AVal.agg [AVal.slice [] 0 Tag.nil, AVal.slice [] 0 Tag.nil], AVal.slice [] 0 Tag.nil, AVal.int IntKind.i64 (101 : Int)]) (Sto.set (Sto.push Sto.empty (AObj.cells [AVal.slice [] 0 Tag.nil, AVal.slice [] 0 Tag.nil])) 0 (AObj.cells [AVal.slice [] 0 Tag.nil, AVal.slice [] 0 Tag.nil]))) (gb (List.all (strv (Prod.fst (Prod.snd l))) strIs && hold (decide ((0 : Int) ≤ y_1 ∧ y_1 < (↑(List.length (strv (Prod.fst (Prod.snd l)))) : Int) ∧ List.length (strv (Prod.fst (Prod.snd l))) ≤ 1000000))) (brV (hold (decide ((0 : Int) < (↑(List.length (strv (delL (List.map AVal.strOf (strv (Prod.fst (Prod.snd l)))) (Int.toNat y_1)))) : Int)))) false (brV (hold ((↑(List.length (iv (Prod.snd r))) : Int) == (1 : Int))) true (Q (AVal.tuple [AVal.agg [AVal.slice (strv (Prod.fst r)) 1 Tag.ro, AVal.slice (iv (Prod.snd r)) 1 Tag.ro], AVal.slice [AVal.agg [AVal.int IntKind.i64 (Prod.fst l), AVal.slice (strv (delL (List.map AVal.strOf (strv (Prod.fst (Prod.snd l)))) (Int.toNat y_1))) 1 Tag.ro, AVal.bool false]] 3 Tag.full, AVal.int IntKind.i64 (0 : Int)]) (Sto.set (Sto.push Sto.empty (AObj.cells [AVal.slice [] 0 Tag.nil, AVal.slice [] 0 Tag.nil])) 0 (AObj.cells [AVal.slice (strv (Prod.fst r)) 1 Tag.ro, AVal.slice (iv (Prod.snd r)) 1 Tag.ro]))) (cutV (vc Try.prog cRemoveR code_20_1_1_1_1_1_1 (endK Try.prog (Array.toList (Go.Func.results Try.f20)) Q)) (St.mk 94 [(2, AVal.str s), (3, AVal.ptr (Oid.loc 3) 0), (4, AVal.ptr (Oid.loc 4) 0), (6, AVal.ptr (Oid.out 0) 0)] [] [(3, AObj.cells [AVal.slice (strv (Prod.fst r)) 1 Tag.ro, AVal.slice (iv (Prod.snd r)) 1 Tag.ro]), (4, AObj.cells [AVal.int IntKind.i64 (Prod.fst l), AVal.slice (strv (Prod.fst (Prod.snd l))) 1 Tag.ro, AVal.bool (Prod.snd (Prod.snd l))])] (Sto.push Sto.empty (AObj.cells [AVal.slice [] 0 Tag.nil, AVal.slice [] 0 Tag.nil]))))) (Q (AVal.tuple [AVal.agg [AVal.slice (strv (Prod.fst r)) 1 Tag.ro, AVal.slice (iv (Prod.snd r)) 1 Tag.ro], AVal.slice [AVal.agg [AVal.int IntKind.i64 (Prod.fst l), AVal.slice (strv (delL (List.map AVal.strOf (strv (Prod.fst (Prod.snd l)))) (Int.toNat y_1))) 1 Tag.ro, AVal.bool false]] 3 Tag.full, AVal.int IntKind.i64 (0 : Int)]) (Sto.set (Sto.push Sto.empty (AObj.cells [AVal.slice [] 0 Tag.nil, AVal.slice [] 0 Tag.nil])) 0 (AObj.cells [AVal.slice (strv (Prod.fst r)) 1 Tag.ro, AVal.slice (iv (Prod.snd r)) 1 Tag.ro]))))))))) (Q (AVal.tuple [AVal.agg [AVal.slice [] 0 Tag.nil, AVal.slice [] 0 Tag.nil], AVal.slice [] 0 Tag.nil, AVal.int IntKind.i64 (100 : Int)]) (Sto.set (Sto.push Sto.empty (AObj.cells [AVal.slice [] 0 Tag.nil, AVal.slice [] 0 Tag.nil])) 0 (AObj.cells [AVal.slice [] 0 Tag.nil, AVal.slice [] 0 Tag.nil]))))) (Q (AVal.tuple [AVal.agg [AVal.slice [] 0 Tag.nil, AVal.slice [] 0 Tag.nil], AVal.slice [] 0 Tag.nil, AVal.int IntKind.i64 (100 : Int)]) (Sto.set (Sto.push Sto.empty (AObj.cells [AVal.slice [] 0 Tag.nil, AVal.slice [] 0 Tag.nil])) 0 (AObj.cells [AVal.slice [] 0 Tag.nil, AVal.slice [] 0 Tag.nil]))))) : ACall Try.prog 20 [rootV r, lfV l, .str s] (Sto.empty) Q :=
  ACall.intro hmix Try.func20 (c := code_20_) (by kernel_rfl) cRemoveR ho (Nat.le_of_ble_eq_true (by kernel_rfl)) (by rw [removeR_r]; exact h)
noncomputable def removeRF_S (r : Root) (l : Lf) (s : Txt) (c : List AVal) : St := St.mk 94 [(2, .str s), (3, .ptr (.loc 3) 0), (4, .ptr (.loc 4) 0), (6, .ptr (.out 0) 0)] [] [(3, .cells (rootC r)), (4, .cells (lfC l))] (Sto.push Sto.empty (.cells c))
theorem removeRF_r (r : Root) (l : Lf) (s : Txt) (c : List AVal) (Q : AVal → Sto → Prop) : vc Try.prog cRemoveR code_20_1_1_1_1_1_1 (endK Try.prog Try.f20.results.toList Q) (St.mk 94 [(2, .str s), (3, .ptr (.loc 3) 0), (4, .ptr (.loc 4) 0), (6, .ptr (.out 0) 0)] [] [(3, .cells (rootC r)), (4, .cells (lfC l))] (Sto.push Sto.empty (.cells c))) =
  (∀ (y : Nat), y = atN (List.map AVal.strOf (strv (Prod.fst r))) s → gb (rootH (AVal.agg [AVal.slice (strv (Prod.fst r)) 1 Tag.ro, AVal.slice (iv (Prod.snd r)) 1 Tag.ro])) (gb (decide ((0 : Int) ≤ (0 : Int) ∧ (0 : Int) ≤ (↑y : Int) ∧ (↑y : Int) ≤ (↑(List.length (iv (Prod.snd r))) : Int))) (gb (decide (decide (true = true ∧ List.length (List.take (Int.toNat (↑y : Int) - 0) (List.drop 0 (iv (Prod.snd r)))) * 8 ≤ 140737488355328 ∧ List.length (List.take (Int.toNat (↑y : Int) - 0) (List.drop 0 (iv (Prod.snd r)))) ≤ 9223372036854775807) = true ∧ true = true)) (gb (decide ((0 : Int) ≤ IntKind.wrap IntKind.i64 ((↑y : Int) + (1 : Int)) ∧ IntKind.wrap IntKind.i64 ((↑y : Int) + (1 : Int)) ≤ (↑(List.length (iv (Prod.snd r))) : Int) ∧ (↑(List.length (iv (Prod.snd r))) : Int) ≤ (↑(List.length (iv (Prod.snd r))) : Int))) (gb (decide (decide (true = true ∧ some (List.length (List.take (Int.toNat (↑y : Int) - 0) (List.drop 0 (iv (Prod.snd r))))) = some (List.length (List.take (Int.toNat (↑y : Int) - 0) (List.drop 0 (iv (Prod.snd r))))) ∧ (List.length (List.take (Int.toNat (↑y : Int) - 0) (List.drop 0 (iv (Prod.snd r)))) + List.length (List.take (Int.toNat (↑(List.length (iv (Prod.snd r))) : Int) - Int.toNat (IntKind.wrap IntKind.i64 ((↑y : Int) + (1 : Int)))) (List.drop (Int.toNat (IntKind.wrap IntKind.i64 ((↑y : Int) + (1 : Int)))) (iv (Prod.snd r))))) * 8 ≤ 140737488355328 ∧ List.length (List.take (Int.toNat (↑y : Int) - 0) (List.drop 0 (iv (Prod.snd r)))) + List.length (List.take (Int.toNat (↑(List.length (iv (Prod.snd r))) : Int) - Int.toNat (IntKind.wrap IntKind.i64 ((↑y : Int) + (1 : Int)))) (List.drop (Int.toNat (IntKind.wrap IntKind.i64 ((↑y : Int) + (1 : Int)))) (iv (Prod.snd r)))) ≤ 9223372036854775807) = true ∧ true = true)) (brV (hold ((↑y : Int) == (↑(List.length (strv (Prod.fst r))) : Int))) true (gb (List.all (strv (Prod.fst r)) strIs && hold (decide ((0 : Int) ≤ IntKind.wrap IntKind.i64 ((↑y : Int) - (1 : Int)) ∧ IntKind.wrap IntKind.i64 ((↑y : Int) - (1 : Int)) < (↑(List.length (strv (Prod.fst r))) : Int) ∧ List.length (strv (Prod.fst r)) ≤ 1000000))) (gb (decide (2 ≤ List.length c ∧ (Oid.isOut (Oid.out 0) = true → noLocL (AVal.cells (St.eval (St.mk 94 [(2, AVal.str s), (3, AVal.ptr (Oid.loc 3) 0), (4, AVal.ptr (Oid.loc 4) 0), (6, AVal.ptr (Oid.out 0) 0), (11, AVal.int IntKind.i64 (IntKind.wrap IntKind.i64 ((↑y : Int) - (1 : Int)))), (12, AVal.ptr (Oid.loc 12) 0), (81, AVal.bool (hold ((↑y : Int) == (↑(List.length (strv (Prod.fst r))) : Int))))] [(93, AVal.slice [AVal.agg [AVal.int IntKind.i64 (Prod.fst l), AVal.slice [] 0 Tag.nil, AVal.bool true]] 3 Tag.full), (92, AVal.agg [AVal.int IntKind.i64 (Prod.fst l), AVal.slice [] 0 Tag.nil, AVal.bool true]), (91, AVal.int IntKind.i64 (Prod.fst l)), (90, AVal.ptr (Oid.loc 4) 0), (89, AVal.agg [AVal.slice (strv (delL (List.map AVal.strOf (strv (Prod.fst r))) (Int.toNat (IntKind.wrap IntKind.i64 ((↑y : Int) - (1 : Int)))))) 1 Tag.ro, AVal.slice (List.take (Int.toNat (↑y : Int) - 0) (List.drop 0 (iv (Prod.snd r))) ++ List.take (Int.toNat (↑(List.length (iv (Prod.snd r))) : Int) - Int.toNat (IntKind.wrap IntKind.i64 ((↑y : Int) + (1 : Int)))) (List.drop (Int.toNat (IntKind.wrap IntKind.i64 ((↑y : Int) + (1 : Int)))) (iv (Prod.snd r)))) 1 (Tag.own 0)])] [(3, AObj.cells [AVal.slice (strv (Prod.fst r)) 1 Tag.ro, AVal.slice (iv (Prod.snd r)) 1 Tag.ro]), (4, AObj.cells [AVal.int IntKind.i64 (Prod.fst l), AVal.slice (strv (Prod.fst (Prod.snd l))) 1 Tag.ro, AVal.bool (Prod.snd (Prod.snd l))]), (12, AObj.cells [AVal.slice (strv (delL (List.map AVal.strOf (strv (Prod.fst r))) (Int.toNat (IntKind.wrap IntKind.i64 ((↑y : Int) - (1 : Int)))))) 1 Tag.ro, AVal.slice (List.take (Int.toNat (↑y : Int) - 0) (List.drop 0 (iv (Prod.snd r))) ++ List.take (Int.toNat (↑(List.length (iv (Prod.snd r))) : Int) - Int.toNat (IntKind.wrap IntKind.i64 ((↑y : Int) + (1 : Int)))) (List.drop (Int.toNat (IntKind.wrap IntKind.i64 ((↑y : Int) + (1 : Int)))) (iv (Prod.snd r)))) 1 (Tag.own 0)])] (Sto.setOwn (Sto.pushOwn (Sto.push Sto.empty (AObj.cells c)) (List.length (List.take (Int.toNat (↑y : Int) - 0) (List.drop 0 (iv (Prod.snd r)))))) 0 (List.length (List.take (Int.toNat (↑y : Int) - 0) (List.drop 0 (iv (Prod.snd r)))) + List.length (List.take (Int.toNat (↑(List.length (iv (Prod.snd r))) : Int) - Int.toNat (IntKind.wrap IntKind.i64 ((↑y : Int) + (1 : Int)))) (List.drop (Int.toNat (IntKind.wrap IntKind.i64 ((↑y : Int) + (1 : Int)))) (iv (Prod.snd r))))))) (Go.Operand.tmp 89))) = true))) (Q (AVal.tuple [AVal.agg [AVal.slice (strv (delL (List.map AVal.strOf (strv (Prod.fst r))) (Int.toNat (IntKind.wrap IntKind.i64 ((↑y : Int) - (1 : Int)))))) 1 Tag.ro, AVal.slice (List.take (Int.toNat (↑y : Int) - 0) (List.drop 0 (iv (Prod.snd r))) ++ List.take (Int.toNat (↑(List.length (iv (Prod.snd r))) : Int) - Int.toNat (IntKind.wrap IntKind.i64 ((↑y : Int) + (1 : Int)))) (List.drop (Int.toNat (IntKind.wrap IntKind.i64 ((↑y : Int) + (1 : Int)))) (iv (Prod.snd r)))) 1 (Tag.own 0)], AVal.slice [AVal.agg [AVal.int IntKind.i64 (Prod.fst l), AVal.slice [] 0 Tag.nil, AVal.bool true]] 3 Tag.full, AVal.int IntKind.i64 (0 : Int)]) (Sto.set (Sto.setOwn (Sto.pushOwn (Sto.push Sto.empty (AObj.cells c)) (List.length (List.take (Int.toNat (↑y : Int) - 0) (List.drop 0 (iv (Prod.snd r)))))) 0 (List.length (List.take (Int.toNat (↑y : Int) - 0) (List.drop 0 (iv (Prod.snd r)))) + List.length (List.take (Int.toNat (↑(List.length (iv (Prod.snd r))) : Int) - Int.toNat (IntKind.wrap IntKind.i64 ((↑y : Int) + (1 : Int)))) (List.drop (Int.toNat (IntKind.wrap IntKind.i64 ((↑y : Int) + (1 : Int)))) (iv (Prod.snd r)))))) 0 (AObj.cells (setRange c 0 [AVal.slice (strv (delL (List.map AVal.strOf (strv (Prod.fst r))) (Int.toNat (IntKind.wrap IntKind.i64 ((↑y : Int) - (1 : Int)))))) 1 Tag.ro, AVal.slice (List.take (Int.toNat (↑y : Int) - 0) (List.drop 0 (iv (Prod.snd r))) ++ List.take (Int.toNat (↑(List.length (iv (Prod.snd r))) : Int) - Int.toNat (IntKind.wrap IntKind.i64 ((↑y : Int) + (1 : Int)))) (List.drop (Int.toNat (IntKind.wrap IntKind.i64 ((↑y : Int) + (1 : Int)))) (iv (Prod.snd r)))) 1 (Tag.own 0)])))))) (gb (List.all (strv (Prod.fst r)) strIs && hold (decide ((0 : Int) ≤ (↑y : Int) ∧ (↑y : Int) < (↑(List.length (strv (Prod.fst r))) : Int) ∧ List.length (strv (Prod.fst r)) ≤ 1000000))) (gb (decide (2 ≤ List.length c ∧ (Oid.isOut (Oid.out 0) = true → noLocL (AVal.cells (St.eval (St.mk 94 [(2, AVal.str s), (3, AVal.ptr (Oid.loc 3) 0), (4, AVal.ptr (Oid.loc 4) 0), (6, AVal.ptr (Oid.out 0) 0), (11, AVal.int IntKind.i64 (↑y : Int)), (12, AVal.ptr (Oid.loc 12) 0), (81, AVal.bool (hold ((↑y : Int) == (↑(List.length (strv (Prod.fst r))) : Int))))] [(93, AVal.slice [AVal.agg [AVal.int IntKind.i64 (Prod.fst l), AVal.slice [] 0 Tag.nil, AVal.bool true]] 3 Tag.full), (92, AVal.agg [AVal.int IntKind.i64 (Prod.fst l), AVal.slice [] 0 Tag.nil, AVal.bool true]), (91, AVal.int IntKind.i64 (Prod.fst l)), (90, AVal.ptr (Oid.loc 4) 0), (89, AVal.agg [AVal.slice (strv (delL (List.map AVal.strOf (strv (Prod.fst r))) (Int.toNat (↑y : Int)))) 1 Tag.ro, AVal.slice (List.take (Int.toNat (↑y : Int) - 0) (List.drop 0 (iv (Prod.snd r))) ++ List.take (Int.toNat (↑(List.length (iv (Prod.snd r))) : Int) - Int.toNat (IntKind.wrap IntKind.i64 ((↑y : Int) + (1 : Int)))) (List.drop (Int.toNat (IntKind.wrap IntKind.i64 ((↑y : Int) + (1 : Int)))) (iv (Prod.snd r)))) 1 (Tag.own 0)])] [(3, AObj.cells [AVal.slice (strv (Prod.fst r)) 1 Tag.ro, AVal.slice (iv (Prod.snd r)) 1 Tag.ro]), (4, AObj.cells [AVal.int IntKind.i64 (Prod.fst l), AVal.slice (strv (Prod.fst (Prod.snd l))) 1 Tag.ro, AVal.bool (Prod.snd (Prod.snd l))]), (12, AObj.cells [AVal.slice (strv (delL (List.map AVal.strOf (strv (Prod.fst r))) (Int.toNat (↑y : Int)))) 1 Tag.ro, AVal.slice (List.take (Int.toNat (↑y : Int) - 0) (List.drop 0 (iv (Prod.snd r))) ++ List.take (Int.toNat (↑(List.length (iv (Prod.snd r))) : Int) - Int.toNat (IntKind.wrap IntKind.i64 ((↑y : Int) + (1 : Int)))) (List.drop (Int.toNat (IntKind.wrap IntKind.i64 ((↑y : Int) + (1 : Int)))) (iv (Prod.snd r)))) 1 (Tag.own 0)])] (Sto.setOwn (Sto.pushOwn (Sto.push Sto.empty (AObj.cells c)) (List.length (List.take (Int.toNat (↑y : Int) - 0) (List.drop 0 (iv (Prod.snd r)))))) 0 (List.length (List.take (Int.toNat (↑y : Int) - 0) (List.drop 0 (iv (Prod.snd r)))) + List.length (List.take (Int.toNat (↑(List.length (iv (Prod.snd r))) : Int) - Int.toNat (IntKind.wrap IntKind.i64 ((↑y : Int) + (1 : Int)))) (List.drop (Int.toNat (IntKind.wrap IntKind.i64 ((↑y : Int) + (1 : Int)))) (iv (Prod.snd r))))))) (Go.Operand.tmp 89))) = true))) (Q (AVal.tuple [AVal.agg [AVal.slice (strv (delL (List.map AVal.strOf (strv (Prod.fst r))) (Int.toNat (↑y : Int)))) 1 Tag.ro, AVal.slice (List.take (Int.toNat (↑y : Int) - 0) (List.drop 0 (iv (Prod.snd r))) ++ List.take (Int.toNat (↑(List.length (iv (Prod.snd r))) : Int) - Int.toNat (IntKind.wrap IntKind.i64 ((↑y : Int) + (1 : Int)))) (List.drop (Int.toNat (IntKind.wrap IntKind.i64 ((↑y : Int) + (1 : Int)))) (iv (Prod.snd r)))) 1 (Tag.own 0)], AVal.slice [AVal.agg [AVal.int IntKind.i64 (Prod.fst l), AVal.slice [] 0 Tag.nil, AVal.bool true]] 3 Tag.full, AVal.int IntKind.i64 (0 : Int)]) (Sto.set (Sto.setOwn (Sto.pushOwn (Sto.push Sto.empty (AObj.cells c)) (List.length (List.take (Int.toNat (↑y : Int) - 0) (List.drop 0 (iv (Prod.snd r)))))) 0 (List.length (List.take (Int.toNat (↑y : Int) - 0) (List.drop 0 (iv (Prod.snd r)))) + List.length (List.take (Int.toNat (↑(List.length (iv (Prod.snd r))) : Int) - Int.toNat (IntKind.wrap IntKind.i64 ((↑y : Int) + (1 : Int)))) (List.drop (Int.toNat (IntKind.wrap IntKind.i64 ((↑y : Int) + (1 : Int)))) (iv (Prod.snd r)))))) 0 (AObj.cells (setRange c 0 [AVal.slice (strv (delL (List.map AVal.strOf (strv (Prod.fst r))) (Int.toNat (↑y : Int)))) 1 Tag.ro, AVal.slice (List.take (Int.toNat (↑y : Int) - 0) (List.drop 0 (iv (Prod.snd r))) ++ List.take (Int.toNat (↑(List.length (iv (Prod.snd r))) : Int) - Int.toNat (IntKind.wrap IntKind.i64 ((↑y : Int) + (1 : Int)))) (List.drop (Int.toNat (IntKind.wrap IntKind.i64 ((↑y : Int) + (1 : Int)))) (iv (Prod.snd r)))) 1 (Tag.own 0)])))))))))))) := by kernel_rfl
end Go.Proofs.Ytlfnmhfmikomkaa
end

section
set_option maxRecDepth 100000
set_option maxHeartbeats 0
set_option linter.unusedVariables false
namespace Go.Proofs.Ytlfnmhfmikomkaa
open Go.AL Go.Proofs
noncomputable def cSign : Cfg := { keep := [0, 2, 3], cut := [] }
noncomputable def cOrd : Cfg := { keep := [0, 1, 4, 5, 15, 24, 37], cut := [(5, [0, 1, 5], []), (12, [0, 1], [])], orc := ofList [signE] }
noncomputable def cNan : Cfg := { keep := [0, 2], cut := [] }
noncomputable def cNan2 : Cfg := { keep := [0, 2], cut := [] }
noncomputable def cLess : Cfg := { keep := [0, 1, 4], cut := [], orc := ofList [nanE] }
noncomputable def cBs : Cfg := { keep := [0, 1, 4, 5, 6, 7, 8, 9, 15, 27], cut := [(7, [0, 1, 6, 7, 8], []), (16, [0, 1, 6, 7], [])], orc := ofList [lessE, nan2E] }
noncomputable def cRise : Cfg := { keep := [0, 2, 3, 5, 6, 7, 22], cut := [(5, [0, 5, 6], []), (14, [], [])] }
noncomputable def cRiseR : Cfg := { keep := [0, 2, 3, 7, 20], cut := [(5, [0, 3], []), (12, [], [])], orc := ofList [ordE] }
noncomputable def cIndexI : Cfg := { keep := [0, 1, 4, 5, 7, 8, 9, 16], cut := [(5, [0, 1, 7, 8], [])] }
noncomputable def cContainsI : Cfg := { keep := [0, 1, 4], cut := [], orc := ofList [indexIE] }
noncomputable def code_14_ : Code := (Try.f14.body).getD .skip
noncomputable def code_16_ : Code := (Try.f16.body).getD .skip
noncomputable def code_35_ : Code := (Try.f35.body).getD .skip
noncomputable def code_37_ : Code := (Try.f37.body).getD .skip
noncomputable def code_43_ : Code := (Try.f43.body).getD .skip
noncomputable def code_64_ : Code := (Try.f64.body).getD .skip
noncomputable def code_65_ : Code := (Try.f65.body).getD .skip
noncomputable def code_68_ : Code := (Try.f68.body).getD .skip
noncomputable def code_71_ : Code := (Try.f71.body).getD .skip
noncomputable def code_74_ : Code := (Try.f74.body).getD .skip
noncomputable def code_14_1_1 : Code := codeAt code_14_ [1, 1]
noncomputable def code_16_1_1 : Code := codeAt code_16_ [1, 1]
noncomputable def code_68_1_1 : Code := codeAt code_68_ [1, 1]
noncomputable def code_71_1_1 : Code := codeAt code_71_ [1, 1]
noncomputable def code_35_1_1_1_1 : Code := codeAt code_35_ [1, 1, 1, 1]
noncomputable def code_14_1_0_1_0_0 : Code := codeAt code_14_ [1, 0, 1, 0, 0]
noncomputable def code_16_1_0_1_0_0 : Code := codeAt code_16_ [1, 0, 1, 0, 0]
noncomputable def code_68_1_0_1_0_0 : Code := codeAt code_68_ [1, 0, 1, 0, 0]
noncomputable def code_71_1_0_1_0_0 : Code := codeAt code_71_ [1, 0, 1, 0, 0]
noncomputable def code_35_1_1_1_0_0_0 : Code := codeAt code_35_ [1, 1, 1, 0, 0, 0]
theorem sign_r (b : Bool) (Q : AVal → Sto → Prop) : vc Try.prog cSign code_43_ (endK Try.prog Try.f43.results.toList Q) (St.start Try.f43.ntmps [.bool b] (Sto.empty)) =
  (brV b true (Q (AVal.int IntKind.i64 (-1 : Int)) Sto.empty) (Q (AVal.int IntKind.i64 (1 : Int)) Sto.empty)) := by kernel_rfl
theorem sign_i (b : Bool) (Q : AVal → Sto → Prop) (ho : OrcOk Try.prog cSign) (h : brV b true (Q (AVal.int IntKind.i64 (-1 : Int)) Sto.empty) (Q (AVal.int IntKind.i64 (1 : Int)) Sto.empty)) : ACall Try.prog 43 [.bool b] (Sto.empty) Q :=
  ACall.intro hmix Try.func43 (c := code_43_) (by kernel_rfl) cSign ho (Nat.le_of_ble_eq_true (by kernel_rfl)) (by rw [sign_r]; exact h)
theorem ord_r (a b : Txt) (Q : AVal → Sto → Prop) : vc Try.prog cOrd code_14_ (endK Try.prog Try.f14.results.toList Q) (St.start Try.f14.ntmps [.str a, .str b] (Sto.empty)) =
  (loopV (fun s => St.norm [] [0, 1, 5] [] s) (vc Try.prog cOrd code_14_1_0_1_0_0) (blockK 0 (thenK (fun s => cutV (vc Try.prog cOrd code_14_1_1 (endK Try.prog (Array.toList (Go.Func.results Try.f14)) Q)) (St.norm [] [0, 1] [] s)) (endK Try.prog (Array.toList (Go.Func.results Try.f14)) Q))) (St.mk 44 [(0, AVal.str a), (1, AVal.str b), (5, AVal.int IntKind.i64 (0 : Int))] [] [] Sto.empty)) := by kernel_rfl
theorem ord_i (a b : Txt) (Q : AVal → Sto → Prop) (ho : OrcOk Try.prog cOrd) (h : loopV (fun s => St.norm [] [0, 1, 5] [] s) (vc Try.prog cOrd code_14_1_0_1_0_0) (blockK 0 (thenK (fun s => cutV (vc Try.prog cOrd code_14_1_1 (endK Try.prog (Array.toList (Go.Func.results Try.f14)) Q)) (St.norm [] [0, 1] [] s)) (endK Try.prog (Array.toList (Go.Func.results Try.f14)) Q))) (St.mk 44 [(0, AVal.str a), (1, AVal.str b), (5, AVal.int IntKind.i64 (0 : Int))] [] [] Sto.empty)) : ACall Try.prog 14 [.str a, .str b] (Sto.empty) Q :=
  ACall.intro hmix Try.func14 (c := code_14_) (by kernel_rfl) cOrd ho (Nat.le_of_ble_eq_true (by kernel_rfl)) (by rw [ord_r]; exact h)
noncomputable def ordL_S (a b : Txt) (i : Nat) : St := St.mk 44 [(0, .str a), (1, .str b), (5, .int .i64 (i : Int))] [] [] (Sto.empty)
theorem ordL_r (a b : Txt) (i : Nat) (L : St → Prop) (K : Exit → St → Prop) : vc Try.prog cOrd code_14_1_0_1_0_0 (thenK (fun s => L (St.norm [] [0, 1, 5] [] s)) K) (St.mk 44 [(0, .str a), (1, .str b), (5, .int .i64 (i : Int))] [] [] (Sto.empty)) =
  (brV (hold (decide ((↑i : Int) < (↑(List.length a) : Int)))) true (brV (hold (decide ((↑i : Int) < (↑(List.length b) : Int)))) true (gb (decide ((0 : Int) ≤ (↑i : Int) ∧ (↑i : Int) < (↑(List.length a) : Int))) (gb (decide ((0 : Int) ≤ (↑i : Int) ∧ (↑i : Int) < (↑(List.length b) : Int))) (brV (hold ((↑(UInt8.toNat (List.getD a (Int.toNat (↑i : Int)) (0 : UInt8))) : Int) != (↑(UInt8.toNat (List.getD b (Int.toNat (↑i : Int)) (0 : UInt8))) : Int))) true (gb (decide ((0 : Int) ≤ (↑i : Int) ∧ (↑i : Int) < (↑(List.length a) : Int))) (gb (decide ((0 : Int) ≤ (↑i : Int) ∧ (↑i : Int) < (↑(List.length b) : Int))) (K Exit.ret (St.mk 44 [(0, AVal.str a), (1, AVal.str b), (5, AVal.int IntKind.i64 (↑i : Int)), (15, AVal.bool (hold (decide ((↑i : Int) < (↑(List.length b) : Int))))), (24, AVal.bool (hold ((↑(UInt8.toNat (List.getD a (Int.toNat (↑i : Int)) (0 : UInt8))) : Int) != (↑(UInt8.toNat (List.getD b (Int.toNat (↑i : Int)) (0 : UInt8))) : Int)))), (4, AVal.int IntKind.i64 (sgnN (hold (decide ((↑(UInt8.toNat (List.getD a (Int.toNat (↑i : Int)) (0 : UInt8))) : Int) < (↑(UInt8.toNat (List.getD b (Int.toNat (↑i : Int)) (0 : UInt8))) : Int))))))] [] [] Sto.empty)))) (L (St.mk 44 [(0, AVal.str a), (1, AVal.str b), (5, AVal.int IntKind.i64 (IntKind.wrap IntKind.i64 ((↑i : Int) + (1 : Int))))] [] [] Sto.empty))))) (K (Exit.exit 0) (St.mk 44 [(0, AVal.str a), (1, AVal.str b), (5, AVal.int IntKind.i64 (↑i : Int)), (15, AVal.bool (hold (decide ((↑i : Int) < (↑(List.length b) : Int)))))] [] [] Sto.empty))) (K (Exit.exit 0) (St.mk 44 [(0, AVal.str a), (1, AVal.str b), (5, AVal.int IntKind.i64 (↑i : Int)), (15, AVal.bool false)] [] [] Sto.empty))) := by kernel_rfl
noncomputable def ordF_S (a b : Txt) : St := St.mk 44 [(0, .str a), (1, .str b)] [] [] (Sto.empty)
theorem ordF_r (a b : Txt) (Q : AVal → Sto → Prop) : vc Try.prog cOrd code_14_1_1 (endK Try.prog Try.f14.results.toList Q) (St.mk 44 [(0, .str a), (1, .str b)] [] [] (Sto.empty)) =
  (brV (hold ((↑(List.length a) : Int) == (↑(List.length b) : Int))) true (Q (AVal.int IntKind.i64 (0 : Int)) Sto.empty) (Q (AVal.int IntKind.i64 (sgnN (hold (decide ((↑(List.length a) : Int) < (↑(List.length b) : Int)))))) Sto.empty)) := by kernel_rfl
theorem nan_r (a : Txt) (Q : AVal → Sto → Prop) : vc Try.prog cNan code_74_ (endK Try.prog Try.f74.results.toList Q) (St.start Try.f74.ntmps [.str a] (Sto.empty)) =
  (Q (AVal.bool (hold !a == a)) Sto.empty) := by kernel_rfl
theorem nan_i (a : Txt) (Q : AVal → Sto → Prop) (ho : OrcOk Try.prog cNan) (h : Q (AVal.bool (hold !a == a)) Sto.empty) : ACall Try.prog 74 [.str a] (Sto.empty) Q :=
  ACall.intro hmix Try.func74 (c := code_74_) (by kernel_rfl) cNan ho (Nat.le_of_ble_eq_true (by kernel_rfl)) (by rw [nan_r]; exact h)
theorem nan2_r (a : Txt) (Q : AVal → Sto → Prop) : vc Try.prog cNan2 code_65_ (endK Try.prog Try.f65.results.toList Q) (St.start Try.f65.ntmps [.str a] (Sto.empty)) =
  (Q (AVal.bool (hold !a == a)) Sto.empty) := by kernel_rfl
theorem nan2_i (a : Txt) (Q : AVal → Sto → Prop) (ho : OrcOk Try.prog cNan2) (h : Q (AVal.bool (hold !a == a)) Sto.empty) : ACall Try.prog 65 [.str a] (Sto.empty) Q :=
  ACall.intro hmix Try.func65 (c := code_65_) (by kernel_rfl) cNan2 ho (Nat.le_of_ble_eq_true (by kernel_rfl)) (by rw [nan2_r]; exact h)
theorem less_r (a b : Txt) (Q : AVal → Sto → Prop) : vc Try.prog cLess code_64_ (endK Try.prog Try.f64.results.toList Q) (St.start Try.f64.ntmps [.str a, .str b] (Sto.empty)) =
  (Q (AVal.bool (hold (Go.Op.bytesLess a b))) Sto.empty) := by kernel_rfl
theorem less_i (a b : Txt) (Q : AVal → Sto → Prop) (ho : OrcOk Try.prog cLess) (h : Q (AVal.bool (hold (Go.Op.bytesLess a b))) Sto.empty) : ACall Try.prog 64 [.str a, .str b] (Sto.empty) Q :=
  ACall.intro hmix Try.func64 (c := code_64_) (by kernel_rfl) cLess ho (Nat.le_of_ble_eq_true (by kernel_rfl)) (by rw [less_r]; exact h)
theorem bs_r (l : List Txt) (s : Txt) (Q : AVal → Sto → Prop) : vc Try.prog cBs code_35_ (endK Try.prog Try.f35.results.toList Q) (St.start Try.f35.ntmps [.slice (strv l) 1 .ro, .str s] (Sto.empty)) =
  (loopV (fun s => St.norm [] [0, 1, 6, 7, 8] [] s) (vc Try.prog cBs code_35_1_1_1_0_0_0) (blockK 0 (thenK (fun s => cutV (vc Try.prog cBs code_35_1_1_1_1 (endK Try.prog (Array.toList (Go.Func.results Try.f35)) Q)) (St.norm [] [0, 1, 6, 7] [] s)) (endK Try.prog (Array.toList (Go.Func.results Try.f35)) Q))) (St.mk 54 [(0, AVal.slice (strv l) 1 Tag.ro), (1, AVal.str s), (6, AVal.int IntKind.i64 (↑(List.length (strv l)) : Int)), (7, AVal.int IntKind.i64 (0 : Int)), (8, AVal.int IntKind.i64 (↑(List.length (strv l)) : Int))] [] [] Sto.empty)) := by kernel_rfl
theorem bs_i (l : List Txt) (s : Txt) (Q : AVal → Sto → Prop) (ho : OrcOk Try.prog cBs) (h : loopV (fun s => St.norm [] [0, 1, 6, 7, 8] [] s) (vc Try.prog cBs code_35_1_1_1_0_0_0) (blockK 0 (thenK (fun s => cutV (vc Try.prog cBs code_35_1_1_1_1 (endK Try.prog (Array.toList (Go.Func.results Try.f35)) Q)) (St.norm [] [0, 1, 6, 7] [] s)) (endK Try.prog (Array.toList (Go.Func.results Try.f35)) Q))) (St.mk 54 [(0, AVal.slice (strv l) 1 Tag.ro), (1, AVal.str s), (6, AVal.int IntKind.i64 (↑(List.length (strv l)) : Int)), (7, AVal.int IntKind.i64 (0 : Int)), (8, AVal.int IntKind.i64 (↑(List.length (strv l)) : Int))] [] [] Sto.empty)) : ACall Try.prog 35 [.slice (strv l) 1 .ro, .str s] (Sto.empty) Q :=
  ACall.intro hmix Try.func35 (c := code_35_) (by kernel_rfl) cBs ho (Nat.le_of_ble_eq_true (by kernel_rfl)) (by rw [bs_r]; exact h)
noncomputable def bsL_S (l : List Txt) (s : Txt) (n i j : Nat) : St := St.mk 54 [(0, .slice (strv l) 1 .ro), (1, .str s), (6, .int .i64 (n : Int)), (7, .int .i64 (i : Int)), (8, .int .i64 (j : Int))] [] [] (Sto.empty)
theorem bsL_r (l : List Txt) (s : Txt) (n i j : Nat) (L : St → Prop) (K : Exit → St → Prop) : vc Try.prog cBs code_35_1_1_1_0_0_0 (thenK (fun s => L (St.norm [] [0, 1, 6, 7, 8] [] s)) K) (St.mk 54 [(0, .slice (strv l) 1 .ro), (1, .str s), (6, .int .i64 (n : Int)), (7, .int .i64 (i : Int)), (8, .int .i64 (j : Int))] [] [] (Sto.empty)) =
  (brV (hold (decide ((↑i : Int) < (↑j : Int)))) true (gb (decide ((0 : Int) ≤ IntKind.wrap IntKind.i64 (Int.fdiv (IntKind.wrap IntKind.u64 (IntKind.wrap IntKind.i64 ((↑i : Int) + (↑j : Int)))) (2 : Int)) ∧ IntKind.wrap IntKind.i64 (Int.fdiv (IntKind.wrap IntKind.u64 (IntKind.wrap IntKind.i64 ((↑i : Int) + (↑j : Int)))) (2 : Int)) < (↑(List.length (strv l)) : Int))) (gb (decide (1 ≤ List.length (elemAt (strv l) (IntKind.wrap IntKind.i64 (Int.fdiv (IntKind.wrap IntKind.u64 (IntKind.wrap IntKind.i64 ((↑i : Int) + (↑j : Int)))) (2 : Int)))) ∧ 0 < 1) && etaOk Sh.str (List.getD (elemAt (strv l) (IntKind.wrap IntKind.i64 (Int.fdiv (IntKind.wrap IntKind.u64 (IntKind.wrap IntKind.i64 ((↑i : Int) + (↑j : Int)))) (2 : Int)))) 0 AVal.undef)) (brV (hold (tlt (AVal.strOf (List.getD (elemAt (strv l) (IntKind.wrap IntKind.i64 (Int.fdiv (IntKind.wrap IntKind.u64 (IntKind.wrap IntKind.i64 ((↑i : Int) + (↑j : Int)))) (2 : Int)))) 0 AVal.undef)) s)) true (L (St.mk 54 [(0, AVal.slice (strv l) 1 Tag.ro), (1, AVal.str s), (6, AVal.int IntKind.i64 (↑n : Int)), (7, AVal.int IntKind.i64 (IntKind.wrap IntKind.i64 (IntKind.wrap IntKind.i64 (Int.fdiv (IntKind.wrap IntKind.u64 (IntKind.wrap IntKind.i64 ((↑i : Int) + (↑j : Int)))) (2 : Int)) + (1 : Int)))), (8, AVal.int IntKind.i64 (↑j : Int))] [] [] Sto.empty)) (L (St.mk 54 [(0, AVal.slice (strv l) 1 Tag.ro), (1, AVal.str s), (6, AVal.int IntKind.i64 (↑n : Int)), (7, AVal.int IntKind.i64 (↑i : Int)), (8, AVal.int IntKind.i64 (IntKind.wrap IntKind.i64 (Int.fdiv (IntKind.wrap IntKind.u64 (IntKind.wrap IntKind.i64 ((↑i : Int) + (↑j : Int)))) (2 : Int))))] [] [] Sto.empty))))) (K (Exit.exit 0) (St.mk 54 [(0, AVal.slice (strv l) 1 Tag.ro), (1, AVal.str s), (6, AVal.int IntKind.i64 (↑n : Int)), (7, AVal.int IntKind.i64 (↑i : Int)), (8, AVal.int IntKind.i64 (↑j : Int)), (15, AVal.bool (hold (decide ((↑i : Int) < (↑j : Int)))))] [] [] Sto.empty))) := by kernel_rfl
noncomputable def bsF_S (l : List Txt) (s : Txt) (n i : Nat) : St := St.mk 54 [(0, .slice (strv l) 1 .ro), (1, .str s), (6, .int .i64 (n : Int)), (7, .int .i64 (i : Int))] [] [] (Sto.empty)
theorem bsF_r (l : List Txt) (s : Txt) (n i : Nat) (Q : AVal → Sto → Prop) : vc Try.prog cBs code_35_1_1_1_1 (endK Try.prog Try.f35.results.toList Q) (St.mk 54 [(0, .slice (strv l) 1 .ro), (1, .str s), (6, .int .i64 (n : Int)), (7, .int .i64 (i : Int))] [] [] (Sto.empty)) =
  (brV (hold (decide ((↑i : Int) < (↑n : Int)))) true (gb (decide ((0 : Int) ≤ (↑i : Int) ∧ (↑i : Int) < (↑(List.length (strv l)) : Int))) (gb (decide (1 ≤ List.length (elemAt (strv l) (↑i : Int)) ∧ 0 < 1) && etaOk Sh.str (List.getD (elemAt (strv l) (↑i : Int)) 0 AVal.undef)) (brV (hold (AVal.strOf (List.getD (elemAt (strv l) (↑i : Int)) 0 AVal.undef) == s)) false (gb (decide ((0 : Int) ≤ (↑i : Int) ∧ (↑i : Int) < (↑(List.length (strv l)) : Int))) (gb (decide (1 ≤ List.length (elemAt (strv l) (↑i : Int)) ∧ 0 < 1) && etaOk Sh.str (List.getD (elemAt (strv l) (↑i : Int)) 0 AVal.undef)) (Q (AVal.tuple [AVal.int IntKind.i64 (↑i : Int), AVal.bool false]) Sto.empty))) (Q (AVal.tuple [AVal.int IntKind.i64 (↑i : Int), AVal.bool true]) Sto.empty)))) (Q (AVal.tuple [AVal.int IntKind.i64 (↑i : Int), AVal.bool false]) Sto.empty)) := by kernel_rfl
theorem rise_r (l : List Txt) (Q : AVal → Sto → Prop) : vc Try.prog cRise code_71_ (endK Try.prog Try.f71.results.toList Q) (St.start Try.f71.ntmps [.slice (strv l) 1 .ro] (Sto.empty)) =
  (loopV (fun s => St.norm [] [0, 5, 6] [] s) (vc Try.prog cRise code_71_1_0_1_0_0) (blockK 0 (thenK (fun s => cutV (vc Try.prog cRise code_71_1_1 (endK Try.prog (Array.toList (Go.Func.results Try.f71)) Q)) (St.norm [] [] [] s)) (endK Try.prog (Array.toList (Go.Func.results Try.f71)) Q))) (St.mk 24 [(0, AVal.slice (strv l) 1 Tag.ro), (5, AVal.int IntKind.i64 (↑(List.length (strv l)) : Int)), (6, AVal.int IntKind.i64 (0 : Int))] [] [] Sto.empty)) := by kernel_rfl
theorem rise_i (l : List Txt) (Q : AVal → Sto → Prop) (ho : OrcOk Try.prog cRise) (h : loopV (fun s => St.norm [] [0, 5, 6] [] s) (vc Try.prog cRise code_71_1_0_1_0_0) (blockK 0 (thenK (fun s => cutV (vc Try.prog cRise code_71_1_1 (endK Try.prog (Array.toList (Go.Func.results Try.f71)) Q)) (St.norm [] [] [] s)) (endK Try.prog (Array.toList (Go.Func.results Try.f71)) Q))) (St.mk 24 [(0, AVal.slice (strv l) 1 Tag.ro), (5, AVal.int IntKind.i64 (↑(List.length (strv l)) : Int)), (6, AVal.int IntKind.i64 (0 : Int))] [] [] Sto.empty)) : ACall Try.prog 71 [.slice (strv l) 1 .ro] (Sto.empty) Q :=
  ACall.intro hmix Try.func71 (c := code_71_) (by kernel_rfl) cRise ho (Nat.le_of_ble_eq_true (by kernel_rfl)) (by rw [rise_r]; exact h)
noncomputable def riseLp_S (l : List Txt) (n i : Nat) : St := St.mk 24 [(0, .slice (strv l) 1 .ro), (5, .int .i64 (n : Int)), (6, .int .i64 (i : Int))] [] [] (Sto.empty)
theorem riseLp_r (l : List Txt) (n i : Nat) (L : St → Prop) (K : Exit → St → Prop) : vc Try.prog cRise code_71_1_0_1_0_0 (thenK (fun s => L (St.norm [] [0, 5, 6] [] s)) K) (St.mk 24 [(0, .slice (strv l) 1 .ro), (5, .int .i64 (n : Int)), (6, .int .i64 (i : Int))] [] [] (Sto.empty)) =
  (brV (hold (decide ((↑i : Int) < (↑n : Int)))) true (brV (hold (decide ((0 : Int) < (↑i : Int)))) true (gb (decide ((0 : Int) ≤ IntKind.wrap IntKind.i64 ((↑i : Int) - (1 : Int)) ∧ IntKind.wrap IntKind.i64 ((↑i : Int) - (1 : Int)) < (↑(List.length (strv l)) : Int))) (gb (decide (1 ≤ List.length (elemAt (strv l) (IntKind.wrap IntKind.i64 ((↑i : Int) - (1 : Int)))) ∧ 0 < 1) && etaOk Sh.str (List.getD (elemAt (strv l) (IntKind.wrap IntKind.i64 ((↑i : Int) - (1 : Int)))) 0 AVal.undef)) (gb (decide ((0 : Int) ≤ (↑i : Int) ∧ (↑i : Int) < (↑(List.length (strv l)) : Int))) (gb (decide (1 ≤ List.length (elemAt (strv l) (↑i : Int)) ∧ 0 < 1) && etaOk Sh.str (List.getD (elemAt (strv l) (↑i : Int)) 0 AVal.undef)) (brV (hold !Go.Op.bytesLess (AVal.strOf (List.getD (elemAt (strv l) (IntKind.wrap IntKind.i64 ((↑i : Int) - (1 : Int)))) 0 AVal.undef)) (AVal.strOf (List.getD (elemAt (strv l) (↑i : Int)) 0 AVal.undef))) true (K Exit.ret (St.mk 24 [(0, AVal.slice (strv l) 1 Tag.ro), (5, AVal.int IntKind.i64 (↑n : Int)), (6, AVal.int IntKind.i64 (↑i : Int)), (7, AVal.bool (hold (decide ((↑i : Int) < (↑n : Int))))), (3, AVal.int IntKind.i64 (↑i : Int)), (22, AVal.bool (hold !Go.Op.bytesLess (AVal.strOf (List.getD (elemAt (strv l) (IntKind.wrap IntKind.i64 ((↑i : Int) - (1 : Int)))) 0 AVal.undef)) (AVal.strOf (List.getD (elemAt (strv l) (↑i : Int)) 0 AVal.undef)))), (2, AVal.bool false)] [] [] Sto.empty)) (L (St.mk 24 [(0, AVal.slice (strv l) 1 Tag.ro), (5, AVal.int IntKind.i64 (↑n : Int)), (6, AVal.int IntKind.i64 (IntKind.wrap IntKind.i64 ((↑i : Int) + (1 : Int))))] [] [] Sto.empty))))))) (L (St.mk 24 [(0, AVal.slice (strv l) 1 Tag.ro), (5, AVal.int IntKind.i64 (↑n : Int)), (6, AVal.int IntKind.i64 (IntKind.wrap IntKind.i64 ((↑i : Int) + (1 : Int))))] [] [] Sto.empty))) (K (Exit.exit 0) (St.mk 24 [(0, AVal.slice (strv l) 1 Tag.ro), (5, AVal.int IntKind.i64 (↑n : Int)), (6, AVal.int IntKind.i64 (↑i : Int)), (7, AVal.bool (hold (decide ((↑i : Int) < (↑n : Int)))))] [] [] Sto.empty))) := by kernel_rfl
noncomputable def riseF_S  : St := St.mk 24 [] [] [] (Sto.empty)
theorem riseF_r  (Q : AVal → Sto → Prop) : vc Try.prog cRise code_71_1_1 (endK Try.prog Try.f71.results.toList Q) (St.mk 24 [] [] [] (Sto.empty)) =
  (Q (AVal.bool true) Sto.empty) := by kernel_rfl
theorem riseR_r (l : List Txt) (Q : AVal → Sto → Prop) : vc Try.prog cRiseR code_16_ (endK Try.prog Try.f16.results.toList Q) (St.start Try.f16.ntmps [.slice (strv l) 1 .ro] (Sto.empty)) =
  (loopV (fun s => St.norm [] [0, 3] [] s) (vc Try.prog cRiseR code_16_1_0_1_0_0) (blockK 0 (thenK (fun s => cutV (vc Try.prog cRiseR code_16_1_1 (endK Try.prog (Array.toList (Go.Func.results Try.f16)) Q)) (St.norm [] [] [] s)) (endK Try.prog (Array.toList (Go.Func.results Try.f16)) Q))) (St.mk 21 [(0, AVal.slice (strv l) 1 Tag.ro), (3, AVal.int IntKind.i64 (1 : Int))] [] [] Sto.empty)) := by kernel_rfl
theorem riseR_i (l : List Txt) (Q : AVal → Sto → Prop) (ho : OrcOk Try.prog cRiseR) (h : loopV (fun s => St.norm [] [0, 3] [] s) (vc Try.prog cRiseR code_16_1_0_1_0_0) (blockK 0 (thenK (fun s => cutV (vc Try.prog cRiseR code_16_1_1 (endK Try.prog (Array.toList (Go.Func.results Try.f16)) Q)) (St.norm [] [] [] s)) (endK Try.prog (Array.toList (Go.Func.results Try.f16)) Q))) (St.mk 21 [(0, AVal.slice (strv l) 1 Tag.ro), (3, AVal.int IntKind.i64 (1 : Int))] [] [] Sto.empty)) : ACall Try.prog 16 [.slice (strv l) 1 .ro] (Sto.empty) Q :=
  ACall.intro hmix Try.func16 (c := code_16_) (by kernel_rfl) cRiseR ho (Nat.le_of_ble_eq_true (by kernel_rfl)) (by rw [riseR_r]; exact h)
noncomputable def riseRL_S (l : List Txt) (i : Nat) : St := St.mk 21 [(0, .slice (strv l) 1 .ro), (3, .int .i64 (i : Int))] [] [] (Sto.empty)
theorem riseRL_r (l : List Txt) (i : Nat) (L : St → Prop) (K : Exit → St → Prop) : vc Try.prog cRiseR code_16_1_0_1_0_0 (thenK (fun s => L (St.norm [] [0, 3] [] s)) K) (St.mk 21 [(0, .slice (strv l) 1 .ro), (3, .int .i64 (i : Int))] [] [] (Sto.empty)) =
  (brV (hold (decide ((↑i : Int) < (↑(List.length (strv l)) : Int)))) true (gb (decide ((0 : Int) ≤ IntKind.wrap IntKind.i64 ((↑i : Int) - (1 : Int)) ∧ IntKind.wrap IntKind.i64 ((↑i : Int) - (1 : Int)) < (↑(List.length (strv l)) : Int))) (gb (decide (1 ≤ List.length (elemAt (strv l) (IntKind.wrap IntKind.i64 ((↑i : Int) - (1 : Int)))) ∧ 0 < 1) && etaOk Sh.str (List.getD (elemAt (strv l) (IntKind.wrap IntKind.i64 ((↑i : Int) - (1 : Int)))) 0 AVal.undef)) (gb (decide ((0 : Int) ≤ (↑i : Int) ∧ (↑i : Int) < (↑(List.length (strv l)) : Int))) (gb (decide (1 ≤ List.length (elemAt (strv l) (↑i : Int)) ∧ 0 < 1) && etaOk Sh.str (List.getD (elemAt (strv l) (↑i : Int)) 0 AVal.undef)) (gb (hold (decide (List.length (AVal.strOf (List.getD (elemAt (strv l) (IntKind.wrap IntKind.i64 ((↑i : Int) - (1 : Int)))) 0 AVal.undef)) ≤ 1000000))) (brV (hold (decide ((0 : Int) ≤ ordT (AVal.strOf (List.getD (elemAt (strv l) (IntKind.wrap IntKind.i64 ((↑i : Int) - (1 : Int)))) 0 AVal.undef)) (AVal.strOf (List.getD (elemAt (strv l) (↑i : Int)) 0 AVal.undef))))) true (K Exit.ret (St.mk 21 [(0, AVal.slice (strv l) 1 Tag.ro), (3, AVal.int IntKind.i64 (↑i : Int)), (7, AVal.bool (hold (decide ((↑i : Int) < (↑(List.length (strv l)) : Int))))), (20, AVal.bool (hold (decide ((0 : Int) ≤ ordT (AVal.strOf (List.getD (elemAt (strv l) (IntKind.wrap IntKind.i64 ((↑i : Int) - (1 : Int)))) 0 AVal.undef)) (AVal.strOf (List.getD (elemAt (strv l) (↑i : Int)) 0 AVal.undef)))))), (2, AVal.bool false)] [] [] Sto.empty)) (L (St.mk 21 [(0, AVal.slice (strv l) 1 Tag.ro), (3, AVal.int IntKind.i64 (IntKind.wrap IntKind.i64 ((↑i : Int) + (1 : Int))))] [] [] Sto.empty)))))))) (K (Exit.exit 0) (St.mk 21 [(0, AVal.slice (strv l) 1 Tag.ro), (3, AVal.int IntKind.i64 (↑i : Int)), (7, AVal.bool (hold (decide ((↑i : Int) < (↑(List.length (strv l)) : Int)))))] [] [] Sto.empty))) := by kernel_rfl
noncomputable def riseRF_S  : St := St.mk 21 [] [] [] (Sto.empty)
theorem riseRF_r  (Q : AVal → Sto → Prop) : vc Try.prog cRiseR code_16_1_1 (endK Try.prog Try.f16.results.toList Q) (St.mk 21 [] [] [] (Sto.empty)) =
  (Q (AVal.bool true) Sto.empty) := by kernel_rfl
theorem indexI_r (l : List Int) (n : Int) (Q : AVal → Sto → Prop) : vc Try.prog cIndexI code_68_ (endK Try.prog Try.f68.results.toList Q) (St.start Try.f68.ntmps [.slice (iv l) 1 .ro, .int .i64 n] (Sto.empty)) =
  (loopV (fun s => St.norm [] [0, 1, 7, 8] [] s) (vc Try.prog cIndexI code_68_1_0_1_0_0) (blockK 0 (thenK (vc Try.prog cIndexI code_68_1_1 (endK Try.prog (Array.toList (Go.Func.results Try.f68)) Q)) (endK Try.prog (Array.toList (Go.Func.results Try.f68)) Q))) (St.mk 19 [(0, AVal.slice (iv l) 1 Tag.ro), (1, AVal.int IntKind.i64 n), (7, AVal.int IntKind.i64 (↑(List.length (iv l)) : Int)), (8, AVal.int IntKind.i64 (0 : Int))] [] [] Sto.empty)) := by kernel_rfl
theorem indexI_i (l : List Int) (n : Int) (Q : AVal → Sto → Prop) (ho : OrcOk Try.prog cIndexI) (h : loopV (fun s => St.norm [] [0, 1, 7, 8] [] s) (vc Try.prog cIndexI code_68_1_0_1_0_0) (blockK 0 (thenK (vc Try.prog cIndexI code_68_1_1 (endK Try.prog (Array.toList (Go.Func.results Try.f68)) Q)) (endK Try.prog (Array.toList (Go.Func.results Try.f68)) Q))) (St.mk 19 [(0, AVal.slice (iv l) 1 Tag.ro), (1, AVal.int IntKind.i64 n), (7, AVal.int IntKind.i64 (↑(List.length (iv l)) : Int)), (8, AVal.int IntKind.i64 (0 : Int))] [] [] Sto.empty)) : ACall Try.prog 68 [.slice (iv l) 1 .ro, .int .i64 n] (Sto.empty) Q :=
  ACall.intro hmix Try.func68 (c := code_68_) (by kernel_rfl) cIndexI ho (Nat.le_of_ble_eq_true (by kernel_rfl)) (by rw [indexI_r]; exact h)
noncomputable def indexIL_S (l : List Int) (x : Int) (n i : Nat) : St := St.mk 19 [(0, .slice (iv l) 1 .ro), (1, .int .i64 x), (7, .int .i64 (n : Int)), (8, .int .i64 (i : Int))] [] [] (Sto.empty)
theorem indexIL_r (l : List Int) (x : Int) (n i : Nat) (L : St → Prop) (K : Exit → St → Prop) : vc Try.prog cIndexI code_68_1_0_1_0_0 (thenK (fun s => L (St.norm [] [0, 1, 7, 8] [] s)) K) (St.mk 19 [(0, .slice (iv l) 1 .ro), (1, .int .i64 x), (7, .int .i64 (n : Int)), (8, .int .i64 (i : Int))] [] [] (Sto.empty)) =
  (brV (hold (decide ((↑i : Int) < (↑n : Int)))) true (gb (decide ((0 : Int) ≤ (↑i : Int) ∧ (↑i : Int) < (↑(List.length (iv l)) : Int))) (gb (decide (1 ≤ List.length (elemAt (iv l) (↑i : Int)) ∧ 0 < 1) && etaOk (Sh.int IntKind.i64) (List.getD (elemAt (iv l) (↑i : Int)) 0 AVal.undef)) (brV (hold (x == AVal.intOf (List.getD (elemAt (iv l) (↑i : Int)) 0 AVal.undef))) true (K Exit.ret (St.mk 19 [(0, AVal.slice (iv l) 1 Tag.ro), (1, AVal.int IntKind.i64 x), (7, AVal.int IntKind.i64 (↑n : Int)), (8, AVal.int IntKind.i64 (↑i : Int)), (9, AVal.bool (hold (decide ((↑i : Int) < (↑n : Int))))), (5, AVal.int IntKind.i64 (↑i : Int)), (16, AVal.bool (hold (x == AVal.intOf (List.getD (elemAt (iv l) (↑i : Int)) 0 AVal.undef)))), (4, AVal.int IntKind.i64 (↑i : Int))] [] [] Sto.empty)) (L (St.mk 19 [(0, AVal.slice (iv l) 1 Tag.ro), (1, AVal.int IntKind.i64 x), (7, AVal.int IntKind.i64 (↑n : Int)), (8, AVal.int IntKind.i64 (IntKind.wrap IntKind.i64 ((↑i : Int) + (1 : Int))))] [] [] Sto.empty))))) (K (Exit.exit 0) (St.mk 19 [(0, AVal.slice (iv l) 1 Tag.ro), (1, AVal.int IntKind.i64 x), (7, AVal.int IntKind.i64 (↑n : Int)), (8, AVal.int IntKind.i64 (↑i : Int)), (9, AVal.bool (hold (decide ((↑i : Int) < (↑n : Int)))))] [] [] Sto.empty))) := by kernel_rfl
theorem containsI_r (l : List Int) (n : Int) (Q : AVal → Sto → Prop) : vc Try.prog cContainsI code_37_ (endK Try.prog Try.f37.results.toList Q) (St.start Try.f37.ntmps [.slice (iv l) 1 .ro, .int .i64 n] (Sto.empty)) =
  (∀ (y : Bool), y = List.contains (List.map AVal.intOf (iv l)) n → ∀ (y_1 : Int), (y_1 = if y = true then (↑(List.idxOf n (List.map AVal.intOf (iv l))) : Int) else (-1 : Int)) → gb (List.all (iv l) isI64 && lenOk (List.length (iv l))) (Q (AVal.bool (hold (decide ((0 : Int) ≤ y_1)))) Sto.empty)) := by kernel_rfl
theorem containsI_i (l : List Int) (n : Int) (Q : AVal → Sto → Prop) (ho : OrcOk Try.prog cContainsI) (h : ∀ (y : Bool), y = List.contains (List.map AVal.intOf (iv l)) n → ∀ (y_1 : Int), (y_1 = if y = true then (↑(List.idxOf n (List.map AVal.intOf (iv l))) : Int) else (-1 : Int)) → gb (List.all (iv l) isI64 && lenOk (List.length (iv l))) (Q (AVal.bool (hold (decide ((0 : Int) ≤ y_1)))) Sto.empty)) : ACall Try.prog 37 [.slice (iv l) 1 .ro, .int .i64 n] (Sto.empty) Q :=
  ACall.intro hmix Try.func37 (c := code_37_) (by kernel_rfl) cContainsI ho (Nat.le_of_ble_eq_true (by kernel_rfl)) (by rw [containsI_r]; exact h)
end Go.Proofs.Ytlfnmhfmikomkaa
end

section
namespace Go.Proofs.Ytlfnmhfmikomkaa
open Go.AL
set_option linter.unusedSimpArgs false
set_option linter.unusedVariables false
set_option maxHeartbeats 4000000
set_option maxRecDepth 20000

theorem wrap_u64 {n : Int} (h0 : 0 ≤ n) (h1 : n ≤ 18446744073709551615) : IntKind.u64.wrap n = n := by
  simp only [IntKind.wrap, IntKind.signed, IntKind.bits]
  simp
  omega
theorem mid_wrap {i j : Nat} (h : i ≤ j) (hj : j ≤ 140737488351232) : IntKind.i64.wrap (Int.fdiv (IntKind.u64.wrap (IntKind.i64.wrap ((i : Int) + (j : Int)))) 2) = (((i + j) / 2 : Nat) : Int) := by
  have e1 : IntKind.i64.wrap ((i : Int) + (j : Int)) = (i : Int) + (j : Int) := wrap_i64 (by omega) (by omega)
  have e2 : IntKind.u64.wrap ((i : Int) + (j : Int)) = (i : Int) + (j : Int) := wrap_u64 (by omega) (by omega)
  have e3 : Int.fdiv ((i : Int) + (j : Int)) 2 = (((i + j) / 2 : Nat) : Int) := by
    rw [Int.fdiv_eq_ediv_of_nonneg _ (by omega)]
    omega
  rw [e1, e2, e3, wrap_i64 (by omega) (by omega)]
theorem pred_wrap {i : Nat} (h : 0 < i) (hi : i ≤ 140737488351232) : IntKind.i64.wrap ((i : Int) - 1) = ((i - 1 : Nat) : Int) := by
  rw [wrap_i64 (by omega) (by omega)]; omega
theorem lenOk_of {n : Nat} (h : lenOk n = true) : n ≤ 140737488351232 := by simpa [lenOk] using h
theorem lenOk_mk {n : Nat} (h : n ≤ 140737488351232) : lenOk n = true := by simpa [lenOk] using h
theorem getD_one (a : AVal) : List.getD [a] 0 AVal.undef = a := rfl

theorem sign_ok : EntOk Try.prog signE := by
  intro xs σ; simp only [signE]; split
  · rename_i b
    intro _
    refine pcall_of (.refl _) (sign_i b _ (.of_none rfl) ?_) rfl rfl rfl rfl
    cases b <;> exact Wk.refl _
  · trivial

theorem ord_c (a b : Txt) (hl : a.length ≤ 1000000) : ACall Try.prog 14 [.str a, .str b] Sto.empty fun r _ => Wk r (.int .i64 (ordT a b)) := by
  refine ord_i _ _ _ (.of [signE] rfl ⟨sign_ok, trivial⟩) ?_
  refine loopV_intro (α := Nat) (fun i => ordL_S a b i) (fun i => i ≤ a.length ∧ i ≤ b.length ∧ a.take i = b.take i) (fun i => a.length - i) ?_ 0 ⟨Nat.zero_le _, Nat.zero_le _, rfl⟩
  rintro i ⟨hi, hj, hpre⟩ L hL
  refine Eq.mpr (ordL_r a b i L _) ?_
  simp only [hold_eq]
  have hd := ordT_drop hpre
  have fin : ¬ (i < a.length ∧ i < b.length) → (if a.length = b.length then (0 : Int) else sgnN (decide (a.length < b.length))) = ordT a b := by
    intro hn
    rw [hd]
    by_cases h1 : a.length = b.length
    · rw [if_pos h1]
      have : a = b := by
        have e1 : a.take i = a := List.take_of_length_le (by omega)
        have e2 : b.take i = b := List.take_of_length_le (by omega)
        rw [← e1, ← e2, hpre]
      subst this
      exact ((ordT_eq _ _).2 rfl).symm
    · rw [if_neg h1]
      by_cases h2 : a.length < b.length
      · have e1 : a.drop i = [] := List.drop_eq_nil_of_le (by omega)
        rw [e1]
        have hb : i < b.length := by omega
        rw [List.drop_eq_getElem_cons hb]
        unfold ordT
        rw [if_neg (by intro h; cases h), tlt_nil_cons]
        simp only [sgnN, h2, decide_true, if_true]
      · have e1 : b.drop i = [] := List.drop_eq_nil_of_le (by omega)
        rw [e1]
        have hb : i < a.length := by omega
        rw [List.drop_eq_getElem_cons hb]
        unfold ordT
        rw [if_neg (by intro h; cases h), tlt_nil_right]
        simp only [sgnN, h2, decide_false, if_false, Bool.false_eq_true]
  have leave : ¬ (i < a.length ∧ i < b.length) → Go.AL.cutV (Go.AL.vc Try.prog cOrd code_14_1_1 (Go.AL.endK Try.prog Try.f14.results.toList fun r _ => Wk r (.int .i64 (ordT a b)))) (ordF_S a b) := by
    intro hn
    refine toCut (Eq.mpr (ordF_r a b _) ?_)
    simp only [hold_eq]
    rw [← fin hn]
    refine brV_by (fun h => ?_) (fun h => ?_)
    · have h : a.length = b.length := by simp at h; omega
      rw [if_pos h]; exact Wk.refl _
    · have h : ¬ a.length = b.length := by simp at h; omega
      rw [if_neg h]
      have : (decide ((a.length : Int) < (b.length : Int))) = decide (a.length < b.length) := by simp
      rw [this]
      exact Wk.refl _
  refine brV_by (fun h => ?_) (fun h => ?_)
  · have h1 : i < a.length := by simpa using h
    refine brV_by (fun h => ?_) (fun h => ?_)
    · have h2 : i < b.length := by simpa using h
      refine gb_by (dt (by omega)) (gb_by (dt (by omega)) ?_)
      have g1 : List.getD a (Int.toNat (i : Int)) 0 = a[i] := by simp [h1]
      have g2 : List.getD b (Int.toNat (i : Int)) 0 = b[i] := by simp [h2]
      rw [g1, g2]
      refine brV_by (fun hne => ?_) (fun he => ?_)
      · have hne : a[i] ≠ b[i] := by
          intro e; rw [e] at hne; simp at hne
        refine gb_by (dt (by omega)) (gb_by (dt (by omega)) ?_)
        have : ordT a b = sgnN (decide ((a[i].toNat : Int) < (b[i].toNat : Int))) := by
          rw [hd, List.drop_eq_getElem_cons h1, List.drop_eq_getElem_cons h2, ordT_cons hne]
          congr 1
          rw [decide_eq_decide]
          show a[i].toNat < b[i].toNat ↔ _
          omega
        rw [this]
        exact Wk.refl _
      · have he : a[i] = b[i] := by
          have : a[i].toNat = b[i].toNat := by simp at he; omega
          exact UInt8.toNat_inj.1 this
        rw [i64_succ h1 (by omega)]
        refine hL (i + 1) ⟨h1, h2, ?_⟩ (by omega)
        rw [List.take_succ_eq_append_getElem h1, List.take_succ_eq_append_getElem h2, hpre, he]
    · have h2 : ¬ i < b.length := by simpa using h
      exact leaveTo (leave fun h => h2 h.2)
  · have h1 : ¬ i < a.length := by simpa using h
    exact leaveTo (leave fun h => h1 h.1)

theorem ord_ok : EntOk Try.prog ordE := by
  intro xs σ; simp only [ordE]; split
  · rename_i a b
    intro hc
    simp only [hold_eq, decide_eq_true_eq] at hc
    exact pcall_of (.refl _) (ord_c a b hc) rfl rfl rfl rfl
  · trivial

theorem nan_ok : EntOk Try.prog nanE := by
  intro xs σ; simp only [nanE]; split
  · rename_i a
    intro _
    refine pcall_of (.refl _) (nan_i a _ (.of_none rfl) ?_) rfl rfl rfl rfl
    simp only [hold_eq, beq_self_eq_true, Bool.not_true]
    exact Wk.refl _
  · trivial
theorem nan2_ok : EntOk Try.prog nan2E := by
  intro xs σ; simp only [nan2E]; split
  · rename_i a
    intro _
    refine pcall_of (.refl _) (nan2_i a _ (.of_none rfl) ?_) rfl rfl rfl rfl
    simp only [hold_eq, beq_self_eq_true, Bool.not_true]
    exact Wk.refl _
  · trivial
theorem less_ok : EntOk Try.prog lessE := by
  intro xs σ; simp only [lessE]; split
  · rename_i a b
    intro _
    refine pcall_of (.refl _) (less_i a b _ (.of [nanE] rfl ⟨nan_ok, trivial⟩) ?_) rfl rfl rfl rfl
    simp only [hold_eq]
    exact Wk.refl _
  · trivial

theorem bs_c (l : List Txt) (s : Txt) (hr : riseL l = true) (hl : l.length ≤ 140737488351232) : ACall Try.prog 35 [.slice (strv l) 1 .ro, .str s] Sto.empty fun r _ => Wk r (.tuple [.int .i64 (posN l s : Int), .bool (l.contains s)]) := by
  refine bs_i _ _ _ (.of [lessE, nan2E] rfl ⟨less_ok, nan2_ok, trivial⟩) ?_
  have hn : (strv l).length = l.length := strv_length l
  refine loopV_intro (α := Nat × Nat) (fun x => bsL_S l s (strv l).length x.1 x.2) (fun x => x.1 ≤ x.2 ∧ x.2 ≤ l.length ∧ x.1 ≤ posN l s ∧ posN l s ≤ x.2) (fun x => x.2 - x.1) ?_ (0, (strv l).length) ⟨Nat.zero_le _, by simp, Nat.zero_le _, by simp only [hn]; exact posN_le _ _⟩
  rintro ⟨i, j⟩ ⟨hij, hj, h1, h2⟩ L hL
  simp only [] at hij hj h1 h2
  refine Eq.mpr (bsL_r l s _ i j L _) ?_
  simp only [hold_eq]
  rw [mid_wrap hij (by omega)]
  refine brV_by (fun h => ?_) (fun h => ?_)
  · have hlt : i < j := by simpa using h
    have hm : (i + j) / 2 < l.length := by omega
    rw [elemAt_strv l _ hm]
    refine gb_by (dt (by omega)) (gb_by rfl (brV_by (fun h => ?_) (fun h => ?_)))
    · have := (posN_lt hr s _ hm).1 h
      rw [i64_succ hm hl]
      exact hL ((i + j) / 2 + 1, j) ⟨by simp only []; omega, hj, by simp only []; omega, h2⟩ (by simp only []; omega)
    · have hnl : ¬ (i + j) / 2 < posN l s := fun h3 => by
        have := (posN_lt hr s _ hm).2 h3
        have h : tlt l[(i + j) / 2] s = false := h
        rw [h] at this; cases this
      exact hL (i, (i + j) / 2) ⟨by simp only []; omega, by simp only []; omega, h1, by simp only []; omega⟩ (by simp only []; omega)
  · have hge : i = j := by simp at h; omega
    subst hge
    have hp : posN l s = i := by omega
    refine leaveTo (toCut (Eq.mpr (bsF_r l s _ i _) ?_))
    simp only [hold_eq]
    have hc := contains_pos hr s
    rw [hp] at hc
    rw [hp]
    refine brV_by (fun h => ?_) (fun h => ?_)
    · have hlt : i < l.length := by simpa using h
      rw [elemAt_strv l i hlt]
      have hg : l.getD i [] = l[i] := by simp [hlt]
      rw [hg] at hc
      refine gb_by (dt (by omega)) (gb_by rfl (brV_by' (fun h => ?_) (fun h => ?_)))
      · have h : (l[i] == s) = false := h
        rw [h] at hc
        rw [hc]
        refine gb_by (dt (by omega)) (gb_by rfl ?_)
        simp
        exact Wk.refl _
      · have h : (l[i] == s) = true := h
        rw [h] at hc
        rw [hc]
        simp [hlt]
        exact Wk.refl _
    · have hge : ¬ i < l.length := by simpa using h
      rw [hc]
      simp [hge]
      exact Wk.refl _

theorem bs_ok : EntOk Try.prog bsE := by
  intro xs σ; simp only [bsE]; split
  · rename_i es s t x
    intro hc
    simp only [Bool.and_eq_true, hold_eq] at hc
    obtain ⟨h1, h2, h3, h4⟩ := hc
    simp only [hold_eq]
    exact pcall_of (.cons (wk_strv t h1 h2) (.refl _)) (bs_c _ x h3 (by simpa using lenOk_of h4)) (by simp only [noOutL, AVal.noOut, strv_noOut, Bool.and_true]) (by simp only [noTokL, AVal.noTok, strv_noTok, Tag.below, Bool.and_true]) rfl rfl
  · trivial

theorem rise_c (l : List Txt) (hl : l.length ≤ 140737488351232) : ACall Try.prog 71 [.slice (strv l) 1 .ro] Sto.empty fun r _ => Wk r (.bool (riseL l)) := by
  refine rise_i _ _ (.of_none rfl) ?_
  have hn : (strv l).length = l.length := strv_length l
  refine loopV_intro (α := Nat) (fun i => riseLp_S l (strv l).length i) (fun i => i ≤ l.length ∧ ∀ j (hj : j + 1 < l.length), j + 1 < i → tlt l[j] l[j + 1] = true) (fun i => l.length - i) ?_ 0 ⟨Nat.zero_le _, fun j _ h => by omega⟩
  rintro i ⟨hi, hpre⟩ L hL
  refine Eq.mpr (riseLp_r l _ i L _) ?_
  simp only [hold_eq]
  refine brV_by (fun h => ?_) (fun h => ?_)
  · have hlt : i < l.length := by simpa using h
    rw [i64_succ hlt hl]
    refine brV_by (fun h => ?_) (fun h => ?_)
    · have h0 : 0 < i := by simpa using h
      rw [pred_wrap h0 (by omega), elemAt_strv l (i - 1) (by omega), elemAt_strv l i hlt]
      refine gb_by (dt (by omega)) (gb_by rfl (gb_by (dt (by omega)) (gb_by rfl (brV_by (fun h => ?_) (fun h => ?_)))))
      · have h : (!tlt l[i - 1] l[i]) = true := h
        have : riseL l = false := by
          cases hr : riseL l with
          | false => rfl
          | true =>
            have := riseL_get hr (i := i - 1) (j := i) (by omega) hlt
            rw [this] at h; cases h
        rw [this]; exact Wk.refl _
      · have h : (!tlt l[i - 1] l[i]) = false := h
        refine hL (i + 1) ⟨hlt, fun j hj hji => ?_⟩ (by omega)
        rcases Nat.lt_or_ge (j + 1) i with h1 | h1
        · exact hpre j hj h1
        · obtain rfl : i = j + 1 := by omega
          simpa using h
    · have h0 : i = 0 := by simp at h; omega
      subst h0
      exact hL 1 ⟨hlt, fun j hj hji => by omega⟩ (by omega)
  · have hge : ¬ i < l.length := by simpa using h
    refine leaveTo (toCut (Eq.mpr (riseF_r _) ?_))
    have : riseL l = true := riseL_of fun j hj => hpre j hj (by omega)
    rw [this]; exact Wk.refl _

theorem rise_ok : EntOk Try.prog riseE := by
  intro xs σ; simp only [riseE]; split
  · rename_i es s t
    intro hc
    simp only [Bool.and_eq_true, hold_eq] at hc
    obtain ⟨h1, h2, h4⟩ := hc
    simp only [hold_eq]
    exact pcall_of (.cons (wk_strv t h1 h2) (.refl _)) (rise_c _ (by simpa using lenOk_of h4)) (by simp only [noOutL, AVal.noOut, strv_noOut, Bool.and_true]) (by simp only [noTokL, AVal.noTok, strv_noTok, Tag.below, Bool.and_true]) rfl rfl
  · trivial

theorem short_get {l : List Txt} (h : shortL l = true) {i : Nat} (hi : i < l.length) : l[i].length ≤ 1000000 := by
  simp only [shortL, List.all_eq_true, decide_eq_true_eq] at h
  exact h _ (List.getElem_mem hi)

theorem riseR_c (l : List Txt) (hs : shortL l = true) (hl : l.length ≤ 140737488351232) : ACall Try.prog 16 [.slice (strv l) 1 .ro] Sto.empty fun r _ => Wk r (.bool (riseL l)) := by
  refine riseR_i _ _ (.of [ordE] rfl ⟨ord_ok, trivial⟩) ?_
  have hn : (strv l).length = l.length := strv_length l
  refine loopV_intro (α := Nat) (fun i => riseRL_S l i) (fun i => 1 ≤ i ∧ (i ≤ l.length ∨ i = 1) ∧ ∀ j (hj : j + 1 < l.length), j + 1 < i → tlt l[j] l[j + 1] = true) (fun i => l.length - i) ?_ 1 ⟨Nat.le_refl _, .inr rfl, fun j _ h => by omega⟩
  rintro i ⟨hi1, hi, hpre⟩ L hL
  refine Eq.mpr (riseRL_r l i L _) ?_
  simp only [hold_eq]
  refine brV_by (fun h => ?_) (fun h => ?_)
  · have hlt : i < l.length := by simpa using h
    rw [i64_succ hlt hl, pred_wrap hi1 (by omega), elemAt_strv l (i - 1) (by omega), elemAt_strv l i hlt]
    refine gb_by (dt (by omega)) (gb_by rfl (gb_by (dt (by omega)) (gb_by rfl (gb_by (dt (short_get hs _)) (brV_by (fun h => ?_) (fun h => ?_))))))
    · have h : tlt l[i - 1] l[i] = false := ordT_ge'.1 (of_decide_eq_true h)
      have : riseL l = false := by
        cases hr : riseL l with
        | false => rfl
        | true =>
          have := riseL_get hr (i := i - 1) (j := i) (by omega) hlt
          rw [this] at h; cases h
      rw [this]; exact Wk.refl _
    · have h : ¬ tlt l[i - 1] l[i] = false := fun e => of_decide_eq_false h (ordT_ge'.2 e)
      refine hL (i + 1) ⟨by omega, .inl hlt, fun j hj hji => ?_⟩ (by omega)
      rcases Nat.lt_or_ge (j + 1) i with h1 | h1
      · exact hpre j hj h1
      · obtain rfl : i = j + 1 := by omega
        simpa using h
  · have hge : ¬ i < l.length := by simpa using h
    refine leaveTo (toCut (Eq.mpr (riseRF_r _) ?_))
    have : riseL l = true := riseL_of fun j hj => hpre j hj (by omega)
    rw [this]; exact Wk.refl _

theorem riseR_ok : EntOk Try.prog riseRE := by
  intro xs σ; simp only [riseRE]; split
  · rename_i es s t
    intro hc
    simp only [Bool.and_eq_true, hold_eq] at hc
    obtain ⟨h1, h2, h3, h4⟩ := hc
    simp only [hold_eq]
    exact pcall_of (.cons (wk_strv t h1 h2) (.refl _)) (riseR_c _ h3 (by simpa using lenOk_of h4)) (by simp only [noOutL, AVal.noOut, strv_noOut, Bool.and_true]) (by simp only [noTokL, AVal.noTok, strv_noTok, Tag.below, Bool.and_true]) rfl rfl
  · trivial

theorem indexI_c (l : List Int) (x : Int) (hl : l.length ≤ 140737488351232) : ACall Try.prog 68 [.slice (iv l) 1 .ro, .int .i64 x] Sto.empty fun r _ => Wk r (.int .i64 (if l.contains x then (l.idxOf x : Int) else -1)) := by
  refine indexI_i _ _ _ (.of_none rfl) ?_
  have hn : (iv l).length = l.length := iv_length l
  refine loopV_intro (α := Nat) (fun i => indexIL_S l x (iv l).length i) (fun i => i ≤ l.length ∧ ∀ y ∈ l.take i, y ≠ x) (fun i => l.length - i) ?_ 0 ⟨Nat.zero_le _, fun x hx => by simp at hx⟩
  rintro i ⟨hi, hpre⟩ L hL
  refine Eq.mpr (indexIL_r l x _ i L _) ?_
  simp only [hold_eq]
  refine brV_by (fun h => ?_) (fun h => ?_)
  · have hlt : i < l.length := by simpa using h
    rw [i64_succ hlt hl, elemAt_iv l i hlt]
    refine gb_by (dt (by omega)) (gb_by rfl (brV_by (fun h => ?_) (fun h => ?_)))
    · have e : x = l[i] := by
        have h : (x == l[i]) = true := h
        simpa using h
      have hc : l.contains x = true := by rw [e]; simp
      have hx : l.idxOf x = i := by
        unfold List.idxOf
        rw [List.findIdx_eq hlt]
        refine ⟨by simp [e], fun j hj => ?_⟩
        have := hpre l[j] (List.mem_take_iff_getElem.2 ⟨j, by omega, rfl⟩)
        simpa using this
      rw [if_pos hc, hx]
      exact Wk.refl _
    · have e : x ≠ l[i] := by
        have h : (x == l[i]) = false := h
        simpa using h
      refine hL (i + 1) ⟨hlt, fun y hy => ?_⟩ (by omega)
      rw [List.take_succ_eq_append_getElem hlt] at hy
      rcases List.mem_append.1 hy with h1 | h1
      · exact hpre y h1
      · simp at h1; subst h1; exact fun e' => e e'.symm
  · have hge : ¬ i < l.length := by simpa using h
    rw [List.take_of_length_le (by omega)] at hpre
    have hc : ¬ l.contains x = true := by
      intro hc
      have : x ∈ l := by simpa using hc
      exact hpre x this rfl
    rw [if_neg hc]
    exact Wk.refl _

theorem indexI_ok : EntOk Try.prog indexIE := by
  intro xs σ; simp only [indexIE]; split
  · rename_i es s t n
    intro hc
    simp only [Bool.and_eq_true, hold_eq] at hc
    obtain ⟨h1, h2, h3⟩ := hc
    exact pcall_of (.cons (wk_iv t h1 h2) (.refl _)) (indexI_c _ n (by simpa using lenOk_of h3)) (by simp only [noOutL, AVal.noOut, iv_noOut, Bool.and_true]) (by simp only [noTokL, AVal.noTok, iv_noTok, Bool.and_true, Tag.below]) rfl rfl
  · trivial

theorem containsI_c (l : List Int) (n : Int) (hl : l.length ≤ 140737488351232) : ACall Try.prog 37 [.slice (iv l) 1 .ro, .int .i64 n] Sto.empty fun r _ => Wk r (.bool (l.contains n)) := by
  refine containsI_i _ _ _ (.of [indexIE] rfl ⟨indexI_ok, trivial⟩) ?_
  simp only [hold_eq, iv_length, iv_isI64, okW_same, map_intOf_iv]
  intro y hy i hi
  have hy : y = l.contains n := hy
  subst hy
  refine gb_by (by simp [lenOk_mk hl]) ?_
  have : decide (0 ≤ i) = l.contains n := by
    have hn : i = if l.contains n = true then (l.idxOf n : Int) else -1 := hi
    rw [hn]
    cases h : l.contains n with
    | true => simp
    | false => simp
  rw [this]
  exact Wk.refl _

theorem containsI_ok : EntOk Try.prog containsIE := by
  intro xs σ; simp only [containsIE]; split
  · rename_i es s t n
    intro hc
    simp only [Bool.and_eq_true, hold_eq] at hc
    obtain ⟨h1, h2, h3⟩ := hc
    simp only [hold_eq]
    exact pcall_of (.cons (wk_iv t h1 h2) (.refl _)) (containsI_c _ n (by simpa using lenOk_of h3)) (by simp only [noOutL, AVal.noOut, iv_noOut, Bool.and_true]) (by simp only [noTokL, AVal.noTok, iv_noTok, Bool.and_true, Tag.below]) rfl rfl
  · trivial
end Go.Proofs.Ytlfnmhfmikomkaa
end
