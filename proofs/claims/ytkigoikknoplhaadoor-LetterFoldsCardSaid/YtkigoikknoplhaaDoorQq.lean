/-
  Seat 01 (letter): the plain laws: the order of texts, cuts, patterns, folds.
-/
import Derived.Test.YtkigoikknoplhaaDoorQu
namespace Go.AL
set_option linter.unusedSimpArgs false
set_option linter.unusedVariables false
set_option maxRecDepth 20000

/-! ### The order -/
theorem cmpR_range : ∀ a b : List Int, cmpR a b = -1 ∨ cmpR a b = 0 ∨ cmpR a b = 1
  | [], [] => by simp [cmpR]
  | [], _ :: _ => by simp [cmpR]
  | _ :: _, [] => by simp [cmpR]
  | x :: a, y :: b => by
    rw [cmpR]
    split
    · simp
    · split
      · simp
      · exact cmpR_range a b
theorem cmpR_swap : ∀ a b : List Int, cmpR b a = - cmpR a b
  | [], [] => rfl
  | [], _ :: _ => rfl
  | _ :: _, [] => rfl
  | x :: a, y :: b => by
    rw [cmpR, cmpR]
    have := cmpR_swap a b
    repeat' split
    all_goals omega
theorem cmpR_self : ∀ a : List Int, cmpR a a = 0
  | [] => rfl
  | x :: a => by rw [cmpR, if_neg (by omega), if_neg (by omega)]; exact cmpR_self a
theorem cmpR_eq : ∀ {a b : List Int}, cmpR a b = 0 → a = b
  | [], [], _ => rfl
  | [], _ :: _, h => by simp [cmpR] at h
  | _ :: _, [], h => by simp [cmpR] at h
  | x :: a, y :: b, h => by
    rw [cmpR] at h
    split at h
    · omega
    · split at h
      · omega
      · have : x = y := by omega
        rw [this, cmpR_eq h]
theorem cmpR_trans : ∀ a b c : List Int, cmpR a b ≤ 0 → cmpR b c ≤ 0 → cmpR a c ≤ 0
  | [], _, [], _, _ => by simp [cmpR]
  | [], _, _ :: _, _, _ => by simp [cmpR]
  | _ :: _, [], _, h, _ => by simp [cmpR] at h
  | _ :: _, _ :: _, [], _, h => by simp [cmpR] at h
  | x :: a, y :: b, z :: c, h1, h2 => by
    rw [cmpR] at h1 h2 ⊢
    have ih := cmpR_trans a b c
    split at h1
    · split at h2
      · rw [if_pos (by omega)]; omega
      · split at h2
        · omega
        · rw [if_pos (by omega)]; omega
    · split at h1
      · omega
      · split at h2
        · rw [if_pos (by omega)]; omega
        · split at h2
          · omega
          · rw [if_neg (by omega), if_neg (by omega)]
            exact ih h1 h2
theorem cmpR_head : ∀ h a b : List Int, cmpR (h ++ a) (h ++ b) = cmpR a b
  | [], a, b => rfl
  | x :: h, a, b => by
    rw [List.cons_append, List.cons_append, cmpR, if_neg (by omega), if_neg (by omega)]
    exact cmpR_head h a b
theorem cmpR_more (a b : List Int) : cmpR a (a ++ b) = if b = [] then 0 else -1 := by
  have := cmpR_head a [] b
  rw [List.append_nil] at this
  rw [this]
  cases b with
  | nil => rfl
  | cons x b => rfl

/-! ### Cuts -/
theorem posT_shift (s : Txt) : ∀ (k p x : Nat), posT s k (p + x) = p + posT (s.drop p) k x
  | 0, p, x => rfl
  | k + 1, p, x => by
    have hw : decW s (p + x) = decW (s.drop p) x := by rw [decW_L, decW_L, List.drop_drop]
    rw [posT, posT, List.length_drop]
    by_cases h : p + x < s.length
    · rw [if_pos h, if_pos (by omega), hw, Nat.add_assoc, posT_shift s k p]
    · rw [if_neg h, if_neg (by omega)]
theorem posT_ge (s : Txt) : ∀ (k p : Nat), p ≤ posT s k p
  | 0, p => Nat.le_refl _
  | k + 1, p => by
    rw [posT]
    split
    · have := posT_ge s k (p + decW s p); omega
    · exact Nat.le_refl _
theorem posT_le (s : Txt) : ∀ (k p : Nat), p ≤ s.length → posT s k p ≤ s.length
  | 0, p, h => h
  | k + 1, p, h => by
    rw [posT]
    split
    · rename_i hp
      exact posT_le s k _ (decW_le hp)
    · exact h
theorem rest_pos (s : Txt) : ∀ (k p : Nat), restR s (posT s k p) = (restR s p).drop k
  | 0, p => rfl
  | k + 1, p => by
    rw [posT]
    split
    · rename_i hp
      rw [rest_pos s k, restR_step hp, List.drop_succ_cons]
    · rename_i hp
      rw [restR_end (by omega)]; rfl
theorem decN_le {n b0 b1 b2 b3 : Nat} (h0 : 0 < n) : (Lib.decodeN n b0 b1 b2 b3).2 ≤ n := by
  rcases Lib.decodeN_shape n b0 b1 b2 b3 with ⟨c, e⟩ | ⟨c1, c2, c3, cv, e⟩ | ⟨c1, c2, c3, c4, cv, cs, e⟩ | ⟨c1, c2, c3, c4, c5, cv, cw, e⟩ | e
  all_goals rw [e]; dsimp only; omega
theorem getD_takeT (l : Txt) {m j : Nat} (h : j < m) : (l.take m).getD j 0 = l.getD j 0 := by
  simp [List.getD, List.getElem?_take, h]
/-- What stands behind a rune does not matter to it. -/
theorem dec_take (l : Txt) (m : Nat) (hm : (Lib.decodeL l).2 ≤ m) (h1 : 1 ≤ m) : Lib.decodeL (l.take m) = Lib.decodeL l := by
  rw [Lib.decodeL_N] at hm ⊢
  rw [Lib.decodeL_N]
  have ht : (l.take m).length = min m l.length := List.length_take
  have e0 : (l.take m).getD 0 0 = l.getD 0 0 := getD_takeT l (by omega)
  have e1 : 2 ≤ m → (l.take m).getD 1 0 = l.getD 1 0 := fun h => getD_takeT l (by omega)
  have e2 : 3 ≤ m → (l.take m).getD 2 0 = l.getD 2 0 := fun h => getD_takeT l (by omega)
  have e3 : 4 ≤ m → (l.take m).getD 3 0 = l.getD 3 0 := fun h => getD_takeT l (by omega)
  rw [e0]
  generalize (l.getD 0 0).toNat = b0 at *
  have key : ∀ (n n' b1 b2 b3 c1 c2 c3 w : Nat), (Lib.decodeN n b0 b1 b2 b3).2 = w → Lib.decodeN n b0 b1 b2 b3 ≠ (65533, 1) → w ≤ n' → (2 ≤ w → c1 = b1) → (3 ≤ w → c2 = b2) → (4 ≤ w → c3 = b3) → Lib.decodeN n' b0 c1 c2 c3 = Lib.decodeN n b0 b1 b2 b3 := by
    intro n n' b1 b2 b3 c1 c2 c3 w hw hne hn h1 h2 h3
    rcases Lib.decodeN_shape n b0 b1 b2 b3 with ⟨c, e⟩ | ⟨k1, k2, k3, kv, e⟩ | ⟨k1, k2, k3, k4, kv, ks, e⟩ | ⟨k1, k2, k3, k4, k5, kv, kw, e⟩ | e
    · rw [e]; unfold Lib.decodeN; rw [if_pos c]
    · rw [e] at hw ⊢
      have hw : 2 = w := hw
      rw [h1 (by omega)]
      unfold Lib.decodeN; rw [if_neg (by omega), if_pos ⟨k1, by omega, k3⟩, if_pos (by omega)]
    · rw [e] at hw ⊢
      have hw : 3 = w := hw
      rw [h1 (by omega), h2 (by omega)]
      unfold Lib.decodeN; rw [if_neg (by omega), if_neg (by omega), if_pos ⟨k1, ⟨by omega, k3⟩, by omega, k4⟩, if_pos ⟨by omega, by omega⟩]
    · rw [e] at hw ⊢
      have hw : 4 = w := hw
      rw [h1 (by omega), h2 (by omega), h3 (by omega)]
      unfold Lib.decodeN; rw [if_neg (by omega), if_neg (by omega), if_neg (by omega), if_pos ⟨k1, ⟨by omega, k3⟩, ⟨by omega, k4⟩, by omega, k5⟩, if_pos ⟨by omega, by omega⟩]
    · exact absurd e hne
  by_cases hO : Lib.decodeN l.length b0 (l.getD 1 0).toNat (l.getD 2 0).toNat (l.getD 3 0).toNat = (65533, 1)
  · by_cases hT : Lib.decodeN (l.take m).length b0 ((l.take m).getD 1 0).toNat ((l.take m).getD 2 0).toNat ((l.take m).getD 3 0).toNat = (65533, 1)
    · rw [hT, hO]
    · by_cases hl : l.length = 0
      · have : l = [] := List.eq_nil_of_length_eq_zero hl
        subst this; simp
      · have hle := decN_le (n := (l.take m).length) (b0 := b0) (b1 := ((l.take m).getD 1 0).toNat) (b2 := ((l.take m).getD 2 0).toNat) (b3 := ((l.take m).getD 3 0).toNat) (by rw [ht]; omega)
        refine (key _ l.length _ _ _ _ _ _ _ rfl hT (by omega) (fun h => ?_) (fun h => ?_) (fun h => ?_)).symm
        · rw [e1 (by omega)]
        · rw [e2 (by omega)]
        · rw [e3 (by omega)]
  · by_cases hl : l.length = 0
    · have : l = [] := List.eq_nil_of_length_eq_zero hl
      subst this; simp
    · have hle := decN_le (n := l.length) (b0 := b0) (b1 := (l.getD 1 0).toNat) (b2 := (l.getD 2 0).toNat) (b3 := (l.getD 3 0).toNat) (by omega)
      refine key _ _ _ _ _ _ _ _ _ rfl hO (by omega) (fun h => ?_) (fun h => ?_) (fun h => ?_)
      · rw [e1 (by omega)]
      · rw [e2 (by omega)]
      · rw [e3 (by omega)]
theorem dec_pre {s : Txt} {p q : Nat} (hp : p < s.length) (hq : p + decW s p ≤ q) : decR (s.take q) p = decR s p ∧ decW (s.take q) p = decW s p := by
  have hw := decW_pos hp
  rw [decW_L] at hq hw
  have : (s.take q).drop p = (s.drop p).take (q - p) := List.drop_take
  rw [decR_L, decW_L, decR_L, decW_L, this, dec_take _ _ (by omega) (by omega)]
  exact ⟨rfl, rfl⟩
theorem rest_take (s : Txt) : ∀ (k p : Nat), p ≤ s.length → restR (s.take (posT s k p)) p = (restR s p).take k
  | 0, p, h => by
    rw [posT, restR_end (by rw [List.length_take]; omega)]; rfl
  | k + 1, p, h => by
    rw [posT]
    split
    · rename_i hp
      have hw := decW_pos hp
      have hg := posT_ge s k (p + decW s p)
      have hle := posT_le s k (p + decW s p) (decW_le hp)
      obtain ⟨d1, d2⟩ := dec_pre hp hg
      rw [restR_step (s := s.take _) (by rw [List.length_take]; omega), d1, d2, rest_take s k _ (decW_le hp), restR_step hp, List.take_succ_cons]
    · rename_i hp
      rw [restR_end (by rw [List.length_take]; omega), restR_end (s := s) (by omega)]; rfl
theorem pos_take (s : Txt) : ∀ (j k p : Nat), p ≤ s.length → posT (s.take (posT s k p)) j p = posT s (min j k) p
  | 0, k, p, h => by rw [Nat.zero_min]; rfl
  | j + 1, 0, p, h => by
    have e0 : posT s 0 p = p := rfl
    rw [Nat.min_zero, e0, posT, if_neg (by rw [List.length_take]; omega)]
  | j + 1, k + 1, p, h => by
    have hm : min (j + 1) (k + 1) = min j k + 1 := by omega
    rw [hm]
    by_cases hp : p < s.length
    · have hw := decW_pos hp
      have e : posT s (k + 1) p = posT s k (p + decW s p) := by rw [posT, if_pos hp]
      have hg := posT_ge s k (p + decW s p)
      have hle := posT_le s k (p + decW s p) (decW_le hp)
      obtain ⟨d1, d2⟩ := dec_pre hp hg
      rw [e]
      rw [posT, if_pos (by rw [List.length_take]; omega), d2, pos_take s j k _ (decW_le hp)]
      rw [posT, if_pos hp]
    · have e : posT s (k + 1) p = p := by rw [posT, if_neg hp]
      rw [e, posT, if_neg (by rw [List.length_take]; omega), posT, if_neg hp]
theorem cut_runes (s : Txt) (n : Int) : runeL (cutT s n) = (runeL s).take n.toNat := rest_take s n.toNat 0 (Nat.zero_le _)
theorem cut_len (s : Txt) (n : Int) : (cutT s n).length = posT s n.toNat 0 := by
  unfold cutT
  rw [List.length_take]
  have := posT_le s n.toNat 0 (Nat.zero_le _)
  omega
theorem cut_rest (s : Txt) (n : Int) : runeL (s.drop (cutT s n).length) = (runeL s).drop n.toNat := by
  rw [cut_len, ← restR_drop s s.length _ (by omega), rest_pos]; rfl
theorem cut_pre (s : Txt) (n : Int) : s.take (cutT s n).length = cutT s n := by rw [cut_len]; rfl
theorem cut_cut (s : Txt) (n m : Int) : cutT (cutT s n) m = cutT s (if m < n then m else n) := by
  have h1 : posT (cutT s n) m.toNat 0 = posT s (min m.toNat n.toNat) 0 := pos_take s m.toNat n.toNat 0 (Nat.zero_le _)
  have h2 := posT_le (cutT s n) m.toNat 0 (Nat.zero_le _)
  rw [cut_len] at h2
  have h3 : (if m < n then m else n).toNat = min m.toNat n.toNat := by split <;> omega
  show (cutT s n).take (posT (cutT s n) m.toNat 0) = s.take (posT s (if m < n then m else n).toNat 0)
  rw [h3, h1] at *
  unfold cutT
  rw [List.take_take]
  congr 1
  omega
theorem pos_txt : ∀ (l : List Int) (t : Txt), posT (txtR l ++ t) l.length 0 = (txtR l).length
  | [], t => rfl
  | r :: l, t => by
    have e : txtR (r :: l) = encA r ++ txtR l := rfl
    have hp := encA_pos r
    have hw : decW (encA r ++ txtR l ++ t) 0 = (encA r).length := by rw [decW_L, List.drop_zero, List.append_assoc, dec_enc]
    rw [e, List.length_cons, posT, if_pos (by simp only [List.length_append]; omega), hw, Nat.zero_add]
    have := posT_shift (encA r ++ txtR l ++ t) l.length (encA r).length 0
    rw [Nat.add_zero] at this
    rw [this, List.append_assoc, List.drop_left, pos_txt l t, List.length_append]
theorem cut_txt (l : List Int) (k : Nat) (hk : k ≤ l.length) : cutT (txtR l) (k : Int) ++ txtR (l.drop k) = txtR l := by
  have e : txtR l = txtR (l.take k) ++ txtR (l.drop k) := by rw [← txtR_append, List.take_append_drop]
  have h := pos_txt (l.take k) (txtR (l.drop k))
  rw [← e, List.length_take, Nat.min_eq_left hk] at h
  unfold cutT
  rw [Int.toNat_natCast, h]
  conv => lhs; lhs; rw [e]
  rw [List.take_left, ← e]

/-! ### Patterns -/
inductive Fit : List Int → List Int → Prop
  | nil : Fit [] []
  | star {u v p : List Int} (h : Fit v p) : Fit (u ++ v) (42 :: p)
  | one {x c : Int} {t p : List Int} (hc : c ≠ 42) (h1 : c = 63 ∨ c = x) (h : Fit t p) : Fit (x :: t) (c :: p)
theorem Fit.app {t p : List Int} (h : Fit t p) {t' p' : List Int} (h' : Fit t' p') : Fit (t ++ t') (p ++ p') := by
  induction h with
  | nil => exact h'
  | star h ih => rw [List.append_assoc]; exact .star ih
  | one hc h1 h ih => exact .one hc h1 ih
theorem Fit.split : ∀ {p p' t : List Int}, Fit t (p ++ p') → ∃ a b, t = a ++ b ∧ Fit a p ∧ Fit b p'
  | [], p', t, h => ⟨[], t, rfl, .nil, h⟩
  | c :: p, p', t, h => by
    rw [List.cons_append] at h
    cases h with
    | star h =>
      rename_i u v
      obtain ⟨a, b, rfl, ha, hb⟩ := h.split
      exact ⟨u ++ a, b, by rw [List.append_assoc], .star ha, hb⟩
    | one hc h1 h =>
      rename_i x t
      obtain ⟨a, b, rfl, ha, hb⟩ := h.split
      exact ⟨x :: a, b, rfl, .one hc h1 ha, hb⟩
theorem Fit.self : ∀ t : List Int, Fit t t
  | [] => .nil
  | x :: t => by
    by_cases h : x = 42
    · subst h
      exact .star (u := [42]) (Fit.self t)
    · exact .one h (.inr rfl) (Fit.self t)
theorem Fit.star1 (u : List Int) : Fit u [42] := by
  have := Fit.star (u := u) (v := []) .nil
  rwa [List.append_nil] at this
theorem Fit.more {t a b : List Int} (h : Fit t (a ++ b)) : Fit t (a ++ [42] ++ b) := by
  obtain ⟨x, y, rfl, hx, hy⟩ := h.split
  have := (hx.app (Fit.star1 [])).app hy
  rwa [List.append_nil] at this
theorem Fit.plain : ∀ {p t : List Int}, (∀ c ∈ p, c ≠ 42 ∧ c ≠ 63) → Fit t p → t = p
  | [], t, _, h => by cases h; rfl
  | c :: p, t, hp, h => by
    have h0 := hp c (List.mem_cons_self ..)
    generalize hq : c :: p = q at h
    cases h with
    | nil => cases hq
    | star h => cases hq; exact absurd rfl h0.1
    | one hc h1 h =>
      cases hq
      rcases h1 with h1 | h1
      · exact absurd h1 h0.2
      · rw [h1, Fit.plain (fun x hx => hp x (List.mem_cons_of_mem _ hx)) h]
theorem Fit.snoc {t p : List Int} {c : Int} (hc : c ≠ 42) : Fit t (p ++ [c]) ↔ ∃ a x, t = a ++ [x] ∧ (c = 63 ∨ c = x) ∧ Fit a p := by
  constructor
  · intro h
    obtain ⟨a, b, rfl, ha, hb⟩ := h.split
    generalize hq : [c] = q at hb
    cases hb with
    | nil => cases hq
    | star h => cases hq; exact absurd rfl hc
    | one _ h1 h2 =>
      cases hq
      cases h2
      exact ⟨a, _, rfl, h1, ha⟩
  · rintro ⟨a, x, rfl, h1, ha⟩
    exact ha.app (.one hc h1 .nil)
theorem rows_fit (t : List Int) : ∀ (n : Nat) (p : List Int), p.length = n → ∀ i, i ≤ t.length → ((rowsF t p).getD i false = true ↔ Fit (t.take i) p)
  | 0, p, hp, i, hi => by
    have : p = [] := List.eq_nil_of_length_eq_zero hp
    subst this
    have e : (rowsF t []).getD i false = decide (i = 0) := by
      simp [rowsF, row0, List.getD, List.getElem?_range (show i < t.length + 1 by omega)]
    rw [e, decide_eq_true_eq]
    constructor
    · rintro rfl; exact .nil
    · intro h
      generalize ht : t.take i = u at h
      cases h
      have h9 : (t.take i).length = 0 := by rw [ht]; rfl
      rw [List.length_take] at h9
      omega
  | n + 1, p, hp, i, hi => by
    obtain ⟨q, c, rfl⟩ : ∃ q c, p = q ++ [c] := by
      rcases List.eq_nil_or_concat p with h | ⟨q, c, h⟩
      · subst h; simp at hp
      · exact ⟨q, c, by rw [h, List.concat_eq_append]⟩
    have hq : q.length = n := by simpa using hp
    have ih := rows_fit t n q hq
    have hfl : (rowsF t q).length = t.length + 1 := by
      rcases List.eq_nil_or_concat q with h | ⟨q', c', h⟩
      · subst h; simp [rowsF, row0]
      · subst h; rw [List.concat_eq_append]; simp [rowsF, rowF]
    have er : rowsF t (q ++ [c]) = rowF t c (rowsF t q) := by simp [rowsF]
    have e : (rowsF t (q ++ [c])).getD i false = rowB t c (rowsF t q) i := by
      rw [er]
      simp [rowF, List.getD, List.getElem?_range (show i < t.length + 1 by omega)]
    rw [e]
    unfold rowB
    split
    · rename_i hc
      subst hc
      rw [List.any_eq_true]
      constructor
      · rintro ⟨b, hb, hbt⟩
        obtain ⟨j, hj, rfl⟩ := List.getElem_of_mem hb
        rw [List.length_take] at hj
        rw [List.getElem_take] at hbt
        have hf := (ih j (by omega)).1 (by rw [List.getD_eq_getElem?_getD, List.getElem?_eq_getElem (by omega)]; exact hbt)
        have hs : t.take i = t.take j ++ (t.take i).drop j := by
          conv => lhs; rw [← List.take_append_drop j (t.take i)]
          rw [List.take_take, Nat.min_eq_left (by omega)]
        rw [hs]
        exact hf.app (Fit.star1 _)
      · intro h
        obtain ⟨a, b, hab, ha, hb⟩ := h.split
        have hla : a.length ≤ i := by
          have := congrArg List.length hab
          rw [List.length_take, List.length_append] at this; omega
        have hta : t.take a.length = a := by
          have h1 : (t.take i).take a.length = a := by rw [hab, List.take_left]
          rwa [List.take_take, Nat.min_eq_left hla] at h1
        have hf := (ih a.length (by omega)).2 (by rw [hta]; exact ha)
        rw [List.getD_eq_getElem?_getD, List.getElem?_eq_getElem (by omega)] at hf
        exact ⟨_, List.mem_take_iff_getElem.2 ⟨a.length, by omega, rfl⟩, hf⟩
    · rename_i hc
      rw [Fit.snoc hc]
      simp only [Bool.and_eq_true, decide_eq_true_eq, Bool.or_eq_true, beq_iff_eq]
      constructor
      · rintro ⟨h0, h1, h2⟩
        have hil : i - 1 < t.length := by omega
        have hf := (ih (i - 1) (by omega)).1 h2
        refine ⟨t.take (i - 1), t.getD (i - 1) 0, ?_, h1, hf⟩
        have h3 : i = (i - 1) + 1 := by omega
        conv => lhs; rw [h3]
        rw [List.take_add_one, List.getElem?_eq_getElem hil]
        simp [List.getD, List.getElem?_eq_getElem hil]
      · rintro ⟨a, x, hax, h1, ha⟩
        have hl : a.length + 1 = i := by
          have := congrArg List.length hax
          rw [List.length_take, List.length_append, List.length_singleton] at this; omega
        have hta : t.take a.length = a := by
          have h1 : (t.take i).take a.length = a := by rw [hax, List.take_left]
          rwa [List.take_take, Nat.min_eq_left (by omega)] at h1
        have hx : t.getD (i - 1) 0 = x := by
          have h1 : (t.take i)[a.length]? = some x := by rw [hax]; simp
          rw [List.getElem?_take, if_pos (by omega)] at h1
          rw [show i - 1 = a.length by omega, List.getD_eq_getElem?_getD, h1]; rfl
        refine ⟨by omega, by rw [hx]; exact h1, ?_⟩
        rw [show i - 1 = a.length by omega]
        exact (ih a.length (by omega)).2 (by rw [hta]; exact ha)
theorem like_fit (t p : List Int) : likeR t p = true ↔ Fit t p := by
  have := rows_fit t p.length p rfl t.length (Nat.le_refl _)
  rw [List.take_length] at this
  exact this

/-! ### Folds -/
theorem fdR_valid {r : Int} (h : Utf8.valid r = true) : Utf8.valid (fdR r) = true := by
  have := valid_of h
  refine valid_mk ?_
  unfold fdR
  split <;> omega
theorem fdR_fdR (r : Int) : fdR (fdR r) = fdR r := by
  unfold fdR
  split
  · rw [if_neg (by omega)]
  · rfl
theorem fold_runes (s : Txt) : runeL (txtR ((runeL s).map fdR)) = (runeL s).map fdR := by
  rw [runeL_txt']
  conv => rhs; rw [← List.map_id ((runeL s).map fdR)]
  refine List.map_congr_left fun r hr => ?_
  obtain ⟨x, hx, rfl⟩ := List.mem_map.1 hr
  exact fix_valid (fdR_valid (runeL_valid _ s (Nat.le_refl _) x hx))
theorem fold_twice (s : Txt) : txtR ((runeL (txtR ((runeL s).map fdR))).map fdR) = txtR ((runeL s).map fdR) := by
  rw [fold_runes, List.map_map]
  congr 1
  exact List.map_congr_left fun r _ => fdR_fdR r
end Go.AL
