/-
  Seat 10 (chunk): chunks as values; what is computed (plain definitions).
-/
import Derived.Test.YtjdjecaclbdhhaaH
import Derived.Test.YtjdjecaclbdhhaaA17
import Derived.Test.YtjdjecaclbdhhaaB0
import Derived.Test.YtjdjecaclbdhhaaHc
import Derived.Test.YtjdjecaclbdhhaaHm
namespace Go.AL
set_option linter.unusedSimpArgs false
set_option linter.unusedVariables false

/-! ### Chunks -/
/-- Number, ids, the next one's number, is it gone? -/
abbrev Ck := Int × List Int × Int × Bool
def ckV (c : Ck) : AVal := .agg [.int .i64 c.1, .slice (iv c.2.1) 1 .ro, .int .i64 c.2.2.1, .bool c.2.2.2]
def ckC (c : Ck) : List AVal := [.int .i64 c.1, .slice (iv c.2.1) 1 .ro, .int .i64 c.2.2.1, .bool c.2.2.2]
def ckv (l : List Ck) : List AVal := l.map ckV
def ck0 : Ck := (0, [], 0, false)
theorem iv_noLoc (l : List Int) : noLocL (iv l) = true := noLocL_map (fun _ => rfl) l
theorem flat_iv (l : List Int) : flat (iv l) = iv l := flat_map (fun _ => rfl) l
def ckIs : AVal → Bool
  | .agg [.int .i64 _, .slice es s _, .int .i64 _, .bool _] => okW 1 s es && es.all isI64
  | _ => false
def ckOf : AVal → Ck
  | .agg [.int .i64 n, .slice es _ _, .int .i64 m, .bool b] => (n, es.map AVal.intOf, m, b)
  | _ => ck0
@[simp] theorem ckIs_V (c : Ck) : ckIs (ckV c) = true := by simp [ckIs, ckV, okW_same]
@[simp] theorem ckOf_V (c : Ck) : ckOf (ckV c) = c := by simp [ckOf, ckV]
theorem wk_ckC {v : AVal} (h : ckIs v = true) : WkL v.cells (ckV (ckOf v)).cells ∧ (ckV (ckOf v)).cells.length = v.cells.length := by
  unfold ckIs at h
  split at h
  · simp only [Bool.and_eq_true] at h
    exact ⟨.cons (.refl _) (.cons (wk_iv _ h.1 h.2) (.refl _)), rfl⟩
  · cases h
theorem wk_ck {v : AVal} (h : ckIs v = true) : Wk v (ckV (ckOf v)) := by
  unfold ckIs at h
  split at h
  · simp only [Bool.and_eq_true] at h
    exact Wk.agg (.cons (.refl _) (.cons (wk_iv _ h.1 h.2) (.refl _)))
  · cases h
@[simp] theorem map_ckOf (l : List Ck) : (ckv l).map ckOf = l := by
  simp only [ckv, List.map_map]
  conv => rhs; rw [← List.map_id l]
  exact List.map_congr_left fun b _ => ckOf_V b
@[simp] theorem ckv_is (l : List Ck) : (ckv l).all ckIs = true := by simp [ckv]
@[simp] theorem ckv_length (l : List Ck) : (ckv l).length = l.length := by simp [ckv]
theorem ckv_append (a b : List Ck) : ckv (a ++ b) = ckv a ++ ckv b := by simp [ckv]
theorem elemAt_ckv (l : List Ck) (i : Nat) (h : i < l.length) : elemAt (ckv l) (i : Int) = ckC l[i] := elemAt_map ckV l i h
theorem wk_cks {s : Nat} {es : List AVal} (t : Tag) (hn : okW 4 s es = true) (h : es.all ckIs = true) : Wk (.slice es s t) (.slice (ckv (es.map ckOf)) 4 .ro) := by
  rw [ckv, List.map_map]
  exact wkW_map t hn fun e he => wk_ckC (List.all_eq_true.1 h e he)
theorem ck_noOut (n : Nat) (c : Ck) : (ckV c).noOut n = true := by simp [ckV, AVal.noOut, noOutL, iv_noOut]
theorem ck_noTok (n : Nat) (c : Ck) : (ckV c).noTok n = true := by simp [ckV, AVal.noTok, noTokL, iv_noTok, Tag.below]
theorem ckv_noOut (n : Nat) (l : List Ck) : noOutL n (ckv l) = true := noOutL_map n (fun x => ck_noOut n x) l
theorem ckv_noTok (n : Nat) (l : List Ck) : noTokL n (ckv l) = true := noTokL_map n (fun x => ck_noTok n x) l
theorem ckv_noLoc (l : List Ck) : noLocL (ckv l) = true := noLocL_map (fun _ => rfl) l

/-! ### What is computed -/
def idsC (l : List Ck) : List Int := l.flatMap fun c => c.2.1
def nosC (l : List Ck) : List Int := l.map fun c => c.1
def lastI (l : List Int) : Int := l.getLastD (-1)
/-- Do numbers rise, all above another? -/
def riseF (a : Int) : List Int → Bool
  | [] => true
  | x :: r => decide (a < x) && riseF x r
def nextC (l : List Ck) (i : Nat) : Int := (l.getD (i + 1) ck0).1
/-- Is the chunk at a place as it ought to be, behind those ahead of it? -/
def okC (l : List Ck) (i : Nat) : Bool :=
  decide ((l.getD i ck0).2.2.2 = false ∧ (l.getD i ck0).2.2.1 = nextC l i ∧ 0 ≤ (l.getD i ck0).1 ∧ (l.getD i ck0).1 ∉ nosC (l.take i) ∧ ((l.getD i ck0).1 = 0 ↔ i = 0) ∧ (l.getD i ck0).2.1.length ≤ 4 ∧ (0 < i → (l.getD i ck0).2.1 ≠ []) ∧
    riseF (lastI (idsC (l.take i))) (l.getD i ck0).2.1 = true)
def rightC (l : List Ck) : Bool := decide (∀ i, i < l.length → okC l i = true)
def posI (l : List Int) (n : Int) : Nat := (l.filter fun x => decide (x < n)).length
/-- Into which chunk an id goes. -/
def placeF (id : Int) : List Ck → Nat → Nat → Nat
  | [], _, a => a
  | c :: r, i, a => placeF id r (i + 1) (if c.2.1 ≠ [] ∧ c.2.1.getD 0 0 ≤ id then i else a)
def placeC (l : List Ck) (id : Int) : Nat := placeF id l 0 0
/-! ### The least number that is free -/
theorem pig : ∀ (m : Nat) (l : List Int), (∀ k : Nat, 1 ≤ k → k ≤ m → (k : Int) ∈ l) → m ≤ l.length
  | 0, _, _ => Nat.zero_le _
  | m + 1, l, h => by
    have hm := h (m + 1) (by omega) (Nat.le_refl _)
    have ih := pig m (l.erase ((m + 1 : Nat) : Int)) fun k h1 h2 => by
      rw [List.mem_erase_of_ne (by omega)]
      exact h k h1 (by omega)
    rw [List.length_erase_of_mem hm] at ih
    have : 0 < l.length := List.length_pos_of_mem hm
    omega
def freeF : Nat → List Int → Nat → Nat
  | 0, _, n => n
  | f + 1, l, n => if (n : Int) ∈ l then freeF f l (n + 1) else n
def freeN (l : List Int) : Nat := freeF (l.length + 1) l 1
theorem freeF_spec (l : List Int) : ∀ (f n : Nat), 1 ≤ n → l.length + 2 ≤ f + n → (∀ k : Nat, 1 ≤ k → k < n → (k : Int) ∈ l) → 1 ≤ freeF f l n ∧ (freeF f l n : Int) ∉ l ∧ ∀ k : Nat, 1 ≤ k → k < freeF f l n → (k : Int) ∈ l
  | 0, n, h1, h2, h3 => by
    have := pig (n - 1) l fun k hk hk2 => h3 k hk (by omega)
    omega
  | f + 1, n, h1, h2, h3 => by
    unfold freeF
    by_cases hm : (n : Int) ∈ l
    · rw [if_pos hm]
      exact freeF_spec l f (n + 1) (by omega) (by omega) fun k hk hk2 => by
        rcases Nat.lt_or_ge k n with h4 | h4
        · exact h3 k hk h4
        · obtain rfl : k = n := by omega
          exact hm
    · rw [if_neg hm]
      exact ⟨h1, hm, h3⟩
theorem freeN_spec (l : List Int) : 1 ≤ freeN l ∧ (freeN l : Int) ∉ l ∧ ∀ k : Nat, 1 ≤ k → k < freeN l → (k : Int) ∈ l := freeF_spec l _ 1 (Nat.le_refl _) (by omega) fun k h1 h2 => by omega
theorem freeN_le (l : List Int) : freeN l ≤ l.length + 1 := by
  obtain ⟨h1, h2, h3⟩ := freeN_spec l
  have := pig (freeN l - 1) l fun k hk hk2 => h3 k hk (by omega)
  omega
theorem freeN_uniq {l : List Int} {m : Nat} (h1 : 1 ≤ m) (h2 : (m : Int) ∉ l) (h3 : ∀ k : Nat, 1 ≤ k → k < m → (k : Int) ∈ l) : m = freeN l := by
  obtain ⟨g1, g2, g3⟩ := freeN_spec l
  rcases Nat.lt_trichotomy m (freeN l) with h | h | h
  · exact (h2 (g3 m h1 h)).elim
  · exact h
  · exact (g2 (h3 _ g1 h)).elim
/-! ### Insert, Remove, Apply -/
abbrev Cc := List Ck × Int
def insK (l : List Ck) (id : Int) : Cc :=
  if rightC l then
    if id < 0 ∨ 1099511627776 ≤ id then ([], 2)
    else if (idsC l).contains id then ([], 31)
    else if l.isEmpty then ([(0, [id], 0, false)], 0)
    else
      let c := l.getD (placeC l id) ck0
      let ids := insL c.2.1 (posI c.2.1 id) id
      if ids.length ≤ 4 then ([(c.1, ids, c.2.2.1, c.2.2.2)], 0)
      else ([(c.1, ids.take 3, (freeN (nosC l) : Int), c.2.2.2), ((freeN (nosC l) : Int), ids.drop 3, c.2.2.1, false)], 0)
  else ([], 100)
def remK (l : List Ck) (id : Int) : Cc :=
  if rightC l then
    let a := placeC l id
    if (l.getD a ck0).2.1.contains id then
      let c := l.getD a ck0
      let ids := c.2.1.filter fun x => decide (x ≠ id)
      if 0 < ids.length ∨ a = 0 then ([(c.1, ids, c.2.2.1, c.2.2.2)], 0)
      else ([((l.getD (a - 1) ck0).1, (l.getD (a - 1) ck0).2.1, c.2.2.1, (l.getD (a - 1) ck0).2.2.2), (c.1, [], 0, true)], 0)
    else ([], 101)
  else ([], 100)
/-- The walk along a chain, out of chunks by their numbers: each is met once. -/
def walkF : Nat → List (Int × Ck) → Int → List Ck
  | 0, _, _ => []
  | f + 1, m, no =>
    match getI m no with
    | none => []
    | some c => if c.2.2.2 then [] else c :: (if c.2.2.1 = 0 then [] else walkF f (delI no m) c.2.2.1)
def byNo (l : List Ck) : List (Int × Ck) := l.foldl (fun m c => putI c.1 c m) []
def applyK (l ch : List Ck) : List Ck := walkF ((byNo (l ++ ch)).length + 1) (byNo (l ++ ch)) 0
end Go.AL
