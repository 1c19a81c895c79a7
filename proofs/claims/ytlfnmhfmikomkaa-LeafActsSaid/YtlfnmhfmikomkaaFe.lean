/-
  Seat 11 (leaf): what is told of calls; plain definitions of what is laid and taken out.
-/
import Derived.Test.YtlfnmhfmikomkaaFm
import Derived.Test.YtlfnmhfmikomkaaHc
set_option linter.unusedVariables false
set_option linter.unusedSimpArgs false
/-
  Seat 11 (leaf): what is told of calls.
-/
set_option linter.unusedVariables false
namespace Go.Proofs.Ytlfnmhfmikomkaa
open Go.AL
noncomputable section
def lenOk (n : Nat) : Bool := hold (decide (n ≤ 140737488351232))
def signE : Ent := (43, fun xs _ => match xs with
  | [.bool b] => some (.pure true (.int .i64 (sgnN b)))
  | _ => none)
def ordE : Ent := (14, fun xs _ => match xs with
  | [.str a, .str b] => some (.pure (hold (decide (a.length ≤ 1000000))) (.int .i64 (ordT a b)))
  | _ => none)
def lessE : Ent := (64, fun xs _ => match xs with
  | [.str a, .str b] => some (.pure true (.bool (hold (tlt a b))))
  | _ => none)
def nanE : Ent := (74, fun xs _ => match xs with
  | [.str a] => some (.pure true (.bool false))
  | _ => none)
def nan2E : Ent := (65, fun xs _ => match xs with
  | [.str a] => some (.pure true (.bool false))
  | _ => none)
def bsE : Ent := (35, fun xs _ => match xs with
  | [.slice es s t, .str x] => some (.nm (posN (es.map AVal.strOf) x) fun p => .nm ((es.map AVal.strOf).contains x) fun b => .pure (okW 1 s es && (es.all strIs && (hold (riseL (es.map AVal.strOf)) && lenOk es.length))) (.tuple [.int .i64 (p : Int), .bool (hold b)]))
  | _ => none)
def riseE : Ent := (71, fun xs _ => match xs with
  | [.slice es s t] => some (.pure (okW 1 s es && (es.all strIs && lenOk es.length)) (.bool (hold (riseL (es.map AVal.strOf)))))
  | _ => none)
def riseRE : Ent := (16, fun xs _ => match xs with
  | [.slice es s t] => some (.pure (okW 1 s es && (es.all strIs && (hold (shortL (es.map AVal.strOf)) && lenOk es.length))) (.bool (hold (riseL (es.map AVal.strOf)))))
  | _ => none)
def indexIE : Ent := (68, fun xs _ => match xs with
  | [.slice es s t, .int .i64 n] => some (.nm ((es.map AVal.intOf).contains n) fun y => .nm (if y then ((es.map AVal.intOf).idxOf n : Int) else -1) fun i => .pure (okW 1 s es && (es.all isI64 && lenOk es.length)) (.int .i64 i))
  | _ => none)
def containsIE : Ent := (37, fun xs _ => match xs with
  | [.slice es s t, .int .i64 n] => some (.pure (okW 1 s es && (es.all isI64 && lenOk es.length)) (.bool (hold ((es.map AVal.intOf).contains n))))
  | _ => none)
def rootG (v : AVal) : Bool := rootIs v && (lenOk (rootOf v).1.length && lenOk (rootOf v).2.length)
def rootH (v : AVal) : Bool := rootG v && hold (shortL (rootOf v).1)
def lfG (v : AVal) : Bool := lfIs v && lenOk (lfOf v).2.1.length
def lfH (v : AVal) : Bool := lfG v && hold (shortL (lfOf v).2.1)
def rootE : Ent := (41, fun xs _ => match xs with
  | [v] => some (.pure (rootG v) (.bool (hold (rootB (rootOf v)))))
  | _ => none)
def rootRE : Ent := (47, fun xs _ => match xs with
  | [v] => some (.pure (rootH v) (.bool (hold (rootB (rootOf v)))))
  | _ => none)
def leafE : Ent := (54, fun xs _ => match xs with
  | [v] => some (.pure (lfG v) (.bool (hold (lfB (lfOf v)))))
  | _ => none)
def leafRE : Ent := (48, fun xs _ => match xs with
  | [v] => some (.pure (lfH v) (.bool (hold (lfB (lfOf v)))))
  | _ => none)
def atE : Ent := (38, fun xs _ => match xs with
  | [v, .str s] => some (.nm (atN (rootOf v).1 s) fun p => .pure (rootG v && hold (riseL (rootOf v).1)) (.int .i64 (p : Int)))
  | _ => none)
def atRE : Ent := (51, fun xs _ => match xs with
  | [v, .str s] => some (.nm (atN (rootOf v).1 s) fun p => .pure (rootH v) (.int .i64 (p : Int)))
  | _ => none)
def findE : Ent := (12, fun xs _ => match xs with
  | [v, .str s] => some (.nm (findN (rootOf v) s) fun p => .pure (rootG v) (.int .i64 p))
  | _ => none)
def findRE : Ent := (26, fun xs _ => match xs with
  | [v, .str s] => some (.nm (findN (rootOf v) s) fun p => .pure (rootH v) (.int .i64 p))
  | _ => none)
def cloneE : Ent := (39, fun xs σ => match xs with
  | [.slice es s t] => some (.full (okW 1 s es && (es.all strIs && hold (decide (es.length ≤ 1000000)))) (.mrow σ.nobj es.length) (σ.pushRow es 1))
  | _ => none)
def cloneIE : Ent := (42, fun xs σ => match xs with
  | [.slice es s t] => some (.full (okW 1 s es && (es.all isI64 && hold (decide (es.length ≤ 1000000)))) (.mrow σ.nobj es.length) (σ.pushRow es 1))
  | _ => none)
def insE : Ent := (36, fun xs σ => match xs with
  | [.mrow k n, .int .i64 i, .slice [.str x] 1 .full] => match σ.obj k with
    | some (.buf es s g) => some (.full (Nat.beq g (k + 1) && (Nat.beq s 1 && (es.all strIs && hold (decide (n = es.length ∧ 0 ≤ i ∧ i ≤ es.length ∧ es.length ≤ 1000000))))) (.slice (insC es i.toNat (.str x)) 1 .ro) (σ.del k))
    | _ => none
  | _ => none)
def insIE : Ent := (40, fun xs σ => match xs with
  | [.mrow k n, .int .i64 i, .slice [.int .i64 x] 1 .full] => match σ.obj k with
    | some (.buf es s g) => some (.full (Nat.beq g (k + 1) && (Nat.beq s 1 && (es.all isI64 && hold (decide (n = es.length ∧ 0 ≤ i ∧ i ≤ es.length ∧ es.length ≤ 1000000))))) (.slice (insC es i.toNat (.int .i64 x)) 1 .ro) (σ.del k))
    | _ => none
  | _ => none)
def delE : Ent := (45, fun xs σ => match xs with
  | [.mrow k n, .int .i64 i, .int .i64 j] => match σ.obj k with
    | some (.buf es s g) => some (.full (Nat.beq g (k + 1) && (Nat.beq s 1 && (es.all strIs && hold (decide (n = es.length ∧ 0 ≤ i ∧ i < es.length ∧ j = i + 1 ∧ es.length ≤ 1000000))))) (.slice (delC es i.toNat) 1 .ro) (σ.del k))
    | _ => none
  | _ => none)
def delIE : Ent := (46, fun xs σ => match xs with
  | [.mrow k n, .int .i64 i, .int .i64 j] => match σ.obj k with
    | some (.buf es s g) => some (.full (Nat.beq g (k + 1) && (Nat.beq s 1 && (es.all isI64 && hold (decide (n = es.length ∧ 0 ≤ i ∧ i < es.length ∧ j = i + 1 ∧ es.length ≤ 1000000))))) (.slice (delC es i.toNat) 1 .ro) (σ.del k))
    | _ => none
  | _ => none)
end
end Go.Proofs.Ytlfnmhfmikomkaa
/-
  Seat 11 (leaf): what is laid and taken out: plain definitions and laws.
-/
namespace Go.AL
set_option linter.unusedSimpArgs false
set_option linter.unusedVariables false

/-! ### The least number that is free -/
theorem pig : ∀ (m : Nat) (l : List Int), (∀ k : Nat, 1 ≤ k → k ≤ m → (k : Int) ∈ l) → m ≤ l.length
  | 0, _, _ => Nat.zero_le _
  | m + 1, l, h => by
    have hm := h (m + 1) (by omega) (Nat.le_refl _)
    have ih := pig m (l.erase ((m + 1 : Nat) : Int)) fun k h1 h2 => by
      rw [List.mem_erase_of_ne (by omega)]
      exact h k h1 (by omega)
    rw [List.length_erase_of_mem hm] at ih
    have : 0 < l.length := List.length_pos_of_mem hm
    omega
def freeF : Nat → List Int → Nat → Nat
  | 0, _, n => n
  | f + 1, l, n => if (n : Int) ∈ l then freeF f l (n + 1) else n
def freeN (l : List Int) : Nat := freeF (l.length + 1) l 1
theorem freeF_spec (l : List Int) : ∀ (f n : Nat), 1 ≤ n → l.length + 2 ≤ f + n → (∀ k : Nat, 1 ≤ k → k < n → (k : Int) ∈ l) → 1 ≤ freeF f l n ∧ (freeF f l n : Int) ∉ l ∧ ∀ k : Nat, 1 ≤ k → k < freeF f l n → (k : Int) ∈ l
  | 0, n, h1, h2, h3 => by
    have := pig (n - 1) l fun k hk hk2 => h3 k hk (by omega)
    omega
  | f + 1, n, h1, h2, h3 => by
    unfold freeF
    by_cases hm : (n : Int) ∈ l
    · rw [if_pos hm]
      exact freeF_spec l f (n + 1) (by omega) (by omega) fun k hk hk2 => by
        rcases Nat.lt_or_ge k n with h4 | h4
        · exact h3 k hk h4
        · obtain rfl : k = n := by omega
          exact hm
    · rw [if_neg hm]
      exact ⟨h1, hm, h3⟩
theorem freeN_spec (l : List Int) : 1 ≤ freeN l ∧ (freeN l : Int) ∉ l ∧ ∀ k : Nat, 1 ≤ k → k < freeN l → (k : Int) ∈ l := freeF_spec l _ 1 (Nat.le_refl _) (by omega) fun k h1 h2 => by omega
theorem freeN_le (l : List Int) : freeN l ≤ l.length + 1 := by
  obtain ⟨h1, h2, h3⟩ := freeN_spec l
  have := pig (freeN l - 1) l fun k hk hk2 => h3 k hk (by omega)
  omega
theorem freeN_uniq {l : List Int} {m : Nat} (h1 : 1 ≤ m) (h2 : (m : Int) ∉ l) (h3 : ∀ k : Nat, 1 ≤ k → k < m → (k : Int) ∈ l) : m = freeN l := by
  obtain ⟨g1, g2, g3⟩ := freeN_spec l
  rcases Nat.lt_trichotomy m (freeN l) with h | h | h
  · exact (h2 (g3 m h1 h)).elim
  · exact h
  · exact (g2 (h3 _ g1 h)).elim

/-! ### Insert, Remove -/
def ownB (r : Root) (l : Lf) (s : Txt) : Bool := decide (lfB l = true ∧ findN r s = l.1 ∧ l.1 ≠ 0)
theorem ownB_iff {r : Root} {l : Lf} {s : Txt} : ownB r l s = true ↔ lfB l = true ∧ findN r s = l.1 ∧ l.1 ≠ 0 := by simp [ownB]
theorem ownB_root {r : Root} {l : Lf} {s : Txt} (h : ownB r l s = true) : rootB r = true := by
  obtain ⟨_, h2, h3⟩ := ownB_iff.1 h
  cases hr : rootB r with
  | true => rfl
  | false => simp only [findN, hr] at h2; exact (h3 h2.symm).elim
/-- What the reference asks first. -/
theorem ownB_ref (r : Root) (l : Lf) (s : Txt) : ownB r l s = (rootB r && (lfB l && (findN r s == l.1))) := by
  rw [Bool.eq_iff_iff, ownB_iff]
  simp only [Bool.and_eq_true, beq_iff_eq]
  constructor
  · intro h
    exact ⟨ownB_root (ownB_iff.2 h), h.1, h.2.1⟩
  · rintro ⟨h1, h2, h3⟩
    refine ⟨h2, h3, ?_⟩
    obtain ⟨g1, g2, g3, g4⟩ := rootB_iff.1 h1
    have hle := atN_le r.1 s
    have hlt : atN r.1 s < r.2.length := by omega
    have : findN r s = r.2[atN r.1 s] := by simp [findN, h1, hlt]
    have := g3 _ (List.getElem_mem hlt)
    omega
abbrev Ch := Root × List Lf × Int
def errC (e : Int) : Ch := (([], []), [], e)
def insN (r : Root) (l : Lf) (s : Txt) : Ch :=
  if ownB r l s then
    if 600 < s.length then errC 82
    else if l.2.1.contains s then errC 31
    else
      let es := insL l.2.1 (posN l.2.1 s) s
      if es.length ≤ 4 then (r, [(l.1, es, false)], 0)
      else
        let no := freeN r.2
        let k := atN r.1 s
        ((insL r.1 k (es.getD 3 []), insL r.2 (k + 1) (no : Int)), [(l.1, es.take 3, false), ((no : Int), es.drop 3, false)], 0)
  else errC 100
def remN (r : Root) (l : Lf) (s : Txt) : Ch :=
  if ownB r l s then
    if l.2.1.contains s then
      let es := delL l.2.1 (posN l.2.1 s)
      if 0 < es.length ∨ r.2.length = 1 then (r, [(l.1, es, false)], 0)
      else
        let k := atN r.1 s
        ((delL r.1 (min k (r.1.length - 1)), delL r.2 k), [(l.1, [], true)], 0)
    else errC 101
  else errC 100
theorem insL_length {α : Type} (l : List α) (i : Nat) (x : α) (h : i ≤ l.length) : (insL l i x).length = l.length + 1 := by simp [insL]; omega
theorem delL_length {α : Type} (l : List α) (i : Nat) (h : i < l.length) : (delL l i).length = l.length - 1 := by simp [delL]; omega
theorem pos_idx {l : List Txt} (h : riseL l = true) {s : Txt} (hs : s ∈ l) : l.idxOf s = posN l s := by
  have hc := contains_pos h s
  rw [List.contains_iff_mem.2 hs] at hc
  have hc := hc.symm
  simp only [Bool.and_eq_true, decide_eq_true_eq, beq_iff_eq] at hc
  obtain ⟨h1, h2⟩ := hc
  unfold List.idxOf
  rw [List.findIdx_eq h1]
  have h3 : l[posN l s] = s := by
    rw [List.getD_eq_getElem?_getD, List.getElem?_eq_getElem h1] at h2
    simpa using h2
  refine ⟨by simp [h3], fun j hj => ?_⟩
  have := (posN_lt h s j (by omega)).2 hj
  have := tlt_ne this
  simpa using this
theorem posN_lt_len {l : List Txt} (h : riseL l = true) {s : Txt} (hs : l.contains s = true) : posN l s < l.length := by
  have hc := contains_pos h s
  rw [hs] at hc
  have hc := hc.symm
  simp only [Bool.and_eq_true, decide_eq_true_eq] at hc
  exact hc.1
def chV (x : Ch) : AVal := .tuple [rootV x.1, .slice (lfv x.2.1) 3 .ro, .int .i64 x.2.2]
theorem ch_noOut (n : Nat) (x : Ch) : (chV x).noOut n = true := by simp [chV, AVal.noOut, noOutL, root_noOut, lfv_noOut]
theorem ch_noTok (n : Nat) (x : Ch) : (chV x).noTok n = true := by simp [chV, AVal.noTok, noTokL, root_noTok, lfv_noTok, Tag.below]
theorem wk_strv_nil (s : Nat) (t : Tag) : Wk (.slice [] s t) (.slice (strv []) 1 .ro) := Wk.nil s 1 t
theorem wk_iv_nil (s : Nat) (t : Tag) : Wk (.slice [] s t) (.slice (iv []) 1 .ro) := Wk.nil s 1 t
theorem wk_lfv_nil (s : Nat) (t : Tag) : Wk (.slice [] s t) (.slice (lfv []) 3 .ro) := Wk.nil s 3 t
end Go.AL
/-
  Seat 11 (leaf): what is told of calls, 2.
-/
set_option linter.unusedVariables false
namespace Go.Proofs.Ytlfnmhfmikomkaa
open Go.AL
noncomputable section
/-- A copy that never changes. -/
def cloneSE : Ent := (39, fun xs σ => match xs with
  | [.slice es s t] => some (.pure (okW 1 s es && (es.all strIs && hold (decide (es.length ≤ 1000000)))) (.slice es 1 .ro))
  | _ => none)
def cloneISE : Ent := (42, fun xs σ => match xs with
  | [.slice es s t] => some (.pure (okW 1 s es && (es.all isI64 && hold (decide (es.length ≤ 1000000)))) (.slice es 1 .ro))
  | _ => none)
def rootM (v : AVal) : Bool := rootIs v && hold (decide ((rootOf v).1.length ≤ 1000000 ∧ (rootOf v).2.length ≤ 1000000))
def lfM (v : AVal) : Bool := lfIs v && hold (decide ((lfOf v).2.1.length ≤ 1000000))
/-- The store in which a result's first cell lies. -/
def isR (σ : Sto) : Bool := @decide (∃ c, σ = Sto.push Sto.empty (.cells c)) (Classical.propDecidable _)
def nilRC : List AVal := [.slice [] 0 .nil, .slice [] 0 .nil]
def nilLC : List AVal := [.int .i64 0, .slice [] 0 .nil, .bool false]
def ownE : Ent := (34, fun xs σ => match xs with
  | [v, u, .str s] => some (.br (hold (ownB (rootOf v) (lfOf u) s))
      (.full (rootM v && (lfM u && isR σ)) (.tuple [.agg [.mrow 3 (strv (rootOf v).1).length, .mrow 5 (iv (rootOf v).2).length], .agg [.int .i64 (lfOf u).1, .mrow 7 (strv (lfOf u).2.1).length, .bool false], .int .i64 0])
        (Sto.set (Sto.set (Sto.pushRow (Sto.pushRow (Sto.pushRow (Sto.push (Sto.push σ (.cells nilRC)) (.cells nilLC)) (strv (rootOf v).1) 1) (iv (rootOf v).2) 1) (strv (lfOf u).2.1) 1)
          1 (.cells [.mrow 3 (strv (rootOf v).1).length, .mrow 5 (iv (rootOf v).2).length])) 2 (.cells [.int .i64 (lfOf u).1, .mrow 7 (strv (lfOf u).2.1).length, .bool false])))
      (.full (rootM v && (lfM u && isR σ)) (.tuple [.agg [.slice [] 0 .nil, .slice [] 0 .nil], .agg [.int .i64 0, .slice [] 0 .nil, .bool false], .int .i64 100])
        (Sto.set (Sto.set (Sto.push (Sto.push σ (.cells nilRC)) (.cells nilLC)) 1 (.cells nilRC)) 2 (.cells nilLC))))
  | _ => none)
/-- On the way that is never gone (an error's empty rows). -/
def noE (f : FuncId) (v : AVal) : Ent := (f, fun xs _ => match xs with
  | .slice [] _ .nil :: _ => some (.pure false v)
  | _ => none)
def insOrE : Ent := (insE.1, fun xs σ => match (noE insE.1 (.slice [] 1 .ro)).2 xs σ with
  | some a => some a
  | none => insE.2 xs σ)
def delOrE : Ent := (delE.1, fun xs σ => match (noE delE.1 (.slice [] 1 .ro)).2 xs σ with
  | some a => some a
  | none => delE.2 xs σ)
def hasE : Ent := (49, fun xs _ => match xs with
  | [.slice es s t, .str x] => some (.nm ((es.map AVal.strOf).contains x) fun y => .nm (if y then ((es.map AVal.strOf).idxOf x : Int) else -1) fun i => .pure (okW 1 s es && (es.all strIs && lenOk es.length)) (.int .i64 i))
  | _ => none)
def putE : Ent := (50, fun xs _ => match xs with
  | [.slice es s t, .int .i64 i, .str x] => some (.pure (okW 1 s es && (es.all strIs && hold (decide (0 ≤ i ∧ i ≤ es.length ∧ es.length ≤ 1000000)))) (.slice (strv (insL (es.map AVal.strOf) i.toNat x)) 1 .ro))
  | _ => none)
def cutE : Ent := (52, fun xs _ => match xs with
  | [.slice es s t, .int .i64 i] => some (.pure (okW 1 s es && (es.all strIs && hold (decide (0 ≤ i ∧ i < es.length ∧ es.length ≤ 1000000)))) (.slice (strv (delL (es.map AVal.strOf) i.toNat)) 1 .ro))
  | _ => none)
def chE (f : FuncId) (g : Root → Lf → Txt → Ch) (k : AVal → AVal → Bool) : Ent := (f, fun xs _ => match xs with
  | [v, u, .str s] => some (.nm (g (rootOf v) (lfOf u) s) fun x => .pure (k v u) (.tuple [.agg [.slice (strv x.1.1) 1 .ro, .slice (iv x.1.2) 1 .ro], .slice (lfv x.2.1) 3 .ro, .int .i64 x.2.2]))
  | _ => none)
def insertE : Ent := chE 11 insN fun v u => rootM v && lfM u
def removeE : Ent := chE 18 remN fun v u => rootM v && lfM u
def insertRE : Ent := chE 19 insN fun v u => (rootM v && hold (shortL (rootOf v).1)) && (lfM u && hold (shortL (lfOf u).2.1))
def removeRE : Ent := chE 20 remN fun v u => (rootM v && hold (shortL (rootOf v).1)) && (lfM u && hold (shortL (lfOf u).2.1))
def textsE : Ent := (15, fun xs _ => match xs with
  | [.slice es s t, .slice fs s' t'] => some (.pure (okW 1 s es && (okW 1 s' fs && (es.all strIs && (fs.all strIs && lenOk es.length)))) (.bool (hold (es.map AVal.strOf == fs.map AVal.strOf))))
  | _ => none)
def sameRootE : Ent := (21, fun xs _ => match xs with
  | [v, u] => some (.pure (rootG v && rootG u) (.bool (hold (rootOf v == rootOf u))))
  | _ => none)
def sameE : Ent := (22, fun xs _ => match xs with
  | [.slice es s t, .slice fs s' t'] => some (.pure (okW 3 s es && (okW 3 s' fs && (es.all lfIs && (fs.all lfIs && (lenOk es.length && es.all lfG))))) (.bool (hold (es.map lfOf == fs.map lfOf))))
  | _ => none)
end
end Go.Proofs.Ytlfnmhfmikomkaa
/-
  Seat 11 (leaf): what is told of calls, 3 (the laws' own functions).
-/
set_option linter.unusedVariables false
namespace Go.Proofs.Ytlfnmhfmikomkaa
open Go.AL
def textsB (l : List Txt) : Bool := decide (l.length ≤ 30 ∧ ∀ s ∈ l, s.length ≤ 700)
def smallB (r : Root) (ls : List Lf) : Bool := decide (textsB r.1 = true ∧ r.2.length ≤ 40 ∧ ls.length ≤ 40 ∧ ∀ l ∈ ls, textsB l.2.1 = true)
theorem textsB_iff {l : List Txt} : textsB l = true ↔ l.length ≤ 30 ∧ ∀ s ∈ l, s.length ≤ 700 := by simp only [textsB, decide_eq_true_eq]
theorem smallB_iff {r : Root} {ls : List Lf} : smallB r ls = true ↔ textsB r.1 = true ∧ r.2.length ≤ 40 ∧ ls.length ≤ 40 ∧ ∀ l ∈ ls, textsB l.2.1 = true := by simp only [smallB, decide_eq_true_eq]
noncomputable section
def awakeE : Ent := (9, fun xs _ => match xs with
  | [] => some (.pure true (.bool true))
  | _ => none)
def lawTextsE : Ent := (44, fun xs _ => match xs with
  | [.slice es s t] => some (.pure (okW 1 s es && (es.all strIs && lenOk es.length)) (.bool (hold (textsB (es.map AVal.strOf)))))
  | _ => none)
def smallE : Ent := (17, fun xs _ => match xs with
  | [v, .slice es s t] => some (.pure (rootG v && (okW 3 s es && (es.all lfIs && (lenOk es.length && es.all lfG)))) (.bool (hold (smallB (rootOf v) (es.map lfOf)))))
  | _ => none)
end
end Go.Proofs.Ytlfnmhfmikomkaa
/-
  Seat 11 (leaf): what is told of calls, 4 (spans, and whether all is right).
-/
set_option linter.unusedVariables false
namespace Go.Proofs.Ytlfnmhfmikomkaa
open Go.AL
/-- The leaves that a span has. -/
def rangeN (r : Root) (a b : Txt) : List Int := if rootB r = true ∧ tlt a b = true then (r.2.drop (atN r.1 a)).take (posN r.1 b + 1 - atN r.1 a) else []
def outP (r : Root) (i : Int) (s : Txt) : Bool := decide ((atN r.1 s : Int) ≠ i)
def idxP (p : Txt → Bool) (l : List Txt) : Int := if l.any p then (l.findIdx p : Int) else -1
def rightB (r : Root) (ls : List Lf) : Bool := decide (rootB r = true ∧ ls.length = r.2.length ∧ ∀ i, i < ls.length → lfB (ls.getD i (0, [], false)) = true ∧ (ls.getD i (0, [], false)).1 = r.2.getD i 0 ∧ ∀ s ∈ (ls.getD i (0, [], false)).2.1, atN r.1 s = i)
noncomputable section
def rangeE : Ent := (13, fun xs _ => match xs with
  | [v, .str a, .str b] => some (.nm (rangeN (rootOf v) a b) fun x => .pure (rootM v) (.slice (iv x) 1 .ro))
  | _ => none)
def rangeRE : Ent := (23, fun xs _ => match xs with
  | [v, .str a, .str b] => some (.nm (rangeN (rootOf v) a b) fun x => .pure (rootM v && (hold (shortL (rootOf v).1) && hold (decide (a.length ≤ 1000000)))) (.slice (iv x) 1 .ro))
  | _ => none)
def rightRE : Ent := (25, fun xs _ => match xs with
  | [v, .slice es s t] => some (.pure (rootH v && (okW 3 s es && (es.all lfIs && (lenOk es.length && es.all lfH)))) (.bool (hold (rightB (rootOf v) (es.map lfOf)))))
  | _ => none)
def rightE : Ent := (24, fun xs _ => match xs with
  | [v, .slice es s t] => some (.pure (rootG v && (okW 3 s es && (es.all lfIs && (lenOk es.length && es.all lfG)))) (.bool (hold (rightB (rootOf v) (es.map lfOf)))))
  | _ => none)
end
end Go.Proofs.Ytlfnmhfmikomkaa
/-
  Seat 11 (leaf): what is told of calls, 5 (a function value).
-/
set_option linter.unusedVariables false
namespace Go.Proofs.Ytlfnmhfmikomkaa
open Go.AL
noncomputable section
def right1E : Ent := (53, fun xs _ => match xs with
  | [.str s, .iptr cs, .iptr [.int .i64 i]] => some (.pure (rootG (.agg cs) && hold (riseL (rootOf (.agg cs)).1)) (.bool (hold (outP (rootOf (.agg cs)) i s))))
  | _ => none)
def isRight1 (g : FuncId) : Bool := Nat.beq g 53
def indexFE : Ent := (72, fun xs _ => match xs with
  | [.slice es s t, .func (.func g) [] [.iptr cs, .iptr [.int .i64 i]]] => some (.nm (idxP (outP (rootOf (.agg cs)) i) (es.map AVal.strOf)) fun y => .pure (isRight1 g && (okW 1 s es && (es.all strIs && (lenOk es.length && (rootG (.agg cs) && hold (riseL (rootOf (.agg cs)).1)))))) (.int .i64 y))
  | _ => none)
def containsFE : Ent := (55, fun xs _ => match xs with
  | [.slice es s t, .func (.func g) [] [.iptr cs, .iptr [.int .i64 i]]] => some (.pure (isRight1 g && (okW 1 s es && (es.all strIs && (lenOk es.length && (rootG (.agg cs) && hold (riseL (rootOf (.agg cs)).1)))))) (.bool (hold ((es.map AVal.strOf).any (outP (rootOf (.agg cs)) i)))))
  | _ => none)
end
end Go.Proofs.Ytlfnmhfmikomkaa
