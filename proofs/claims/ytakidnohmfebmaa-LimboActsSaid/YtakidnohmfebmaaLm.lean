/-
  Seat 12 (limbo): keys, rows of keys, a limbo's store.
-/
import Derived.Test.YtakidnohmfebmaaH
import Derived.Test.YtakidnohmfebmaaA18
import Derived.Test.YtakidnohmfebmaaB0
namespace Go.Proofs.Ytakidnohmfebmaa
open Go.AL
set_option linter.unusedSimpArgs false
set_option linter.unusedVariables false

abbrev Key := Int × Int × Int × List UInt8
def keyV (k : Key) : AVal := .agg [.int .i64 k.1, .int .i64 k.2.1, .int .i64 k.2.2.1, .str k.2.2.2]
def kv (ks : List Key) : List AVal := ks.map keyV
def keyC (k : Key) : List AVal := [.int .i64 k.1, .int .i64 k.2.1, .int .i64 k.2.2.1, .str k.2.2.2]
def keyIs : AVal → Bool
  | .agg [.int .i64 _, .int .i64 _, .int .i64 _, .str _] => true
  | _ => false
def keyOf : AVal → Key
  | .agg [.int .i64 a, .int .i64 b, .int .i64 c, .str s] => (a, b, c, s)
  | _ => (0, 0, 0, [])
def mv (m : List (Key × Int)) : List (AVal × AVal) := m.map fun x => (keyV x.1, .int .i64 x.2)
/-- An epoch, of a key that is there. -/
def epochOf (m : List (Key × Int)) (k : Key) : Option Int := (m.find? fun x => x.1 == k).map (·.2)
def putM (k : Key) (e : Int) (m : List (Key × Int)) : List (Key × Int) :=
  match m with
  | [] => [(k, e)]
  | x :: r => if x.1 = k then (k, e) :: r else x :: putM k e r
def delM (k : Key) (m : List (Key × Int)) : List (Key × Int) :=
  match m with
  | [] => []
  | x :: r => if x.1 = k then r else x :: delM k r

/-- A limbo: object 1; its map: object 0; its row bears permission N. -/
def limS (N : Nat) (row : List Key) (m : List (Key × Int)) : Sto where
  nobj := 2
  obj := fun n => if n = 0 then some (.map (mv m)) else if n = 1 then some (.cells [.slice (kv row) 4 (.own N), .map (.out 0)]) else none
  nown := N + 1
  own := fun p => if p = N then some row.length else none

@[simp] theorem kv_length (ks : List Key) : (kv ks).length = ks.length := by simp [kv]
theorem kv_append (a b : List Key) : kv (a ++ b) = kv a ++ kv b := by simp [kv]
theorem elemAt_kv (ks : List Key) (i : Nat) (h : i < ks.length) : elemAt (kv ks) (i : Int) = keyC ks[i] := elemAt_map keyV ks i h
theorem kv_noOut (n : Nat) (ks : List Key) : noOutL n (kv ks) = true := noOutL_map n (fun _ => rfl) ks
theorem kv_noTok (n : Nat) (ks : List Key) : noTokL n (kv ks) = true := noTokL_map n (fun _ => rfl) ks
theorem kv_noLoc (ks : List Key) : noLocL (kv ks) = true := noLocL_map (fun _ => rfl) ks
theorem keyOf_keyV (k : Key) : keyOf (keyV k) = k := rfl
@[simp] theorem map_keyOf (ks : List Key) : (kv ks).map keyOf = ks := by
  simp only [kv, List.map_map]
  conv => rhs; rw [← List.map_id ks]
  exact List.map_congr_left fun b _ => rfl
@[simp] theorem kv_is (ks : List Key) : (kv ks).all keyIs = true := by simp [kv, keyIs, keyV]
theorem keyIs_of {v : AVal} (h : keyIs v = true) : v = keyV (keyOf v) := by
  unfold keyIs at h
  split at h
  · rfl
  · cases h
theorem kv_of {es : List AVal} (h : es.all keyIs = true) : es = kv (es.map keyOf) := by
  induction es with
  | nil => rfl
  | cons e es ih =>
    simp only [List.all_cons, Bool.and_eq_true] at h
    have := ih h.2
    simp only [kv, List.map_cons] at this ⊢
    rw [← this, ← keyIs_of h.1]
theorem wk_kv {s : Nat} {es : List AVal} (t : Tag) (hn : okW 4 s es = true) (h : es.all keyIs = true) : Wk (.slice es s t) (.slice (kv (es.map keyOf)) 4 .ro) := by
  rw [← kv_of h]
  exact wkW t hn

theorem eqK_key (a b : Key) : eqK (keyV a) (keyV b) = decide (a = b) := by
  obtain ⟨a1, a2, a3, a4⟩ := a
  obtain ⟨b1, b2, b3, b4⟩ := b
  simp only [eqK, keyV, eqCs, eqC, Bool.and_true]
  rw [Bool.eq_iff_iff]
  simp
theorem mapFind_mv (k : Key) : ∀ (m : List (Key × Int)) (i : Nat), match mapFind (keyV k) (mv m) i with
    | none => epochOf m k = none
    | some x => ∃ e, epochOf m k = some e ∧ x.2 = .int .i64 e := by
  intro m
  induction m with
  | nil => intro i; rfl
  | cons x m ih =>
    intro i
    simp only [mv, List.map_cons, mapFind, eqK_key]
    by_cases h : k = x.1
    · simp only [h, decide_true]
      exact ⟨x.2, by simp [epochOf], rfl⟩
    · simp only [decide_eq_false h]
      have := ih (i + 1)
      have he : epochOf (x :: m) k = epochOf m k := by
        simp only [epochOf, List.find?_cons]
        have : (x.1 == k) = false := by simp only [beq_eq_false_iff_ne]; exact fun e => h e.symm
        rw [this]
      rw [he]
      simp only [mv] at this
      exact this
theorem mapVal_mv (k : Key) (z : AVal) (m : List (Key × Int)) : mapVal (keyV k) z (mv m) = match epochOf m k with | some e => .int .i64 e | none => z := by
  have := mapFind_mv k m 0
  unfold mapVal
  cases hm : mapFind (keyV k) (mv m) 0 with
  | none => rw [hm] at this; rw [this]
  | some x => rw [hm] at this; obtain ⟨e, h1, h2⟩ := this; rw [h1]; exact h2
theorem mapFind_isSome (k : Key) (m : List (Key × Int)) : (mapFind (keyV k) (mv m) 0).isSome = (epochOf m k).isSome := by
  have := mapFind_mv k m 0
  cases hm : mapFind (keyV k) (mv m) 0 with
  | none => rw [hm] at this; rw [this]; rfl
  | some x => rw [hm] at this; obtain ⟨e, h1, h2⟩ := this; rw [h1]; rfl
theorem mapPut_go (k : Key) (e : Int) : ∀ (m : List (Key × Int)) (i : Nat), (match mapFind (keyV k) (mv m) i with | some x => (mv m).set (x.1 - i) (keyV k, .int .i64 e) | none => mv m ++ [(keyV k, .int .i64 e)]) = mv (putM k e m)
  | [], i => rfl
  | x :: m, i => by
    simp only [mv, List.map_cons, mapFind, eqK_key, putM]
    by_cases h : k = x.1
    · simp [h]
    · simp only [decide_eq_false h]
      rw [if_neg (fun e => h e.symm)]
      have ih := mapPut_go k e m (i + 1)
      have hs := mapFind_spec (keyV k) (mv m) (i + 1)
      simp only [mv, List.map_cons] at ih hs ⊢
      cases hm : mapFind (keyV k) (m.map fun x => (keyV x.1, AVal.int .i64 x.2)) (i + 1) with
      | none => rw [hm] at ih; simp only [List.cons_append]; rw [← ih]
      | some y =>
        rw [hm] at ih hs
        obtain ⟨j, z, h1, h2, _⟩ := hs
        simp only [] at ih ⊢
        rw [← ih, show y.1 - i = (y.1 - (i + 1)) + 1 by omega]
        rfl
theorem mapPut_mv (k : Key) (e : Int) (m : List (Key × Int)) : mapPut (keyV k) (.int .i64 e) (mv m) = mv (putM k e m) := mapPut_go k e m 0
theorem mapDel_go (k : Key) : ∀ (m : List (Key × Int)) (i : Nat), (match mapFind (keyV k) (mv m) i with | some x => (mv m).eraseIdx (x.1 - i) | none => mv m) = mv (delM k m)
  | [], i => rfl
  | x :: m, i => by
    simp only [mv, List.map_cons, mapFind, eqK_key, delM]
    by_cases h : k = x.1
    · simp [h]
    · simp only [decide_eq_false h]
      rw [if_neg (fun e => h e.symm)]
      have ih := mapDel_go k m (i + 1)
      have hs := mapFind_spec (keyV k) (mv m) (i + 1)
      simp only [mv, List.map_cons] at ih hs ⊢
      cases hm : mapFind (keyV k) (m.map fun x => (keyV x.1, AVal.int .i64 x.2)) (i + 1) with
      | none => rw [hm] at ih; simp only []; rw [← ih]
      | some y =>
        rw [hm] at ih hs
        obtain ⟨j, z, h1, h2, _⟩ := hs
        simp only [] at ih ⊢
        rw [← ih, show y.1 - i = (y.1 - (i + 1)) + 1 by omega]
        rfl
theorem mapDel_mv (k : Key) (m : List (Key × Int)) : mapDel (keyV k) (mv m) = mv (delM k m) := mapDel_go k m 0
theorem mv_length (m : List (Key × Int)) : (mv m).length = m.length := by simp [mv]

theorem limS_row (N : Nat) (row row' : List Key) (m : List (Key × Int)) : ((limS N row m).setOwn N row'.length).set 1 (.cells [.slice (kv row') 4 (.own N), .map (.out 0)]) = limS N row' m := by
  simp only [limS, Sto.setOwn, Sto.set, Sto.mk.injEq, true_and]
  refine ⟨?_, ?_⟩
  · funext n; by_cases h : n = 1
    · simp [h]
    · simp [h]
  · funext q; by_cases h : q = N <;> simp [h]
theorem limS_map (N : Nat) (row : List Key) (m m' : List (Key × Int)) : (limS N row m).set 0 (.map (mv m')) = limS N row m' := by
  simp only [limS, Sto.set, Sto.mk.injEq, true_and, and_true]
  funext n; by_cases h : n = 0
  · simp [h]
  · simp [h]
end Go.Proofs.Ytakidnohmfebmaa
