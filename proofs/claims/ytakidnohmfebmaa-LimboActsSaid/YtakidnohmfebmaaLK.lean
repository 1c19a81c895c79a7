/-
  Seat 12 (limbo): a limbo and maps of keys in a walk of the kit's.
-/
import Derived.Test.YtakidnohmfebmaaA19
import Derived.Test.YtakidnohmfebmaaLz
import Derived.WalkKit
import Derived.WalkSmall
import Derived.Laws.OwnMore
import Derived.Maps.AppendAt
import Derived.Maps.OwnSet
import Derived.BigCall
import Derived.BigGuard
import Derived.BigRegion
import Derived.Deep.RegionHeldLaw
namespace Go.Proofs.Ytakidnohmfebmaa
open Go.AL
set_option linter.unusedSimpArgs false
set_option linter.unusedVariables false
def keyCs (k : Key) : List Value := [.int .i64 k.1, .int .i64 k.2.1, .int .i64 k.2.2.1, .string ⟨k.2.2.2.toArray⟩]
def keyVal (k : Key) : Value := .agg #[.int .i64 k.1, .int .i64 k.2.1, .int .i64 k.2.2.1, .string ⟨k.2.2.2.toArray⟩]
theorem repL_key (γ : Gh) (w : World) (l : Bool) (k : Key) : RepL γ w l (keyC k) (keyCs k) := .cons (.int _ _ _) (.cons (.int _ _ _) (.cons (.int _ _ _) (.cons (.str _ _) (.nil _))))
theorem rep_key (γ : Gh) (w : World) (l : Bool) (k : Key) : Rep γ w l (keyV k) (keyVal k) := .agg (repL_key γ w l k) (by
  intro v hv
  simp [keyCs] at hv
  rcases hv with rfl | rfl | rfl | rfl <;> rfl)
theorem repL_keyV {γ : Gh} {w : World} {l : Bool} {k : Key} {vs : List Value} (h : RepL γ w l (keyC k) vs) : vs = keyCs k := by
  cases h with
  | cons h1 h => cases h with
    | cons h2 h => cases h with
      | cons h3 h => cases h with
        | cons h4 h => cases h; cases h1; cases h2; cases h3; cases h4; rfl
theorem kOk_key (k : Key) : kOk Try.prog 30 (keyV k) = true := by
  have := keysOk_mv [(k, 0)]
  simp only [keysOk, mv, List.map_cons, List.map_nil, List.all_cons, List.all_nil, Bool.and_true] at this
  exact this
abbrev MapK (w : World) (b : Nat) (m : List (Key × Int)) : Prop := MapG Try.prog 30 w b (mv m)
theorem nums_mv (m : List (Key × Int)) : numsOk (mv m) := by
  intro x hx
  obtain ⟨y, _, rfl⟩ := List.mem_map.1 hx
  exact ⟨y.2, rfl⟩
theorem look_mv (k : Key) (m : List (Key × Int)) : lookN (keyV k) (mv m) = epochOf m k := by
  have := mapFind_mv k m 0
  unfold lookN
  cases hm : mapFind (keyV k) (mv m) 0 with
  | none => rw [hm] at this; rw [this]; rfl
  | some x =>
    rw [hm] at this
    obtain ⟨e, h1, h2⟩ := this
    rw [h1, Option.map_some, h2]; rfl
theorem zeroI (w : World) : (zeroValue 3).run Try.prog w = .ok (.int .i64 0) w := by kernel_rfl
theorem MapK.look {w : World} {b : Nat} {m : List (Key × Int)} (h : MapK w b m) (k : Key) : (Instr.lookup 27 (.map (some b)) (keyVal k) false).run Try.prog w = .ok (.int .i64 ((epochOf m k).getD 0)) w ∧
    (Instr.lookup 27 (.map (some b)) (keyVal k) true).run Try.prog w = .ok (.tuple #[.int .i64 ((epochOf m k).getD 0), .bool (epochOf m k).isSome]) w := by
  have := h.lookup (nums_mv m) Try.underlying27 (zeroI w) (kOk_key k) (rep_key _ _ _ k)
  rwa [look_mv] at this
theorem MapK.put {w : World} {b : Nat} {m : List (Key × Int)} (h : MapK w b m) (k : Key) (x : Int) : ∃ w1, (Instr.mapUpdate 27 (.map (some b)) (keyVal k) (.int .i64 x)).run Try.prog w = .ok () w1 ∧ MapK w1 b (putM k x m) ∧ MapChg w w1 b := by
  have := h.update (nums_mv m) Try.underlying27 (kOk_key k) (rep_key _ _ _ k) x
  rwa [mapPut_mv] at this
theorem MapK.inc {w : World} {b : Nat} {m : List (Key × Int)} (h : MapK w b m) (k : Key) (x : Int) : ∃ st w1 w2, (Instr.mapEntry 27 (.map (some b)) (keyVal k)).run Try.prog w = .ok (.tuple #[.int .i64 ((epochOf m k).getD 0), goInt st]) w1 ∧
      (Instr.lookup 27 (.map (some b)) (keyVal k) false).run Try.prog w1 = .ok (.int .i64 ((epochOf m k).getD 0)) w1 ∧
      (Instr.entryStore 27 (.map (some b)) (goInt st) (.int .i64 x)).run Try.prog w1 = .ok () w2 ∧ MapK w2 b (putM k x m) ∧ MapChg w w1 b ∧ MapChg w1 w2 b := by
  have := h.entry (nums_mv m) Try.underlying27 zeroI (kOk_key k) (rep_key _ _ _ k) x
  rwa [mapPut_mv, look_mv] at this
theorem MapK.size {w : World} {b : Nat} {m : List (Key × Int)} (h : MapK w b m) (ty : TypeId) : (Builtin.len_ #[27] ty #[.map (some b)]).run Try.prog w = .ok (.int .i64 m.length) w := by
  have := h.len Try.underlying27 ty
  rwa [mv_length] at this
theorem flat_get {α : Type} (f : α → AVal) (s : Nat) (hs : ∀ x, (f x).cells.length = s) : ∀ (l : List α) (i j : Nat) (h : i < l.length), j < s → (flat (l.map f))[i * s + j]? = (f l[i]).cells[j]?
  | [], i, j, h, _ => by simp at h
  | x :: l, 0, j, h, hj => by
    simp only [flat, List.map_cons, List.flatMap_cons, Nat.zero_mul, Nat.zero_add, List.getElem_cons_zero]
    rw [List.getElem?_append_left (by rw [hs]; exact hj)]
  | x :: l, i + 1, j, h, hj => by
    have := flat_get f s hs l i j (by simpa using h) hj
    simp only [flat, List.map_cons, List.flatMap_cons, List.getElem_cons_succ] at this ⊢
    rw [List.getElem?_append_right (by rw [hs, Nat.add_mul]; omega), hs, show (i + 1) * s + j - s = i * s + j by rw [Nat.add_mul]; omega]
    exact this
/-- Keys that lie in a row. -/
def KeysP (w : World) (v : Value) (l : List Key) : Prop :=
  (l = [] ∧ ∃ a, v = .slice a 0 0) ∨
  ∃ b off cap, v = .slice (some ⟨b, off, none⟩) l.length cap ∧ ∀ i (h : i < l.length), b < w.heap.size ∧ w.cell? ⟨b, off + i * 4, none⟩ = some (.int .i64 l[i].1) ∧ w.cell? ⟨b, off + i * 4 + 1, none⟩ = some (.int .i64 l[i].2.1) ∧
    w.cell? ⟨b, off + i * 4 + 2, none⟩ = some (.int .i64 l[i].2.2.1) ∧ w.cell? ⟨b, off + i * 4 + 3, none⟩ = some (.string ⟨l[i].2.2.2.toArray⟩)
theorem rep_keys {γ : Gh} {w : World} {b : Bool} {l : List Key} {v : Value} {t : Tag} (h : Rep γ w b (.slice (kv l) 4 t) v) : KeysP w v l := by
  generalize he : kv l = es at h
  cases h with
  | @sliceRow _ _ _ _ b off cap vs h1 h2 h3 h4 h5 h6 h7 =>
    subst he
    refine .inr ⟨b, off, cap, by simp, fun i hi => ?_⟩
    have g := fun j hj => flat_get keyV 4 (fun _ => rfl) l i j hi hj
    obtain ⟨u0, hu0, hr0⟩ := h1.get (g 0 (by omega))
    obtain ⟨u1, hu1, hr1⟩ := h1.get (g 1 (by omega))
    obtain ⟨u2, hu2, hr2⟩ := h1.get (g 2 (by omega))
    obtain ⟨u3, hu3, hr3⟩ := h1.get (g 3 (by omega))
    cases hr0; cases hr1; cases hr2; cases hr3
    have hc0 := (h3 _ _ hu0).2
    exact ⟨World.block_lt_of_cell? _ _ hc0, hc0, (h3 _ _ hu1).2, (h3 _ _ hu2).2, (h3 _ _ hu3).2⟩
  | sliceNil => exact .inl ⟨(by cases l with | nil => rfl | cons => cases he), _, rfl⟩
def IntsP (w : World) (v : Value) (l : List Int) : Prop :=
  (l = [] ∧ ∃ a, v = .slice a 0 0) ∨ ∃ b off cap, v = .slice (some ⟨b, off, none⟩) l.length cap ∧ ∀ i (h : i < l.length), b < w.heap.size ∧ w.cell? ⟨b, off + i, none⟩ = some (.int .i64 l[i])
theorem rep_ints {γ : Gh} {w : World} {b : Bool} {l : List Int} {v : Value} {t : Tag} (h : Rep γ w b (.slice (l.map fun n => AVal.int .i64 n) 1 t) v) : IntsP w v l := by
  generalize he : (l.map fun n => AVal.int .i64 n) = es at h
  cases h with
  | @sliceRow _ _ _ _ b off cap vs h1 h2 h3 h4 h5 h6 h7 =>
    subst he
    refine .inr ⟨b, off, cap, by simp, fun i hi => ?_⟩
    have g := flat_get (fun n => AVal.int .i64 n) 1 (fun _ => rfl) l i 0 hi (by omega)
    rw [Nat.mul_one, Nat.add_zero] at g
    obtain ⟨u0, hu0, hr0⟩ := h1.get g
    cases hr0
    have hc0 := (h3 _ _ hu0).2
    exact ⟨World.block_lt_of_cell? _ _ hc0, hc0⟩
  | sliceNil => exact .inl ⟨(by cases l with | nil => rfl | cons => cases he), _, rfl⟩
theorem KeysP.keep {w w' : World} {v : Value} {l : List Key} (h : KeysP w v l) (hs : w.heap.size ≤ w'.heap.size) (hb : ∀ b, b < w.heap.size → (∃ off cap, v = .slice (some ⟨b, off, none⟩) l.length cap) → w'.heap[b]? = w.heap[b]?) : KeysP w' v l := by
  rcases h with h | ⟨b, off, cap, rfl, h⟩
  · exact .inl h
  · refine .inr ⟨b, off, cap, rfl, fun i hi => ?_⟩
    obtain ⟨h0, h1, h2, h3, h4⟩ := h i hi
    have e : ∀ o, w'.cell? ⟨b, o, none⟩ = w.cell? ⟨b, o, none⟩ := fun o => World.cell?_of_block (a := ⟨b, o, none⟩) (hb b h0 ⟨off, cap, rfl⟩)
    exact ⟨by omega, (e _).trans h1, (e _).trans h2, (e _).trans h3, (e _).trans h4⟩
/-- The limbo's store: what it is called with. -/
theorem newK : ACall Try.prog 7 [] Sto.empty fun r τ => r = .ptr (.out 1) 0 ∧ τ = limS 0 [] [] := new_ok [] Sto.empty (by simp [isNew, hold_eq])
theorem lenK (N : Nat) (row : List Key) (m : List (Key × Int)) : ACall Try.prog 10 [.ptr (.out 1) 0] (limS N row m) fun r τ => r = .int .i64 row.length ∧ τ = limS N row m := by
  have : FCall Try.prog 10 [.ptr (.out 1) 0] (limS N row m) (.int .i64 (kv row).length) (limS N row m) := len_ok [.ptr (.out 1) 0] (limS N row m) rfl
  rw [kv_length] at this
  exact this
theorem epochK (N : Nat) (row : List Key) (m : List (Key × Int)) (k : Key) : ACall Try.prog 9 [.ptr (.out 1) 0, keyV k] (limS N row m) fun r τ => r = .tuple [.int .i64 ((epochOf m k).getD 0), .bool (epochOf m k).isSome] ∧ τ = limS N row m := by
  have key : isMv (mv m) = true → FCall Try.prog 9 [.ptr (.out 1) 0, keyV k] (limS N row m) (.tuple [.int .i64 ((epochOf (valOf (mv m)) k).getD 0), .bool (hold (epochOf (valOf (mv m)) k).isSome)]) (limS N row m) :=
    epoch_ok [.ptr (.out 1) 0, keyV k] (limS N row m)
  have h := key (by simp only [isMv, hold_eq, decide_eq_true_eq, valOf_mv])
  rw [valOf_mv, hold_eq] at h
  exact h
end Go.Proofs.Ytakidnohmfebmaa
